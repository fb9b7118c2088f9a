/- append(v, make([]T, m)...): the noughts behind a row of one's own. head: Put. head: Get. A map as an association list (MapL), and a range over it (RangeL): lookups, stores, deletes, len, range, said once for all walks of this seat. The walk's stop at an element of a map's literal. No condition. -/
import Derived.Test.YtbnahidopemkiaaGreatRd
import Derived.Laws.AppendOwn
import Derived.Test.YtbnahidopemkiaaGreatSg5
set_option linter.unusedVariables false
set_option linter.unusedSimpArgs false
namespace Go.Dm
open Go
section
variable {P : Program} (w : World)
theorem run_zeros_room (t it ty e : TypeId) (i : TypeInfo) (z : Value) (ht : P.underlying t = some (.slice e)) (hit : P.underlying it = some (.int .i64)) (hi : P.info? e = some i) (hz : i.zero = some z)
    (g sLen sCap : Nat) (cur : Array Value) (hg : w.heap[g]? = some (.cells cur e (0, 0))) (m : Nat) (hm : 0 < m) (hm63 : m ≤ maxLen) (hms : m * i.size ≠ 0) (h48 : m * i.bytes ≤ 281474976710656)
    (h1 : ∀ u ∈ (Builtin.zeroCells z.cells m).toList, u.oneCell' = true)
    (hroom : sLen + m ≤ sCap) (hfit : sLen * i.size + (Builtin.zeroCells z.cells m).size ≤ cur.size) :
    (Builtin.append_ #[t, it] ty #[.slice (some ⟨g, 0, none⟩) sLen sCap, .int .i64 (m : Int)]).run P w =
      .ok (.slice (some ⟨g, 0, none⟩) (sLen + m) sCap) (w.setRow g (cur.toList.take (sLen * i.size) ++ (Builtin.zeroCells z.cells m).toList ++ cur.toList.drop (sLen * i.size + (Builtin.zeroCells z.cells m).toList.length)).toArray) := by
  have hst := run_storeCells_at P g (sLen * i.size) e (Builtin.zeroCells z.cells m).toList 0 cur w hg (by simpa using hfit) h1
  simp only [Nat.add_zero] at hst
  have hw : IntKind.i64.wrap (m : Int) = (m : Int) := IntWalk.i64_in _ (by unfold maxLen at hm63; omega)
  have hneg : ¬ ((m : Int) < 0) := by omega
  have hbig : ¬ ((281474976710656 : Int) < (m : Int) * (i.bytes : Int)) := by omega
  have h0 : ¬ (m = 0 ∨ i.size = 0) := by
    rintro (h | h)
    · omega
    · exact hms (by rw [h]; rfl)
  simp [Builtin.append_, run_underlying ht, run_underlying hit, sizeOf, typeInfo, zeroValue, hi, hz, asInt, asIntOf, hw, hneg, hbig, hms, hroom, Addr.add_lit, hst]
theorem run_zeros_grow (t it ty e : TypeId) (i : TypeInfo) (z : Value) (ht : P.underlying t = some (.slice e)) (hit : P.underlying it = some (.int .i64)) (hi : P.info? e = some i) (hz : i.zero = some z)
    (b : Option Addr) (sLen sCap : Nat) (olds : List Value) (hlo : olds.length = sLen * i.size) (hf : ∀ w', w'.heap = w.heap → (Builtin.firstCells i.size sLen (.slice b sLen sCap)).run P w' = .ok olds.toArray w')
    (m : Nat) (hm : 0 < m) (hm63 : m ≤ maxLen) (hms : m * i.size ≠ 0) (h48 : m * i.bytes ≤ 281474976710656)
    (hg : sCap < sLen + m) (h63 : ((sLen + m : Nat) : Int) ≤ 9223372036854775807) (hfit : Builtin.nextslicecap (sLen + m) sCap * i.bytes ≤ 281474976710656) :
    (Builtin.append_ #[t, it] ty #[.slice b sLen sCap, .int .i64 (m : Int)]).run P w =
      .ok (.slice (some ⟨w.heap.size, 0, none⟩) (sLen + m) (grownCap w (sLen + m) sCap e))
        (w.drew.alloc (.cells (olds.toArray ++ Builtin.zeroCells z.cells m ++ Builtin.zeroCells z.cells (grownCap w (sLen + m) sCap e - (sLen + m))) e)) := by
  have hw : IntKind.i64.wrap (m : Int) = (m : Int) := IntWalk.i64_in _ (by unfold maxLen at hm63; omega)
  have hneg : ¬ ((m : Int) < 0) := by omega
  have hbig : ¬ ((281474976710656 : Int) < (m : Int) * (i.bytes : Int)) := by omega
  have h0 : ¬ (m = 0 ∨ i.size = 0) := by
    rintro (h | h)
    · omega
    · exact hms (by rw [h]; rfl)
  have hn : ¬ (sLen + m ≤ sCap) := by omega
  have h63' : ¬ (9223372036854775807 < ((sLen : Int) + (m : Int))) := by omega
  have h48' : ¬ (281474976710656 < Builtin.nextslicecap (sLen + m) sCap * i.bytes) := by omega
  have hf2 := hf w.drew rfl
  simp [Builtin.append_, run_underlying ht, run_underlying hit, sizeOf, typeInfo, zeroValue, hi, hz, asInt, asIntOf, hw, hneg, hbig, hms, hn, h63', h48', Question.forced, hf2, newRow, grownCap]
/-- append(v, make([]T, m)...) onto a row of one's own -/
theorem run_zeros_own (base : Nat) (t it ty e : TypeId) (z : Value) (size bytes : Nat) (ht : P.underlying t = some (.slice e)) (hit : P.underlying it = some (.int .i64)) (hi : (P.info? e).map (fun i => (i.zero, i.size, i.bytes)) = some (some z, size, bytes))
    (hzs : z.cells.size = size) (hsz : 0 < size) {v : Value} {n m : Nat} {xs : List Value} (hown : w.ownsRow base e size v n xs) (hm : 0 < m) (h1 : ∀ u ∈ (Builtin.zeroCells z.cells m).toList, u.oneCell' = true)
    (h63 : n + m ≤ maxLen) (hbytes : (n + m) * bytes ≤ 140737488355328) (hbase : base ≤ w.heap.size) :
    ∃ v' w', (Builtin.append_ #[t, it] ty #[v, .int .i64 (m : Int)]).run P w = .ok v' w' ∧ w'.ownsRow base e size v' (n + m) (xs ++ (Builtin.zeroCells z.cells m).toList) ∧ w.grownBy w' v.ownBlock ∧ (v'.ownBlock = v.ownBlock ∨ v'.ownBlock = some w.heap.size) := by
  obtain ⟨i, hi', hz0, hz1, hz2⟩ := info_parts hi
  clear hi
  have hi := hi'
  clear hi'
  subst hz1
  subst hz2
  have hl : (Builtin.zeroCells z.cells m).toList.length = m * i.size := by rw [Array.length_toList, size_zeroCells, hzs]
  have hms : m * i.size ≠ 0 := by
    have := Nat.mul_pos hm hsz
    omega
  have hmb : m * i.bytes ≤ 281474976710656 := by
    have := Nat.mul_le_mul_right i.bytes (show m ≤ n + m by omega)
    omega
  have hlen : (xs ++ (Builtin.zeroCells z.cells m).toList).length = (n + m) * i.size := by rw [List.length_append, hown.1, hl, Nat.add_mul]
  have grown : ∀ (old : Nat), old < n + m → ∀ (row : Option Nat),
      (w.drew.alloc (.cells (xs.toArray ++ Builtin.zeroCells z.cells m ++ Builtin.zeroCells z.cells (grownCap w (n + m) old e - (n + m))) e)).ownsRow base e i.size
        (.slice (some ⟨w.heap.size, 0, none⟩) (n + m) (grownCap w (n + m) old e)) (n + m) (xs ++ (Builtin.zeroCells z.cells m).toList) ∧
      w.grownBy (w.drew.alloc (.cells (xs.toArray ++ Builtin.zeroCells z.cells m ++ Builtin.zeroCells z.cells (grownCap w (n + m) old e - (n + m))) e)) row := by
    intro old ho row
    have hge := grownCap_ge w (n + m) old e
    have hcm : grownCap w (n + m) old e ≤ maxLen := grownCap_le_maxLen w (n + m) old e h63
    refine ⟨⟨hlen, .inr ⟨w.heap.size, _, _, rfl, hbase, heap_alloc_new w.drew _, hge, hcm, ?_, ?_⟩⟩, ⟨rfl, rfl, rfl, by simp, fun k hk hne => (World.grownBy_alloc w.drew _ row).block k hk hne⟩⟩
    · simp only [Array.size_append, List.size_toArray, size_zeroCells, hzs, hown.1, ← Nat.add_mul]
      congr 1
      omega
    · simp only [Array.toList_append, List.append_assoc]
      rw [← List.append_assoc, ← hlen]
      exact List.take_left
  have hsmall : n + m ≤ 9223372036854775807 := by simp only [maxLen] at h63; omega
  rcases hown.2 with ⟨rfl, rfl⟩ | ⟨g, cap, cur, rfl, hbg, hg, hnc, hcm, hcs, htake⟩
  · have hx : xs = [] := List.eq_nil_of_length_eq_zero (by simpa using hown.1)
    subst hx
    have hr := run_zeros_grow (P := P) w t it ty e i z ht hit hi hz0 none 0 0 [] (by simp) (fun w' _ => by simp [Builtin.firstCells]) m hm (by omega) hms hmb (by omega) (by omega) (growslice_fits (by omega) hbytes)
    have hgr := grown 0 (by omega) (Value.ownBlock (.slice none 0 0))
    exact ⟨_, _, hr, hgr.1, hgr.2, .inr rfl⟩
  · by_cases hroom : n + m ≤ cap
    · have hfit : n * i.size + (Builtin.zeroCells z.cells m).size ≤ cur.size := by rw [← Array.length_toList, hl, hcs, ← Nat.add_mul]; exact Nat.mul_le_mul_right _ hroom
      have hr := run_zeros_room (P := P) w t it ty e i z ht hit hi hz0 g n cap cur hg m hm (by omega) hms hmb h1 hroom hfit
      refine ⟨_, _, hr, ⟨hlen, .inr ⟨g, cap, _, rfl, hbg, setRow_heap w g cur _ e _ hg, hroom, hcm, ?_, ?_⟩⟩, ⟨rfl, rfl, rfl, by simp, fun k _ hk => setRow_other w g k _ (fun e => hk (by simp [Value.ownBlock, e]))⟩, .inl rfl⟩
      · simp only [List.size_toArray, List.length_append, List.length_take, List.length_drop, Array.length_toList]
        rw [← Array.length_toList (xs := Builtin.zeroCells z.cells m), hl] at hfit ⊢
        omega
      · rw [htake, ← hlen]
        exact List.take_left
    · have holds : ∀ j u, xs[j]? = some u → w.cell? ((⟨g, 0, none⟩ : Addr).add j) = some u := hown.cells (g := g) rfl
      have hr := run_zeros_grow (P := P) w t it ty e i z ht hit hi hz0 (some ⟨g, 0, none⟩) n cap xs hown.1 (fun w' hw' => run_firstCells_some (P := P) w' i.size n ⟨g, 0, none⟩ n cap xs hown.1 (fun j u hu => by
        have := holds j u hu
        rwa [World.cell?_of_block (w := w) (by rw [hw'])])) m hm (by omega) hms hmb (by omega) (by omega) (growslice_fits (by omega) hbytes)
      have hgr := grown cap (by omega) (Value.ownBlock (.slice (some ⟨g, 0, none⟩) n cap))
      exact ⟨_, _, hr, hgr.1, hgr.2, .inr rfl⟩
end
theorem zeroCells_u8 (n : Nat) : (Builtin.zeroCells (Value.int .u8 0).cells n).toList = (List.replicate n (0 : UInt8)).map bv := by
  apply List.ext_getElem
  · simp [Builtin.zeroCells, Value.cells]
  · intro i h1 h2
    simp [Builtin.zeroCells, Value.cells, bv, Nat.mod_one]
end Go.Dm
namespace Go.Proofs.YtbnahidopemkiaaGreat
open Go.RowKit Go.Dm Go.Dm.Oc Go.Dm.Ld
section
variable {A : Nat → Prop} {w : World}
/-- a block known whole is a row of one's own -/
theorem own_blk {g base n size : Nat} {cs : Array Value} {t : TypeId} (h : Blk w g cs t) (hb : base ≤ g) (hs : cs.size = n * size) (hn : n ≤ maxLen) : w.ownsRow base t size (.slice (some ⟨g, 0, none⟩) n n) n cs.toList :=
  ⟨by simpa using hs, .inr ⟨g, n, cs, rfl, hb, h, Nat.le_refl _, hn, hs, by rw [List.take_of_length_le]; rw [Array.length_toList, hs]; exact Nat.le_refl _⟩⟩
/-- append(v, make([]byte, m)...) -/
theorem rg_zeros {base : Nat} {ty : TypeId} {v : Value} {l : List UInt8} {m : Nat} (ho : w.ownsRow base 5 1 v l.length (l.map bv)) (hm : 0 < m) (hlen : l.length + m ≤ 1099511627776) (hbase : base ≤ w.heap.size) {K : Value → World → Prop}
    (h : ∀ v' w', w'.ownsRow base 5 1 v' (l ++ List.replicate m 0).length ((l ++ List.replicate m 0).map bv) → Keep (fun j => some j = v.ownBlock) w w' → (v'.ownBlock = v.ownBlock ∨ v'.ownBlock = some w.heap.size) → K v' w') : AppendGoal Tryz.prog 24 3 ty v (.int .i64 (m : Int)) w K := by
  obtain ⟨v', w', hr, ho', hg, hl⟩ := run_zeros_own (P := Tryz.prog) w base 24 3 ty 5 (.int .u8 0) 1 1 Tryz.underlying24 Tryz.underlying3 o_info rfl (by decide) ho hm (by rw [zeroCells_u8]; exact bv_one _) (by unfold maxLen; omega) (by omega) hbase
  refine .mk hr (h v' w' ?_ (Keep.of_grown hg) hl)
  rw [List.length_append, List.map_append, List.length_replicate]
  rw [zeroCells_u8] at ho'
  exact ho'
def encHd (h : Hd) : List Value := [.int .i64 (h.kind : Int), .int .u64 (h.entry : Int), .int .u64 (h.segs : Int), .int .i64 (h.count : Int)]
def hdRow (h : Hd) : List (Nat × Nat) := [(2, h.kind), (2, 19823), (4, 1), (8, h.entry), (8, h.segs), (8, 0), (4, 0), (2, 64), (2, 56), (2, h.count), (2, 0), (2, 0), (2, 0)]
theorem headB_row (h : Hd) : magic ++ rowB (hdRow h) = headB h := by
  simp only [rowB, hdRow, headB, List.flatMap_cons, List.flatMap_nil, List.append_nil, List.append_assoc]
def hputM (h : Hd) : Nat × BS := if headOk h then (0, headB h) else (1, [])
set_option maxRecDepth 100000 in
set_option maxHeartbeats 4000000 in
theorem hput_any (h : Hd) (h1 : h.kind < 9223372036854775808) (h2 : h.entry < 18446744073709551616) (h3 : h.segs < 18446744073709551616) (h4 : h.count < 9223372036854775808) :
    Calls Tryz.prog 112 #[.agg (encHd h).toArray] w fun e w' => ∃ v', e = .returned (.tuple #[v', .int .i64 ((hputM h).1 : Nat)]) ∧ w'.ownsRow w.heap.size 5 1 v' (hputM h).2.length ((hputM h).2.map bv) ∧ Keep No w w' := by
  have hH : hputM h = if headOk h then (0, headB h) else (1, []) := rfl
  rw [← headB_row] at hH
  have hf : ∀ f ∈ hdRow h, (f.1 = 1 ∨ f.1 = 2 ∨ f.1 = 4 ∨ f.1 = 8) ∧ f.2 < 18446744073709551616 := by
    intro f hf
    simp only [hdRow, List.mem_cons, List.not_mem_nil, or_false] at hf
    rcases hf with rfl | rfl | rfl | rfl | rfl | rfl | rfl | rfl | rfl | rfl | rfl | rfl | rfl <;> (dsimp only; omega)
  have hok : headOk h = (decide (2 ≤ h.kind) && decide (h.kind ≤ 4) && decide (h.count ≤ 64)) := rfl
  rw [hok] at hH
  clear hok
  have hrl : (rowB (hdRow h)).length = 48 := rfl
  have hcells : (hdRow h).flatMap encF = [.int .i64 2, .int .u64 (h.kind : Int), .int .i64 2, .int .u64 19823, .int .i64 4, .int .u64 1, .int .i64 8, .int .u64 (h.entry : Int), .int .i64 8, .int .u64 (h.segs : Int), .int .i64 8, .int .u64 0, .int .i64 4, .int .u64 0, .int .i64 2, .int .u64 64, .int .i64 2, .int .u64 56, .int .i64 2, .int .u64 (h.count : Int), .int .i64 2, .int .u64 0, .int .i64 2, .int .u64 0, .int .i64 2, .int .u64 0] := rfl
  have hl13 : (hdRow h).length = 13 := rfl
  unfold encHd
  generalize hdRow h = rw_ at *
  generalize hputM h = res at *
  generalize h.kind = x0 at *
  generalize h.entry = x1 at *
  generalize h.segs = x2 at *
  generalize h.count = x3 at *
  by_cases hok : 2 ≤ x0 ∧ x0 ≤ 4 ∧ x3 ≤ 64
  · rw [if_pos (by simp; omega)] at hH
    subst hH
    obtain ⟨k1, k2, k3⟩ := hok
    go_enter Tryz.func112, Tryz.ntmps112
    go_wp2_with (at_builtin; refine wl_append rfl _ _ _ _ rfl _ _ rfl rfl ?_)
    have hkW : Keep No w (w.alloc (.cells #[.int .i64 (x0 : Int), .int .u64 (x1 : Int), .int .u64 (x2 : Int), .int .i64 (x3 : Int)] 55)) := (Keep.refl _ _).alloc _
    have hBW : Blk (w.alloc (.cells #[.int .i64 (x0 : Int), .int .u64 (x1 : Int), .int .u64 (x2 : Int), .int .i64 (x3 : Int)] 55)) w.heap.size #[.int .i64 (x0 : Int), .int .u64 (x1 : Int), .int .u64 (x2 : Int), .int .i64 (x3 : Int)] 55 := Blk.new _ _ _
    have hzW : (w.alloc (.cells #[.int .i64 (x0 : Int), .int .u64 (x1 : Int), .int .u64 (x2 : Int), .int .i64 (x3 : Int)] 55)).heap.size = w.heap.size + 1 := World.size_alloc _ _
    generalize w.alloc (.cells #[.int .i64 (x0 : Int), .int .u64 (x1 : Int), .int .u64 (x2 : Int), .int .i64 (x3 : Int)] 55) = W at *
    have hkV : Keep No W (W.alloc (.cells #[.int .u8 127, .int .u8 69, .int .u8 76, .int .u8 70, .int .u8 2, .int .u8 1, .int .u8 1] 5)) := (Keep.refl _ _).alloc _
    have hBV : Blk (W.alloc (.cells #[.int .u8 127, .int .u8 69, .int .u8 76, .int .u8 70, .int .u8 2, .int .u8 1, .int .u8 1] 5)) W.heap.size #[.int .u8 127, .int .u8 69, .int .u8 76, .int .u8 70, .int .u8 2, .int .u8 1, .int .u8 1] 5 := Blk.new _ _ _
    have hzV : (W.alloc (.cells #[.int .u8 127, .int .u8 69, .int .u8 76, .int .u8 70, .int .u8 2, .int .u8 1, .int .u8 1] 5)).heap.size = W.heap.size + 1 := World.size_alloc _ _
    generalize W.alloc (.cells #[.int .u8 127, .int .u8 69, .int .u8 76, .int .u8 70, .int .u8 2, .int .u8 1, .int .u8 1] 5) = V at *
    rw [← hzW]
    have ho1 : V.ownsRow w.heap.size 5 1 (.slice (some ⟨W.heap.size, 0, none⟩) 7 7) ([127, 69, 76, 70, 2, 1, 1] : BS).length (([127, 69, 76, 70, 2, 1, 1] : BS).map bv) := own_blk (cs := #[.int .u8 127, .int .u8 69, .int .u8 76, .int .u8 70, .int .u8 2, .int .u8 1, .int .u8 1]) hBV hkW.size (by rfl) (by decide)
    have hkwV := hkW.trans' hkV
    have hBW2 := hBW.keep hkV fun h => h
    refine rg_zeros (m := 9) ho1 (by decide) (by decide) hkwV.size ?_
    intro v1 w1 ho2 hk1 hown
    have hkw1 : Keep No w w1 := Keep.own hkwV ho1 hk1
    have hB1 := hBW2.keep hk1 fun e => by
      simp only [Value.ownBlock, Option.some.injEq] at e
      omega
    have ho3 : w1.ownsRow w.heap.size 5 1 v1 magic.length (magic.map bv) := ho2
    have d0 := hB1.cell 0
    have d1 := hB1.cell 1
    have d2 := hB1.cell 2
    have d3 := hB1.cell 3
    clear ho2 ho1 hk1 hown hBW hBW2 hB1 hBV hkV
    go_wp2_with fail
    have hkw2 : Keep No w1 (w1.alloc (.cells #[.int .i64 2, .int .u64 (x0 : Int), .int .i64 2, .int .u64 19823, .int .i64 4, .int .u64 1, .int .i64 8, .int .u64 (x1 : Int), .int .i64 8, .int .u64 (x2 : Int), .int .i64 8, .int .u64 0, .int .i64 4, .int .u64 0, .int .i64 2, .int .u64 64, .int .i64 2, .int .u64 56, .int .i64 2, .int .u64 (x3 : Int), .int .i64 2, .int .u64 0, .int .i64 2, .int .u64 0, .int .i64 2, .int .u64 0] 219)) := (Keep.refl _ _).alloc _
    have hBw2 : Blk (w1.alloc (.cells #[.int .i64 2, .int .u64 (x0 : Int), .int .i64 2, .int .u64 19823, .int .i64 4, .int .u64 1, .int .i64 8, .int .u64 (x1 : Int), .int .i64 8, .int .u64 (x2 : Int), .int .i64 8, .int .u64 0, .int .i64 4, .int .u64 0, .int .i64 2, .int .u64 64, .int .i64 2, .int .u64 56, .int .i64 2, .int .u64 (x3 : Int), .int .i64 2, .int .u64 0, .int .i64 2, .int .u64 0, .int .i64 2, .int .u64 0] 219)) w1.heap.size #[.int .i64 2, .int .u64 (x0 : Int), .int .i64 2, .int .u64 19823, .int .i64 4, .int .u64 1, .int .i64 8, .int .u64 (x1 : Int), .int .i64 8, .int .u64 (x2 : Int), .int .i64 8, .int .u64 0, .int .i64 4, .int .u64 0, .int .i64 2, .int .u64 64, .int .i64 2, .int .u64 56, .int .i64 2, .int .u64 (x3 : Int), .int .i64 2, .int .u64 0, .int .i64 2, .int .u64 0, .int .i64 2, .int .u64 0] 219 := Blk.new _ _ _
    have hzw2 : (w1.alloc (.cells #[.int .i64 2, .int .u64 (x0 : Int), .int .i64 2, .int .u64 19823, .int .i64 4, .int .u64 1, .int .i64 8, .int .u64 (x1 : Int), .int .i64 8, .int .u64 (x2 : Int), .int .i64 8, .int .u64 0, .int .i64 4, .int .u64 0, .int .i64 2, .int .u64 64, .int .i64 2, .int .u64 56, .int .i64 2, .int .u64 (x3 : Int), .int .i64 2, .int .u64 0, .int .i64 2, .int .u64 0, .int .i64 2, .int .u64 0] 219)).heap.size = w1.heap.size + 1 := World.size_alloc _ _
    generalize w1.alloc (.cells #[.int .i64 2, .int .u64 (x0 : Int), .int .i64 2, .int .u64 19823, .int .i64 4, .int .u64 1, .int .i64 8, .int .u64 (x1 : Int), .int .i64 8, .int .u64 (x2 : Int), .int .i64 8, .int .u64 0, .int .i64 4, .int .u64 0, .int .i64 2, .int .u64 64, .int .i64 2, .int .u64 56, .int .i64 2, .int .u64 (x3 : Int), .int .i64 2, .int .u64 0, .int .i64 2, .int .u64 0, .int .i64 2, .int .u64 0] 219) = w2 at *
    have hfl : Fl (fun j => j = w1.heap.size) w2 2 encF (.slice (some ⟨w1.heap.size, 0, none⟩) 13 13) rw_ := by
      have h13 : Sl (fun j => j = w1.heap.size) w2 2 (.slice (some ⟨w1.heap.size, 0, none⟩) 13 13) 13 (rw_.flatMap encF) := by
        rw [hcells]
        refine Sl.mk (by rfl) rfl hBw2.lt (Nat.le_refl _) (by decide) fun j u hu => ?_
        rw [hBw2.cell, Nat.zero_add, List.getElem?_toArray]
        exact hu
      unfold Fl
      rw [hl13]
      exact h13
    refine (hrow_any rw_ hfl (by omega) hf).mono ?_
    clear d0 d1 d2 d3 hfl
    rintro e w3 ⟨v3, rfl, ho4, hk3⟩
    go_wp2_with (at_builtin; refine wl_append rfl _ _ _ _ rfl _ _ rfl rfl ?_)
    have hk23 := hkw2.trans' hk3
    have ho5 := own_no ho3 hk23
    refine rg_bytes ho5 (bts_own ho4) (by rw [hrl]; decide) (hkw1.trans' hk23).size ?_
    intro v5 w5 ho6 hk5 _
    go_wp2_with fail
    go_ret2
    exact ⟨_, rfl, ho6, Keep.own (hkw1.trans' hk23) ho5 hk5⟩
  · rw [if_neg (by simp; omega)] at hH
    subst hH
    go_enter Tryz.func112, Tryz.ntmps112
    go_wp2_with fail
    all_goals first
      | (exfalso; omega)
      | (go_ret2
         exact ⟨_, rfl, World.ownsRow_nil _ _ _ _, (Keep.refl _ _).alloc _⟩)
end
end Go.Proofs.YtbnahidopemkiaaGreat
namespace Go.Proofs.YtbnahidopemkiaaGreat
open Go.RowKit Go.Dm Go.Dm.Oc Go.Dm.Ld
section
variable {A : Nat → Prop} {w : World}
theorem bts_upto {a : Option Addr} {c n : Nat} {l : BS} (hl : Bts A w (.slice a n c) l) {i : Nat} (hi : i ≤ l.length) : Bts A w (.slice a i c) (l.take i) := by
  have h : Fl A w 1 (fun x : UInt8 => [bv x]) (.slice a n c) l := by
    unfold Fl
    rw [← List.map_eq_flatMap]
    exact hl
  have h2 := fl_upto h (fun _ => rfl) hi
  unfold Fl at h2
  rw [← List.map_eq_flatMap] at h2
  exact h2
set_option maxHeartbeats 1000000 in
theorem hget1_any {v : Value} (b : BS) (at_ n q : Nat) (hb : Bts A w v b) (hl : b.length ≤ 1099511627776) (ha : at_ < 18446744073709551616) (hn : n < 65536) (hq : w.cell? ⟨q, 0, none⟩ = some v) :
    Calls Tryz.prog 110 #[.int .u64 (at_ : Int), .int .i64 (n : Int), .pointer (some ⟨q, 0, none⟩)] w fun e w' => e = .returned (.int .u64 (getX b at_ n : Nat)) ∧ w = w' := by
  have hg := oget_any b at_ n hb hl ha (by omega) (by omega)
  obtain ⟨ao, co, rfl, hc1, hc2⟩ := hb.shape
  clear hb
  generalize getX b at_ n = x at *
  generalize fitsE b.length at_ n = y at *
  generalize b.length = nb at *
  go_enter Tryz.func110, Tryz.ntmps110
  go_wp2_with fail
  refine hg.mono ?_
  rintro e W ⟨rfl, rfl⟩
  go_wp2_with fail
  go_ret
  exact ⟨rfl, rfl⟩
set_option maxRecDepth 100000 in
set_option maxHeartbeats 4000000 in
theorem hget_any {v : Value} (b : BS) (hb : Bts A w v b) (hl : b.length ≤ 1099511627776) :
    Calls Tryz.prog 80 #[v] w fun e w' => e = .returned (.tuple #[.agg (encHd (headM b).2).toArray, .int .i64 ((headM b).1 : Nat)]) ∧ Keep No w w' := by
  have hH : headM b = if b.length < 64 then (10, hd0) else if headOk (headIn b) && decide (headB (headIn b) = b.take 64) then (0, headIn b) else (11, hd0) := rfl
  by_cases hlt : b.length < 64
  · rw [if_pos hlt] at hH
    have HH := Lib.hid hH
    clear hH
    obtain ⟨ao, co, rfl, hc1, hc2⟩ := hb.shape
    clear hb
    generalize b.length = n at *
    go_enter Tryz.func80, Tryz.ntmps80
    go_wp2_with (with_reducible refine wl_stAgg rfl _ _ _ rfl _ _ rfl rfl ?_)
    have hkW : Keep No w (w.alloc (.cells #[.slice ao n co] 24)) := (Keep.refl _ _).alloc _
    have hBW : Blk (w.alloc (.cells #[.slice ao n co] 24)) w.heap.size #[.slice ao n co] 24 := Blk.new _ _ _
    have hzW : (w.alloc (.cells #[.slice ao n co] 24)).heap.size = w.heap.size + 1 := World.size_alloc _ _
    generalize w.alloc (.cells #[.slice ao n co] 24) = W at *
    have hkV : Keep No W (W.alloc (.cells #[.int .i64 0, .int .u64 0, .int .u64 0, .int .i64 0] 55)) := (Keep.refl _ _).alloc _
    have hBV : Blk (W.alloc (.cells #[.int .i64 0, .int .u64 0, .int .u64 0, .int .i64 0] 55)) W.heap.size #[.int .i64 0, .int .u64 0, .int .u64 0, .int .i64 0] 55 := Blk.new _ _ _
    have hzV : (W.alloc (.cells #[.int .i64 0, .int .u64 0, .int .u64 0, .int .i64 0] 55)).heap.size = W.heap.size + 1 := World.size_alloc _ _
    generalize W.alloc (.cells #[.int .i64 0, .int .u64 0, .int .u64 0, .int .i64 0] 55) = V at *
    rw [hzW] at hBV
    refine rg_stAgg hBV (by kernel_rfl) (by rfl) (by simp [Value.oneCell']) ?_
    intro w3 hB3 hk3 _
    go_wp2_with fail
    refine ret_blk_tmp rfl rfl hB3 Tryz.underlying55 rfl (by kernel_rfl) rfl ?_
    exact ⟨by rw [HH.out]; rfl, (hkW.trans' hkV).trans hk3 fun j hj e => by omega⟩
  · rw [if_neg hlt] at hH
    have hx0 := getX_lt b 16 2
    have hx1 := getX_lt b 24 8
    have hx2 := getX_lt b 32 8
    have hx3 := getX_lt b 56 2
    have hx0 : getX b 16 2 < 65536 := hx0
    have hx1 : getX b 24 8 < 18446744073709551616 := hx1
    have hx2 : getX b 32 8 < 18446744073709551616 := hx2
    have hx3 : getX b 56 2 < 65536 := hx3
    have hput := fun w => hput_any (w := w) (headIn b) (by unfold headIn; dsimp only; omega) hx1 hx2 (by unfold headIn; dsimp only; omega)
    have hg16 : ∀ W q, Keep No w W → W.cell? ⟨q, 0, none⟩ = some v → Calls Tryz.prog 110 #[.int .u64 16, .int .i64 2, .pointer (some ⟨q, 0, none⟩)] W fun e w' => e = .returned (.int .u64 (getX b 16 2 : Nat)) ∧ W = w' := fun W q hk hq =>
      hget1_any b 16 2 q (Sl.keep hb hk fun _ _ _ h => h) hl (by decide) (by decide) hq
    have hg24 : ∀ W q, Keep No w W → W.cell? ⟨q, 0, none⟩ = some v → Calls Tryz.prog 110 #[.int .u64 24, .int .i64 8, .pointer (some ⟨q, 0, none⟩)] W fun e w' => e = .returned (.int .u64 (getX b 24 8 : Nat)) ∧ W = w' := fun W q hk hq =>
      hget1_any b 24 8 q (Sl.keep hb hk fun _ _ _ h => h) hl (by decide) (by decide) hq
    have hg32 : ∀ W q, Keep No w W → W.cell? ⟨q, 0, none⟩ = some v → Calls Tryz.prog 110 #[.int .u64 32, .int .i64 8, .pointer (some ⟨q, 0, none⟩)] W fun e w' => e = .returned (.int .u64 (getX b 32 8 : Nat)) ∧ W = w' := fun W q hk hq =>
      hget1_any b 32 8 q (Sl.keep hb hk fun _ _ _ h => h) hl (by decide) (by decide) hq
    have hg56 : ∀ W q, Keep No w W → W.cell? ⟨q, 0, none⟩ = some v → Calls Tryz.prog 110 #[.int .u64 56, .int .i64 2, .pointer (some ⟨q, 0, none⟩)] W fun e w' => e = .returned (.int .u64 (getX b 56 2 : Nat)) ∧ W = w' := fun W q hk hq =>
      hget1_any b 56 2 q (Sl.keep hb hk fun _ _ _ h => h) hl (by decide) (by decide) hq
    have hpM : hputM (headIn b) = if headOk (headIn b) then (0, headB (headIn b)) else (1, []) := rfl
    have hcs : (encHd (headIn b)).toArray = #[.int .i64 (getX b 16 2 : Int), .int .u64 (getX b 24 8 : Int), .int .u64 (getX b 32 8 : Int), .int .i64 (getX b 56 2 : Int)] := rfl
    obtain ⟨ao, co, rfl, hc1, hc2⟩ := hb.shape
    have heq : ∀ W u c, Keep No w W → Bts (fun k => w.heap.size ≤ k) W u c → c.length ≤ 1099511627776 → Calls Tryz.prog 113 #[u, .slice ao 64 co] W fun e w' => e = .returned (.bool (decide (c = b.take 64))) ∧ Keep No W w' := by
      intro W u c hk hu hc
      exact eqB_any c (b.take 64) hu (bts_upto (Sl.keep hb hk fun _ _ _ h => h) (by omega)) hc (by rw [List.length_take]; omega)
    clear hb
    have hent : ∀ (a1 a2 : Value) (q : Nat) (w : World), (callFunc 110 (#[a1, a2] ++ #[.pointer (some ⟨q, 0, none⟩)])).run Tryz.prog w = .ok (.enter 110 (#[a1, a2] ++ #[.pointer (some ⟨q, 0, none⟩)])) w := fun a1 a2 q w => by kernel_rfl
    have h64 : (64 : Int) ≤ (co : Int) := by omega
    generalize hin : headIn b = hi at *
    rw [hcs] at hput
    have hH := Lib.hid hH
    have hP := Lib.hid hpM
    have HCS := Lib.hid hcs
    clear hpM hcs hin
    generalize getX b 16 2 = x0 at *
    generalize getX b 24 8 = x1 at *
    generalize getX b 32 8 = x2 at *
    generalize getX b 56 2 = x3 at *
    generalize b.length = nb at *
    go_enter Tryz.func80, Tryz.ntmps80
    go_wp2_with fail
    have hkW : Keep No w (w.alloc (.cells #[.slice ao nb co] 24)) := (Keep.refl _ _).alloc _
    have hBW : Blk (w.alloc (.cells #[.slice ao nb co] 24)) w.heap.size #[.slice ao nb co] 24 := Blk.new _ _ _
    have hzW : (w.alloc (.cells #[.slice ao nb co] 24)).heap.size = w.heap.size + 1 := World.size_alloc _ _
    generalize w.alloc (.cells #[.slice ao nb co] 24) = W at *
    have hkV : Keep No W (W.alloc (.cells #[.int .i64 0, .int .u64 0, .int .u64 0, .int .i64 0] 55)) := (Keep.refl _ _).alloc _
    have hBV : Blk (W.alloc (.cells #[.int .i64 0, .int .u64 0, .int .u64 0, .int .i64 0] 55)) W.heap.size #[.int .i64 0, .int .u64 0, .int .u64 0, .int .i64 0] 55 := Blk.new _ _ _
    have hzV : (W.alloc (.cells #[.int .i64 0, .int .u64 0, .int .u64 0, .int .i64 0] 55)).heap.size = W.heap.size + 1 := World.size_alloc _ _
    generalize W.alloc (.cells #[.int .i64 0, .int .u64 0, .int .u64 0, .int .i64 0] 55) = V at *
    have hBV2 := hBW.keep hkV fun h => h
    rw [hzW] at hBV
    have hq := hBV2.cell 0
    have hkwV := hkW.trans' hkV
    refine (hg16 V _ hkwV hq).mono ?_
    rintro e V1 ⟨rfl, rfl⟩
    go_wp2_with fail
    refine (hg24 V _ hkwV hq).mono ?_
    rintro e V1 ⟨rfl, rfl⟩
    go_wp2_with fail
    refine (hg32 V _ hkwV hq).mono ?_
    rintro e V1 ⟨rfl, rfl⟩
    go_wp2_with fail
    refine (hg56 V _ hkwV hq).mono ?_
    rintro e V1 ⟨rfl, rfl⟩
    clear hg16 hg24 hg32 hg56
    go_wp2_with fail
    have hkU : Keep No V (V.alloc (.cells #[.int .i64 (x0 : Int), .int .u64 (x1 : Int), .int .u64 (x2 : Int), .int .i64 (x3 : Int)] 55)) := (Keep.refl _ _).alloc _
    have hBU : Blk (V.alloc (.cells #[.int .i64 (x0 : Int), .int .u64 (x1 : Int), .int .u64 (x2 : Int), .int .i64 (x3 : Int)] 55)) V.heap.size #[.int .i64 (x0 : Int), .int .u64 (x1 : Int), .int .u64 (x2 : Int), .int .i64 (x3 : Int)] 55 := Blk.new _ _ _
    have hzU : (V.alloc (.cells #[.int .i64 (x0 : Int), .int .u64 (x1 : Int), .int .u64 (x2 : Int), .int .i64 (x3 : Int)] 55)).heap.size = V.heap.size + 1 := World.size_alloc _ _
    generalize V.alloc (.cells #[.int .i64 (x0 : Int), .int .u64 (x1 : Int), .int .u64 (x2 : Int), .int .i64 (x3 : Int)] 55) = U at *
    refine (hput U).mono ?_
    clear hput hq
    rintro e U1 ⟨v1, rfl, ho1, hk1⟩
    have hkU : Keep No V U1 := hkU.trans' hk1
    have hkF : Keep No w U1 := hkwV.trans' hkU
    have hBr := hBV.keep hkU fun h => h
    have hBb := hBV2.keep hkU fun h => h
    have hBh := hBU.keep hk1 fun h => h
    have hle : w.heap.size ≤ U.heap.size := Nat.le_trans hkwV.size (by rw [hzU]; exact Nat.le_succ _)
    rw [hzV, hzW] at hBh
    clear hBV hBV2 hBU hzU
    have hqb := hBb.cell 0
    have d0 := hBh.cell 0
    have d1 := hBh.cell 1
    have d2 := hBh.cell 2
    have d3 := hBh.cell 3
    have hbt : Bts (fun k => w.heap.size ≤ k) U1 v1 (hputM hi).2 := (bts_own ho1).mono fun k _ h => Nat.le_trans hle h.1
    have hpl : (hputM hi).2.length ≤ 64 := by
      rw [hP.out]
      split
      · rw [headB_len]; exact Nat.le_refl _
      · exact Nat.zero_le _
    have hequ := heq U1 v1 (hputM hi).2 hkF hbt (by omega)
    clear ho1 hbt heq hpl hle
    cases hok : headOk hi with
    | false =>
      have hPo := hP.out
      rw [hok, if_neg (by decide)] at hPo
      have hHo := hH.out
      rw [hok, Bool.false_and, if_neg (by decide)] at hHo
      have HH := Lib.hid hHo
      rw [hPo]
      clear hPo hHo hequ
      have hbl := hBr.lt
      go_wp2_with (with_reducible refine wl_stAgg rfl _ _ _ rfl _ _ rfl rfl ?_)
      refine rg_stAgg hBr (by kernel_rfl) (by rfl) (by simp [Value.oneCell']) ?_
      intro w3 hB3 hk3 _
      go_wp2_with fail
      refine ret_blk_tmp rfl rfl hB3 Tryz.underlying55 rfl (by kernel_rfl) rfl ?_
      exact ⟨by rw [HH.out]; rfl, hkF.trans hk3 fun j hj e => by have e2 : j = w.heap.size + 1 := e; omega⟩
    | true =>
      have hPo := hP.out
      rw [hok, if_pos rfl] at hPo
      have hHo := hH.out
      rw [hok, Bool.true_and] at hHo
      rw [hPo] at hequ
      rw [hPo]
      dsimp only at hequ
      generalize decide (headB hi = b.take 64) = q at *
      have HH := Lib.hid hHo
      clear hPo hHo
      go_wp2_with fail
      refine hequ.mono ?_
      rintro e U2 ⟨rfl, hk2⟩
      have hBr2 := hBr.keep hk2 fun h => h
      have hBh2 := hBh.keep hk2 fun h => h
      have hkF2 := hkF.trans' hk2
      clear hequ hBr hBh hBb hqb d0 d1 d2 d3
      cases q with
      | false =>
        have HH2 := Lib.hid ((HH.out).trans (if_neg (by decide)))
        clear HH
        go_wp2_with (with_reducible refine wl_stAgg rfl _ _ _ rfl _ _ rfl rfl ?_)
        refine rg_stAgg hBr2 (by kernel_rfl) (by rfl) (by simp [Value.oneCell']) ?_
        intro w3 hB3 hk3 _
        go_wp2_with fail
        refine ret_blk_tmp rfl rfl hB3 Tryz.underlying55 rfl (by kernel_rfl) rfl ?_
        exact ⟨by rw [HH2.out]; rfl, hkF2.trans hk3 fun j hj e => by have e2 : j = w.heap.size + 1 := e; omega⟩
      | true =>
        have HH2 := Lib.hid ((HH.out).trans (if_pos rfl))
        clear HH
        have d0 := hBh2.cell 0
        have d1 := hBh2.cell 1
        have d2 := hBh2.cell 2
        have d3 := hBh2.cell 3
        go_wp2_with (with_reducible refine wl_stAgg rfl _ _ _ rfl _ _ rfl rfl ?_)
        refine rg_stAgg hBr2 (by kernel_rfl) (by rfl) (by simp [Value.oneCell']) ?_
        intro w3 hB3 hk3 _
        go_wp2_with fail
        refine ret_blk_tmp rfl rfl hB3 Tryz.underlying55 rfl (by kernel_rfl) rfl ?_
        exact ⟨by rw [HH2.out, HCS.out]; rfl, hkF2.trans hk3 fun j hj e => by have e2 : j = w.heap.size + 1 := e; omega⟩
end
end Go.Proofs.YtbnahidopemkiaaGreat
namespace Go.Dm
open Go Go.RowKit Go.Maps Go.ChangeMaps

/-- an element reads as itself -/
def heldE (v : Value) : Option (DataW Value × List MemPlace) := some (.held v, [])
def hd (p : Lit × Value) : Lit × DataW Value := (p.1, .held p.2)
def Apart (L : List (Lit × Value)) : Prop := L.Pairwise (fun p q => p.1 ≠ q.1)
def findL (L : List (Lit × Value)) (k : Lit) : Option Value := (L.find? (fun p => p.1.sameKey k)).map (·.2)
def eraseL (L : List (Lit × Value)) (k : Lit) : List (Lit × Value) := L.filter (fun p => !p.1.sameKey k)

theorem sameKey_true {a b : Lit} (hb : WideAt.IsKeyLit b) : a.sameKey b = true ↔ a = b :=
  ⟨WideAt.sameKey_eq, fun h => by subst h; exact WideAt.sameKey_self hb⟩

theorem find_some {α : Type} {L : List (Lit × α)} (hp : L.Pairwise (fun p q => p.1 ≠ q.1)) {k : Lit} (hk : WideAt.IsKeyLit k) (p : Lit × α) : L.find? (fun p => p.1.sameKey k) = some p ↔ p ∈ L ∧ p.1 = k := by
  induction L with
  | nil => simp
  | cons q r ih =>
    rw [List.pairwise_cons] at hp
    by_cases hq : q.1.sameKey k = true
    · have hqk := (sameKey_true hk).1 hq
      simp only [List.find?_cons, hq]
      constructor
      · intro h; cases h; exact ⟨by simp, hqk⟩
      · rintro ⟨h, e⟩
        rcases List.mem_cons.1 h with rfl | h
        · rfl
        · exact absurd (hqk.trans e.symm) (hp.1 p h)
    · have hq' : q.1.sameKey k = false := by simpa using hq
      simp only [List.find?_cons, hq', ih hp.2]
      constructor
      · rintro ⟨h, e⟩; exact ⟨by simp [h], e⟩
      · rintro ⟨h, e⟩
        rcases List.mem_cons.1 h with rfl | h
        · exact absurd ((sameKey_true hk).2 e) hq
        · exact ⟨h, e⟩

theorem apart_perm {α : Type} {L L' : List (Lit × α)} (h : L.Perm L') (hp : L.Pairwise (fun p q => p.1 ≠ q.1)) : L'.Pairwise (fun p q => p.1 ≠ q.1) :=
  (h.pairwise_iff fun h => Ne.symm h).1 hp

theorem find_perm {α : Type} {L L' : List (Lit × α)} (h : L.Perm L') (hp : L.Pairwise (fun p q => p.1 ≠ q.1)) {k : Lit} (hk : WideAt.IsKeyLit k) : L.find? (fun p => p.1.sameKey k) = L'.find? (fun p => p.1.sameKey k) := by
  apply Option.ext
  intro p
  rw [find_some hp hk, find_some (apart_perm h hp) hk, h.mem_iff]

theorem apart_map {L : List (Lit × Value)} : (L.map hd).Pairwise (fun p q => p.1 ≠ q.1) ↔ Apart L := by
  unfold Apart; rw [List.pairwise_map]; rfl

theorem find_map (L : List (Lit × Value)) (k : Lit) : (L.map hd).find? (fun p => p.1.sameKey k) = (L.find? (fun p => p.1.sameKey k)).map hd := by
  rw [List.find?_map]; rfl

theorem apart_erase {L : List (Lit × Value)} (h : Apart L) (k : Lit) : Apart (eraseL L k) := List.Pairwise.filter _ h
theorem mem_erase {L : List (Lit × Value)} {k : Lit} (hk : WideAt.IsKeyLit k) {p : Lit × Value} : p ∈ eraseL L k ↔ p ∈ L ∧ p.1 ≠ k := by
  unfold eraseL
  rw [List.mem_filter]
  cases h : p.1.sameKey k
  · simp only [Bool.not_false, and_true]
    exact ⟨fun hm => ⟨hm, fun e => by rw [(sameKey_true hk).2 e] at h; cases h⟩, fun h => h.1⟩
  · simp only [Bool.not_true, Bool.false_eq_true, and_false, false_iff]
    exact fun hm => hm.2 ((sameKey_true hk).1 h)
theorem apart_put {L : List (Lit × Value)} (h : Apart L) {k : Lit} (hk : WideAt.IsKeyLit k) (v : Value) : Apart ((k, v) :: eraseL L k) := by
  unfold Apart
  rw [List.pairwise_cons]
  exact ⟨fun p hp => fun e => ((mem_erase hk).1 hp).2 e.symm, apart_erase h k⟩
theorem length_erase_le (L : List (Lit × Value)) (k : Lit) : (eraseL L k).length ≤ L.length := List.length_filter_le _ _

/-- Block b of w is a map (of keys of type k) with just the entries of L. -/
def MapL (P : Program) (k : TypeId) (w : World) (b : Nat) (L : List (Lit × Value)) : Prop :=
  Apart L ∧ ∃ es, es.Perm (L.map hd) ∧ w.ownsMap P k heldE b L.length (.map es)

section
variable {P : Program} {k : TypeId} {w : World} {b : Nat} {L : List (Lit × Value)}

theorem MapL.apart (h : MapL P k w b L) : Apart L := h.1
theorem MapL.lt (h : MapL P k w b L) : b < w.heap.size := by obtain ⟨_, es, _, ho⟩ := h; exact ho.lt
theorem MapL.obj (h : MapL P k w b L) : ∃ es c, w.heap[b]? = some (.map es c) := by obtain ⟨_, es, _, e, c, hb, _⟩ := h; exact ⟨e, c, hb⟩
theorem MapL.same {w' : World} (h : MapL P k w b L) (e : w'.heap[b]? = w.heap[b]?) : MapL P k w' b L := by
  obtain ⟨ha, es, he, e1, c, hb, r⟩ := h
  exact ⟨ha, es, he, e1, c, e.trans hb, r⟩
theorem MapL.keep {A : Nat → Prop} {w' : World} (h : MapL P k w b L) (hk : Keep A w w') (hA : ¬ A b) : MapL P k w' b L := h.same (hk.block b h.lt hA)
theorem MapL.keys (h : MapL P k w b L) (K : Keyed P k) : ∀ p ∈ L, WideAt.IsKeyLit p.1 := by
  obtain ⟨ha, es, he, ho⟩ := h
  obtain ⟨es', e1, _, hk⟩ := ho.entries K
  cases e1
  intro p hp
  exact hk (hd p) (he.mem_iff.2 (List.mem_map_of_mem hp))
theorem MapL.made (P : Program) (k : TypeId) (w : World) : MapL P k (w.alloc (.map #[] 0)) w.heap.size [] :=
  ⟨List.Pairwise.nil, [], List.Perm.refl _, World.ownsMap_made _ _ _ _⟩

theorem keyLit_of {key : Value} {kl : Lit} (K : Keyed P k) (h : keyOf P k key = some kl) : WideAt.IsKeyLit kl := K.key h

theorem MapL.at (h : MapL P k w b L) {kl : Lit} (hk : WideAt.IsKeyLit kl) : ∃ es, w.ownsMap P k heldE b L.length (.map es) ∧ es.Perm (L.map hd) ∧ (∀ z : Value, (DataW.map es).atKey kl (.held z) = .held ((findL L kl).getD z)) ∧ Maps.has (.map es) kl = (findL L kl).isSome := by
  obtain ⟨ha, es, he, ho⟩ := h
  have e1 : es.find? (fun p => p.1.sameKey kl) = (L.find? (fun p => p.1.sameKey kl)).map hd := by
    rw [← find_map]; exact find_perm he (apart_perm he.symm (apart_map.2 ha)) hk
  refine ⟨es, ho, he, fun z => ?_, ?_⟩
  · unfold DataW.atKey findL
    simp only [e1]
    cases L.find? (fun p => p.1.sameKey kl) <;> simp [hd]
  · have e2 : es.any (fun p => p.1.sameKey kl) = (es.find? (fun p => p.1.sameKey kl)).isSome := by
      rw [Bool.eq_iff_iff, List.find?_isSome, List.any_eq_true]
    rw [Maps.has_eq, e2, e1]
    unfold findL
    cases L.find? (fun p => p.1.sameKey kl) <;> simp

/-- m[k] -/
theorem MapL.lookup {t e : TypeId} (h : MapL P k w b L) (K : Keyed P k) (ht : P.underlying t = some (.map k e)) {z : Value} (hz : (zeroValue e).run P w = .ok z w) {key : Value} {kl : Lit} (hkey : keyOf P k key = some kl) :
    (Instr.lookup t (.map (some b)) key false).run P w = .ok ((findL L kl).getD z) w := by
  obtain ⟨es, ho, _, hat, _⟩ := h.at (keyLit_of K hkey)
  obtain ⟨v, ps, hrun, hv⟩ := ho.lookup K ht hz (zd := .held z) (zp := []) rfl hkey
  rw [hat z] at hv
  cases hv
  exact hrun
/-- v, ok := m[k] -/
theorem MapL.lookup_ok {t e : TypeId} (h : MapL P k w b L) (K : Keyed P k) (ht : P.underlying t = some (.map k e)) {z : Value} (hz : (zeroValue e).run P w = .ok z w) {key : Value} {kl : Lit} (hkey : keyOf P k key = some kl) :
    (Instr.lookup t (.map (some b)) key true).run P w = .ok (.tuple #[(findL L kl).getD z, .bool (findL L kl).isSome]) w := by
  obtain ⟨es, ho, _, hat, hhas⟩ := h.at (keyLit_of K hkey)
  obtain ⟨v, ps, hrun, hv⟩ := ho.look_ok K ht hz (zd := .held z) (zp := []) rfl hkey
  rw [hat z] at hv
  cases hv
  rw [← hhas]
  exact hrun
/-- m[k] = v -/
theorem MapL.store {t e : TypeId} (h : MapL P k w b L) (K : Keyed P k) (ht : P.underlying t = some (.map k e)) (hn : L.length < maxLen) {key v : Value} {kl : Lit} (hkey : keyOf P k key = some kl) :
    ∃ w', (Instr.mapUpdate t (.map (some b)) key v).run P w = .ok () w' ∧ MapL P k w' b ((kl, v) :: eraseL L kl) ∧ Keep (fun j => j = b) w w' ∧ w'.heap.size = w.heap.size := by
  have hkl := keyLit_of K hkey
  obtain ⟨ha, es, he, ho⟩ := h
  obtain ⟨w', hrun, ho', ht'⟩ := ho.store K ht hn hkey (d := .held v) (ps := []) rfl
  have hp : (DataW.insert (kl, .held v) (es.filter fun p => !p.1.sameKey kl)).Perm (((kl, v) :: eraseL L kl).map hd) := by
    refine (WideShapes.insert_perm _ _).trans ?_
    refine List.Perm.cons _ ?_
    have := he.filter (fun p : Lit × DataW Value => !p.1.sameKey kl)
    rw [List.filter_map] at this
    exact this
  have hg := ht'.grown
  refine ⟨w', hrun, ⟨apart_put ha hkl v, _, hp, ?_⟩, (Keep.of_grown hg).mono (fun j _ e => by cases e; rfl), ?_⟩
  · have hs := ho'.size_le
    obtain ⟨es2, c2, hb2, F2, _, e2⟩ := ho'
    refine ⟨es2, c2, hb2, F2, ?_, e2⟩
    have e3 := hp.length_eq
    have e4 : (DataW.insert (kl, DataW.held v) (es.filter fun p => !p.1.sameKey kl)).length = es2.size := by
      have := congrArg (fun D : DataW Value => Maps.size D) e2
      simp only [DataW.put, Maps.size, length_sorted, List.length_map, Array.length_toList] at this
      exact this
    rw [List.length_map] at e3
    omega
  · obtain ⟨es1, c1, es2, c2, _, rfl⟩ := ht'
    simp [setBlock]
/-- delete(m, k) -/
theorem MapL.drop {t e : TypeId} (h : MapL P k w b L) (K : Keyed P k) (ht : P.underlying t = some (.map k e)) {key : Value} {kl : Lit} (hkey : keyOf P k key = some kl) (ty : TypeId) :
    ∃ w', (Builtin.delete_ #[t, k] ty #[.map (some b), key]).run P w = .ok (.tuple #[]) w' ∧ MapL P k w' b (eraseL L kl) ∧ Keep (fun j => j = b) w w' ∧ w'.heap.size = w.heap.size := by
  obtain ⟨ha, es, he, ho⟩ := h
  obtain ⟨w', hrun, ho', ht'⟩ := ho.drop K ht hkey ty
  have hp : (es.filter fun p => !p.1.sameKey kl).Perm ((eraseL L kl).map hd) := by
    have := he.filter (fun p : Lit × DataW Value => !p.1.sameKey kl)
    rw [List.filter_map] at this
    exact this
  have hg := ht'.grown
  refine ⟨w', hrun, ⟨apart_erase ha kl, _, hp, ?_⟩, (Keep.of_grown hg).mono (fun j _ e => by cases e; rfl), ?_⟩
  · obtain ⟨es2, c2, hb2, F2, _, e2⟩ := ho'
    refine ⟨es2, c2, hb2, F2, ?_, e2⟩
    have e3 := hp.length_eq
    have e4 : (es.filter fun p => !p.1.sameKey kl).length = es2.size := by
      have := congrArg (fun D : DataW Value => Maps.size D) e2
      simp only [DataW.del, Maps.size, length_sorted, List.length_map, Array.length_toList] at this
      exact this
    rw [List.length_map] at e3
    omega
  · obtain ⟨es1, c1, es2, c2, _, rfl⟩ := ht'
    simp [setBlock]
theorem MapL.size (h : MapL P k w b L) : ∃ es, w.ownsMap P k heldE b L.length (.map es) ∧ es.Perm (L.map hd) ∧ Maps.size (.map es) = L.length := by
  obtain ⟨_, es, he, ho⟩ := h
  exact ⟨es, ho, he, by rw [Maps.size_eq, he.length_eq, List.length_map]⟩
/-- len(m) -/
theorem MapL.len {t e : TypeId} (h : MapL P k w b L) (ht : P.underlying t = some (.map k e)) (ty : TypeId) : (Builtin.len_ #[t] ty #[.map (some b)]).run P w = .ok (.int .i64 L.length) w := by
  obtain ⟨es, ho, _, hs⟩ := h.size
  rw [ho.len ht ty, hs]

/-- An iterator (block r) over the map of block b; 'todo' is still to come. -/
def RangeL (P : Program) (k : TypeId) (w : World) (b r : Nat) (L todo : List (Lit × Value)) : Prop :=
  Apart L ∧ (∀ p ∈ todo, p ∈ L) ∧ Apart todo ∧ ∃ es left cnt, es.Perm (L.map hd) ∧ w.ranges P k heldE b r L.length (.map es) left cnt ∧ ∀ kl, left kl = true ↔ ∃ v, (kl, v) ∈ todo

theorem RangeL.map {r : Nat} {todo : List (Lit × Value)} (h : RangeL P k w b r L todo) : MapL P k w b L := by
  obtain ⟨ha, _, _, es, left, cnt, he, hr, _⟩ := h
  exact ⟨ha, es, he, hr.owns⟩
theorem RangeL.same {w' : World} {r : Nat} {todo : List (Lit × Value)} (h : RangeL P k w b r L todo) (eb : w'.heap[b]? = w.heap[b]?) (er : w'.heap[r]? = w.heap[r]?) : RangeL P k w' b r L todo := by
  obtain ⟨ha, h1, h2, es, left, cnt, he, hr, h3⟩ := h
  refine ⟨ha, h1, h2, es, left, cnt, he, ?_, h3⟩
  obtain ⟨es1, clock, since, seen, c0, hb, F, hs, e, hrr, rest⟩ := hr
  exact ⟨es1, clock, since, seen, c0, eb.trans hb, F, hs, e, er.trans hrr, rest⟩
theorem RangeL.lt {r : Nat} {todo : List (Lit × Value)} (h : RangeL P k w b r L todo) : r < w.heap.size := by
  obtain ⟨_, _, _, es, left, cnt, _, hr, _⟩ := h; exact hr.lt
theorem RangeL.keep {A : Nat → Prop} {w' : World} {r : Nat} {todo : List (Lit × Value)} (h : RangeL P k w b r L todo) (hk : Keep A w w') (hb : ¬ A b) (hr : ¬ A r) : RangeL P k w' b r L todo :=
  h.same (hk.block b h.map.lt hb) (hk.block r h.lt hr)
/-- range m -/
theorem MapL.range {t e : TypeId} (h : MapL P k w b L) (K : Keyed P k) (ht : P.underlying t = some (.map k e)) :
    ∃ w', (Instr.range t (.map (some b))).run P w = .ok (.pointer (some ⟨w.heap.size, 0, none⟩)) w' ∧ RangeL P k w' b w.heap.size L L ∧ Keep No w w' ∧ w'.heap.size = w.heap.size + 1 := by
  have hkeys := h.keys K
  obtain ⟨ha, es, he, ho⟩ := h
  obtain ⟨w', hrun, hr, hg, hs⟩ := ho.range K ht
  refine ⟨w', hrun, ⟨ha, fun _ h => h, ha, es, _, _, he, hr, fun kl => ?_⟩, (Keep.of_grown hg).mono (fun j _ e => by cases e), hs⟩
  rw [Maps.has_eq, List.any_eq_true]
  constructor
  · rintro ⟨p, hp, hs⟩
    obtain ⟨q, hq, rfl⟩ := List.mem_map.1 (he.mem_iff.1 hp)
    have := WideAt.sameKey_eq hs
    simp only [hd] at this
    subst this
    exact ⟨q.2, hq⟩
  · rintro ⟨v, hv⟩
    exact ⟨hd (kl, v), he.mem_iff.2 (List.mem_map_of_mem hv), WideAt.sameKey_self (hkeys _ hv)⟩
/-- the next entry -/
theorem RangeL.next {r : Nat} {todo : List (Lit × Value)} (h : RangeL P k w b r L todo) (K : Keyed P k) (ty : TypeId) :
    (todo = [] ∧ (Instr.next (.pointer (some ⟨r, 0, none⟩)) false ty).run P w = .ok (.tuple #[.bool false]) w) ∨
    ∃ key v kl w', keyOf P k key = some kl ∧ (kl, v) ∈ todo ∧ (Instr.next (.pointer (some ⟨r, 0, none⟩)) false ty).run P w = .ok (.tuple #[.bool true, key, v]) w' ∧
      RangeL P k w' b r L (eraseL todo kl) ∧ w'.rangeLeft b r < w.rangeLeft b r ∧ Keep (fun j => j = r) w w' ∧ w'.heap.size = w.heap.size ∧ (Instr.entry (.pointer (some ⟨r, 0, none⟩))).run P w' = .ok (.tuple #[key, v]) w' := by
  have hkeys := h.map.keys K
  obtain ⟨ha, h1, h2, es, left, cnt, he, hr, h3⟩ := h
  rcases hr.next K ty with ⟨h0, hl, hrun⟩ | ⟨key, v, kl, y, w', cnt', hkey, hlk, hRv, hat, hrun, hr', hlt, hg, hs, hen⟩
  · refine .inl ⟨?_, hrun⟩
    cases todo with
    | nil => rfl
    | cons p r =>
      have := (h3 p.1).2 ⟨p.2, by simp⟩
      rw [hl] at this; cases this
  · refine .inr ⟨key, v, kl, w', hkey, ?_⟩
    cases hRv
    have hkl := keyLit_of K hkey
    obtain ⟨v', hv'⟩ := (h3 kl).1 hlk
    have hm := h1 _ hv'
    have hfind : es.find? (fun p => p.1.sameKey kl) = some (hd (kl, v')) :=
      (find_some (apart_perm he.symm (apart_map.2 ha)) hkl _).2 ⟨he.mem_iff.2 (List.mem_map_of_mem hm), rfl⟩
    have := hat (.held (.bool false))
    unfold DataW.atKey at this
    simp only [hfind, hd] at this
    cases this
    refine ⟨hv', hrun, ⟨ha, fun p hp => h1 p ((mem_erase hkl).1 hp).1, apart_erase h2 kl, es, _, _, he, hr', fun kl' => ?_⟩, by rw [hr'.left_eq, hr.left_eq]; exact hlt, (Keep.of_grown hg).mono (fun j _ e => by cases e; rfl), hs, hen⟩
    rw [Bool.and_eq_true, h3]
    constructor
    · rintro ⟨⟨v2, hv2⟩, hne⟩
      refine ⟨v2, (mem_erase hkl).2 ⟨hv2, fun e => ?_⟩⟩
      simp only at e
      subst e
      rw [WideAt.sameKey_self hkl] at hne; cases hne
    · rintro ⟨v2, hv2⟩
      obtain ⟨h4, h5⟩ := (mem_erase hkl).1 hv2
      exact ⟨⟨v2, h4⟩, by rw [Maps.sameKey_ne h5]; rfl⟩

theorem rg_lookup {t e : TypeId} (h : MapL P k w b L) (K : Keyed P k) (ht : P.underlying t = some (.map k e)) {z : Value} (hz : (zeroValue e).run P w = .ok z w) {key : Value} {kl : Lit} (hkey : keyOf P k key = some kl) {G : Value → World → Prop}
    (hk : G ((findL L kl).getD z) w) : LookupGoal P t (.map (some b)) key false w G := .mk (h.lookup K ht hz hkey) hk
theorem rg_lookup_ok {t e : TypeId} (h : MapL P k w b L) (K : Keyed P k) (ht : P.underlying t = some (.map k e)) {z : Value} (hz : (zeroValue e).run P w = .ok z w) {key : Value} {kl : Lit} (hkey : keyOf P k key = some kl) {G : Value → World → Prop}
    (hk : G (.tuple #[(findL L kl).getD z, .bool (findL L kl).isSome]) w) : LookupGoal P t (.map (some b)) key true w G := .mk (h.lookup_ok K ht hz hkey) hk
theorem rg_store {t e : TypeId} (h : MapL P k w b L) (K : Keyed P k) (ht : P.underlying t = some (.map k e)) (hn : L.length < maxLen) {key v : Value} {kl : Lit} (hkey : keyOf P k key = some kl) {G : World → Prop}
    (hk : ∀ w', MapL P k w' b ((kl, v) :: eraseL L kl) → Keep (fun j => j = b) w w' → w'.heap.size = w.heap.size → G w') : UpdateGoal P t (.map (some b)) key v w G := by
  obtain ⟨w', hr, h1, h2, h3⟩ := h.store K ht hn (v := v) hkey
  exact .mk hr (hk w' h1 h2 h3)
theorem rg_len {t e : TypeId} (h : MapL P k w b L) (ht : P.underlying t = some (.map k e)) {ty : TypeId} {G : Value → World → Prop} (hk : G (.int .i64 L.length) w) : LenGoal P t ty (.map (some b)) w G := .mk (h.len ht ty) hk
theorem rg_range {t e : TypeId} (h : MapL P k w b L) (K : Keyed P k) (ht : P.underlying t = some (.map k e)) {G : Value → World → Prop}
    (hk : ∀ w', RangeL P k w' b w.heap.size L L → Keep No w w' → w'.heap.size = w.heap.size + 1 → G (.pointer (some ⟨w.heap.size, 0, none⟩)) w') : RangeGoal P t (.map (some b)) w G := by
  obtain ⟨w', hr, h1, h2, h3⟩ := h.range K ht
  exact .mk hr (hk w' h1 h2 h3)
theorem rg_next {r : Nat} {todo : List (Lit × Value)} (h : RangeL P k w b r L todo) (K : Keyed P k) {ty : TypeId} {G : Value → World → Prop}
    (h0 : todo = [] → G (.tuple #[.bool false]) w)
    (h1 : ∀ key v kl w', keyOf P k key = some kl → (kl, v) ∈ todo → RangeL P k w' b r L (eraseL todo kl) → w'.rangeLeft b r < w.rangeLeft b r → Keep (fun j => j = r) w w' → w'.heap.size = w.heap.size →
      (Instr.entry (.pointer (some ⟨r, 0, none⟩))).run P w' = .ok (.tuple #[key, v]) w' → G (.tuple #[.bool true, key, v]) w') : NextGoal P (.pointer (some ⟨r, 0, none⟩)) false ty w G := by
  rcases h.next K ty with ⟨e, hr⟩ | ⟨key, v, kl, w', a1, a2, a3, a4, a5, a6, a7, a8⟩
  · exact .mk hr (h0 e)
  · exact .mk a3 (h1 key v kl w' a1 a2 a4 a5 a6 a7 a8)
end
end Go.Dm
namespace Go.Dm
open Go Go.RowKit
section
variable {P : Program} {w : World} {ops : Array Oper} {rest : List Oper} {o : Oper} {a : Act} {Q : Exit → Act → World → Prop}
theorem wl_insert (hgd : o.guard = none) (m x v : Operand) (t : TypeId) (ho : o.op = Op.insert t m x v) (v1 v2 v3 : Value) (h1 : a.eval m = v1) (h2 : a.eval x = v2) (h3 : a.eval v = v3)
    (h : UpdateGoal P t v1 v2 v3 w fun w' => wpList P ops Q rest (a.put o.dst undef) w') : wpList P ops Q (o :: rest) a w := by
  obtain ⟨v, w', hr, hk⟩ := h
  refine wpList_plain hgd fun K hK => ?_
  unfold Oper.wp
  simp [execOp, ho, h1, h2, h3, hr, Result.andThen]
  exact hK _ _ hk
theorem wl_lookupg (hgd : Region.wanted o (yielded ops a.tmps) = true) (m x : Operand) (t : TypeId) (c : Bool) (ho : o.op = Op.lookup t m x c) (v1 v2 : Value) (h1 : a.eval m = v1) (h2 : a.eval x = v2)
    (h : LookupGoal P t v1 v2 c w fun v w' => wpList P ops Q rest (a.put o.dst v) w') : wpList P ops Q (o :: rest) a w := by
  obtain ⟨v, w', hr, hk⟩ := h
  unfold wpList
  rw [if_pos hgd]
  refine .inl ?_
  unfold Oper.wp
  simp [execOp, ho, h1, h2, hr, Result.andThen]
  exact hk
end
end Go.Dm
