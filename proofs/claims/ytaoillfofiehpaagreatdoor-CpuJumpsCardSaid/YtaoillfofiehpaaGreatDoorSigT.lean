/- A processor's state as the model has it. The document's find, there, may, Noughts (chapter 13). The document's may, Noughts, there, Map (chapter 13). The document's Map (chapter 13). Bytes written to pages that may become dirty by it: plain lists. A region that draws its order, walked in orders that are given as a tree: where two operations that turn memory may both come next, both ways are shown. No condition. -/
import Derived.Test.YtaoillfofiehpaaGreatDoorVmL
import Derived.Test.YtaoillfofiehpaaGreatDoorBits
import Derived.Test.YtaoillfofiehpaaGreatDoorVmP
set_option linter.unusedVariables false
set_option linter.unusedSimpArgs false
namespace Go.Proofs.YtaoillfofiehpaaGreatDoor
open Go.RowKit Go.Dm Go.Dm.Vm Go.Dm.Cp Go.Maps
theorem stR_sz {s : St} (h : StOk s) : (Tryz.prog.info? 57).map (·.size) = some (cellsS s).size := by rw [cellsS_size h]; kernel_rfl
section
variable {w : World}
theorem built_sr0 (v0 v1 v2 v3 v4 v5 v6 v7 v8 v9 v10 v11 v12 v13 v14 v15 v16 v17 v18 v19 v20 v21 v22 v23 v24 v25 v26 v27 v28 v29 v30 v31 : Value) (a b : Int) : Tryz.prog.built 57 [(0, .agg #[v0, v1, v2, v3, v4, v5, v6, v7, v8, v9, v10, v11, v12, v13, v14, v15, v16, v17, v18, v19, v20, v21, v22, v23, v24, v25, v26, v27, v28, v29, v30, v31]), (1, .int .u64 a), (2, .int .u64 b)] = some #[v0, v1, v2, v3, v4, v5, v6, v7, v8, v9, v10, v11, v12, v13, v14, v15, v16, v17, v18, v19, v20, v21, v22, v23, v24, v25, v26, v27, v28, v29, v30, v31, .int .u64 a, .int .u64 b] := by kernel_rfl
theorem built_sr (l : List Value) (h : l.length = 32) (a b : Int) : Tryz.prog.built 57 [(0, .agg l.toArray), (1, .int .u64 a), (2, .int .u64 b)] = some (l ++ [Value.int .u64 a, Value.int .u64 b]).toArray :=
  match l, h with
  | [v0, v1, v2, v3, v4, v5, v6, v7, v8, v9, v10, v11, v12, v13, v14, v15, v16, v17, v18, v19, v20, v21, v22, v23, v24, v25, v26, v27, v28, v29, v30, v31], _ => built_sr0 v0 v1 v2 v3 v4 v5 v6 v7 v8 v9 v10 v11 v12 v13 v14 v15 v16 v17 v18 v19 v20 v21 v22 v23 v24 v25 v26 v27 v28 v29 v30 v31 a b
set_option maxRecDepth 100000 in
set_option maxHeartbeats 4000000 in
theorem state14_any (s : St) (hs : StOk s) : Calls Tryz.prog 19 #[.agg (cellsS s)] w fun e w' => e = .returned (.agg (cellsS s)) ∧ Keep No w w' := by
  have hsz := cellsS_size hs
  have hss := stC_sz hs
  have hsr := stR_sz hs
  have hone := cellsS_one s
  have hbu := built_sr (s.r.map ru) (by simpa using hs.len) s.pc s.tls
  have hpc := cellsS_pc hs
  have htl := cellsS_tls hs
  have hrl : (s.r.map ru).length = 32 := by simpa using hs.len
  have hrg : ∀ j u, (s.r.map ru)[j]? = some u → (cellsS s)[j]? = some u := fun j u hu => by
    unfold cellsS
    rw [List.getElem?_toArray, List.getElem?_append_left (List.getElem?_eq_some_iff.1 hu).1]
    exact hu
  have hbu2 : Tryz.prog.built 57 [(0, .agg (s.r.map ru).toArray), (1, .int .u64 (s.pc : Int)), (2, .int .u64 (s.tls : Int))] = some (cellsS s) := hbu
  unfold ru at hpc htl
  generalize s.r.map ru = rl at *
  generalize cellsS s = cs at *
  have g32 : cs[32]'(by omega) = .int .u64 (s.pc : Int) := by
    have := Array.getElem?_eq_getElem (xs := cs) (i := 32) (by omega)
    rw [hpc] at this
    exact (Option.some.inj this).symm
  have g33 : cs[33]'(by omega) = .int .u64 (s.tls : Int) := by
    have := Array.getElem?_eq_getElem (xs := cs) (i := 33) (by omega)
    rw [htl] at this
    exact (Option.some.inj this).symm
  have HPC := Lib.hid hpc
  have HTL := Lib.hid htl
  have HSR := Lib.hid hsr
  have HONE := Lib.hid hone
  have HBU := Lib.hid hbu2
  have HRG := Lib.hid hrg
  have HRL := Lib.hid hrl
  clear hbu hbu2 hpc htl hsr hone hrg hrl hss
  go_enter Tryz.func19, Tryz.ntmps19
  go_wp2_with (with_reducible refine wl_ld rfl _ 23 rfl _ rfl ?_)
  have hkW1 : Keep No w (w.alloc (.cells cs 33)) := (Keep.refl _ _).alloc _
  have hBW1 : Blk (w.alloc (.cells cs 33)) w.heap.size cs 33 := Blk.new _ _ _
  have hzW1 : (w.alloc (.cells cs 33)).heap.size = w.heap.size + 1 := World.size_alloc _ _
  generalize w.alloc (.cells cs 33) = W1 at *
  have hkW2 : Keep No W1 (W1.alloc (.cells #[.int .u64 0, .int .u64 0, .int .u64 0, .int .u64 0, .int .u64 0, .int .u64 0, .int .u64 0, .int .u64 0, .int .u64 0, .int .u64 0, .int .u64 0, .int .u64 0, .int .u64 0, .int .u64 0, .int .u64 0, .int .u64 0, .int .u64 0, .int .u64 0, .int .u64 0, .int .u64 0, .int .u64 0, .int .u64 0, .int .u64 0, .int .u64 0, .int .u64 0, .int .u64 0, .int .u64 0, .int .u64 0, .int .u64 0, .int .u64 0, .int .u64 0, .int .u64 0, .int .u64 0, .int .u64 0] 57)) := (Keep.refl _ _).alloc _
  have hBW2 : Blk (W1.alloc (.cells #[.int .u64 0, .int .u64 0, .int .u64 0, .int .u64 0, .int .u64 0, .int .u64 0, .int .u64 0, .int .u64 0, .int .u64 0, .int .u64 0, .int .u64 0, .int .u64 0, .int .u64 0, .int .u64 0, .int .u64 0, .int .u64 0, .int .u64 0, .int .u64 0, .int .u64 0, .int .u64 0, .int .u64 0, .int .u64 0, .int .u64 0, .int .u64 0, .int .u64 0, .int .u64 0, .int .u64 0, .int .u64 0, .int .u64 0, .int .u64 0, .int .u64 0, .int .u64 0, .int .u64 0, .int .u64 0] 57)) W1.heap.size #[.int .u64 0, .int .u64 0, .int .u64 0, .int .u64 0, .int .u64 0, .int .u64 0, .int .u64 0, .int .u64 0, .int .u64 0, .int .u64 0, .int .u64 0, .int .u64 0, .int .u64 0, .int .u64 0, .int .u64 0, .int .u64 0, .int .u64 0, .int .u64 0, .int .u64 0, .int .u64 0, .int .u64 0, .int .u64 0, .int .u64 0, .int .u64 0, .int .u64 0, .int .u64 0, .int .u64 0, .int .u64 0, .int .u64 0, .int .u64 0, .int .u64 0, .int .u64 0, .int .u64 0, .int .u64 0] 57 := Blk.new _ _ _
  have hzW2 : (W1.alloc (.cells #[.int .u64 0, .int .u64 0, .int .u64 0, .int .u64 0, .int .u64 0, .int .u64 0, .int .u64 0, .int .u64 0, .int .u64 0, .int .u64 0, .int .u64 0, .int .u64 0, .int .u64 0, .int .u64 0, .int .u64 0, .int .u64 0, .int .u64 0, .int .u64 0, .int .u64 0, .int .u64 0, .int .u64 0, .int .u64 0, .int .u64 0, .int .u64 0, .int .u64 0, .int .u64 0, .int .u64 0, .int .u64 0, .int .u64 0, .int .u64 0, .int .u64 0, .int .u64 0, .int .u64 0, .int .u64 0] 57)).heap.size = W1.heap.size + 1 := World.size_alloc _ _
  generalize W1.alloc (.cells #[.int .u64 0, .int .u64 0, .int .u64 0, .int .u64 0, .int .u64 0, .int .u64 0, .int .u64 0, .int .u64 0, .int .u64 0, .int .u64 0, .int .u64 0, .int .u64 0, .int .u64 0, .int .u64 0, .int .u64 0, .int .u64 0, .int .u64 0, .int .u64 0, .int .u64 0, .int .u64 0, .int .u64 0, .int .u64 0, .int .u64 0, .int .u64 0, .int .u64 0, .int .u64 0, .int .u64 0, .int .u64 0, .int .u64 0, .int .u64 0, .int .u64 0, .int .u64 0, .int .u64 0, .int .u64 0] 57) = W2 at *
  rw [hzW1] at hBW2 hzW2
  have b1 := hBW1.keep hkW2 fun h => h
  have hkk := hkW1.trans' hkW2
  refine rg_lds (l := rl) (fun j u hu => ?_) Tryz.underlying23 rfl (by rw [HRL.out]; kernel_rfl) ?_
  · rw [b1.cell, Nat.zero_add]; exact HRG.out j u hu
  have q1 : W2.cell? ⟨w.heap.size, 32, none⟩ = some (.int .u64 (s.pc : Int)) := (b1.cell 32).trans HPC.out
  have q2 : W2.cell? ⟨w.heap.size, 33, none⟩ = some (.int .u64 (s.tls : Int)) := (b1.cell 33).trans HTL.out
  go_wp2_with (with_reducible refine wl_build rfl 57 _ rfl ?_)
  refine rg_build HBU.out ?_
  go_wp2_with (with_reducible refine wl_stAgg rfl _ _ _ rfl _ _ rfl rfl ?_)
  refine rg_stAgg hBW2 HSR.out (by rw [hsz]; rfl) HONE.out ?_
  intro w3 b3 hk3 _
  go_wp2_with fail
  refine ret_blk rfl rfl b3 Tryz.underlying57 rfl HSR.out rfl ?_
  exact ⟨rfl, hkk.trans hk3 fun j hj e => by have e2 : j = w.heap.size + 1 := e; omega⟩
end
end Go.Proofs.YtaoillfofiehpaaGreatDoor
namespace Go.Proofs.YtaoillfofiehpaaGreatDoor
open Go.RowKit Go.Dm Go.Dm.Vm Go.Maps Go.Dm.Oc

/-- a page as the document has it -/
def encS (p : Pg) : List Value := [.int .u64 (p.addr : Int), .int .i64 (p.prot : Int), .bool p.dirty, .string ⟨p.file.toArray⟩, .int .u64 (p.off : Int), .string ⟨p.b.toArray⟩]
theorem encS_len (p : Pg) : (encS p).length = 6 := rfl
theorem encS_one (p : Pg) : ∀ u ∈ encS p, u.oneCell' = true := by
  intro u hu
  simp only [encS, List.mem_cons, List.not_mem_nil, or_false] at hu
  rcases hu with rfl | rfl | rfl | rfl | rfl | rfl <;> rfl
theorem rvP_info : (Tryz.prog.info? 90).map (fun i => (i.zero, i.size, i.bytes)) = some (some (.agg #[.int .u64 0, .int .i64 0, .bool false, .string ⟨#[]⟩, .int .u64 0, .string ⟨#[]⟩]), 6, 64) := by kernel_rfl
section
variable {α : Type} {w : World} {k : Nat} {enc : α → List Value} {v : Value} {l : List α} {base : Nat} {e : TypeId} {P : Program}
theorem rg_pushD (nd : Nat) (z : Value) (bytes : Nat) {t ty : TypeId} (ht : P.underlying t = some (.slice e)) (hi : (P.info? e).map (fun i => (i.zero, i.size, i.bytes)) = some (some z, k, bytes)) (hzs : z.cells.size = k) (hk0 : 0 < k)
    {x : α} {cs : Array Value} (hcs : cs.toList = enc x) (hx : (enc x).length = k) (hone : ∀ u ∈ enc x, u.oneCell' = true) (ho : FlO w base e k enc v l) (hlen : l.length + 1 ≤ 1099511627776) (hb : bytes ≤ 128) (hbase : base ≤ w.heap.size) {K : Value → World → Prop}
    (h : ∀ v' w', FlO w' base e k enc v' (l ++ [x]) → Keep (fun j => some j = v.ownBlock) w w' → K v' w') : AppendGoal P t t ty v (.slice (some ⟨w.heap.size, 0, none⟩) 1 1) ((w.drewN nd).alloc (.cells cs e)) K :=
  rg_push (w := w.drewN nd) z bytes ht hi hzs hk0 hcs hx hone ho hlen hb hbase fun v' w' h1 h2 _ => h v' w' h1 (((Keep.refl (fun j => some j = v.ownBlock) w).drewN nd).trans' h2)
end
section
variable {A : Nat → Prop} {w : World} {m : V} {v : Value}
set_option maxRecDepth 100000 in
set_option maxHeartbeats 2000000 in
theorem rvfind_any (a : Nat) (ha : a < 18446744073709551616) (h : Fl A w 6 encS v m) (hl : m.length ≤ 1099511627776) (hpa : ∀ p ∈ m, p.addr < 18446744073709551616) :
    Calls Tryz.prog 69 #[.agg #[v], .int .u64 (a : Int)] w fun e w' => ∃ r : Int, e = .returned (.int .i64 r) ∧ ((r = -1 ∧ ∀ p ∈ m, p.addr ≠ pageOf a) ∨ ∃ (i : Nat) (hi : i < m.length), r = i ∧ m[i].addr = pageOf a) ∧ Keep No w w' := by
  obtain ⟨av, cv, rfl, _, _⟩ := h.shape
  have hq : (a : Int).tdiv 256 = ((a / 256 : Nat) : Int) := by rw [Int.tdiv_eq_ediv_of_nonneg (by omega)]; omega
  have hpo : ((a / 256 : Nat) : Int) * 256 = ((pageOf a : Nat) : Int) := by unfold pageOf; omega
  have hpb : ((pageOf a : Nat) : Int) < 18446744073709551616 := by have := pageOf_le a; omega
  generalize a / 256 = q at *
  generalize pageOf a = pa at *
  go_enter Tryz.func69, Tryz.ntmps69
  go_wp2_with fail
  have hkW : Keep No w (w.alloc (.cells #[.slice av m.length cv] 52)) := (Keep.refl _ _).alloc _
  have hBW : Blk (w.alloc (.cells #[.slice av m.length cv] 52)) w.heap.size #[.slice av m.length cv] 52 := Blk.new _ _ _
  have hzW : (w.alloc (.cells #[.slice av m.length cv] 52)).heap.size = w.heap.size + 1 := World.size_alloc _ _
  generalize w.alloc (.cells #[.slice av m.length cv] 52) = W at *
  have q0 : W.cell? ⟨w.heap.size, 0, none⟩ = some (.slice av m.length cv) := hBW.cell 0
  go_wp2_with fail
  go_loopw [5] (fun iv wr => ∃ i : Nat, iv = .int .i64 i ∧ i ≤ m.length ∧ (∀ j (hj : j < m.length), j < i → m[j].addr ≠ pa) ∧ wr = W) (fun iv _ => m.length - (intOf iv).toNat)
  case atStart => exact ⟨0, rfl, Nat.zero_le _, fun j _ hj => absurd hj (Nat.not_lt_zero _), rfl⟩
  case round =>
    obtain ⟨i, rfl, hi, hno, rfl⟩ := hrel
    rcases Nat.lt_or_ge i m.length with hlt | hge
    · obtain ⟨g, off, cap, e, _, _, _, _, hc⟩ := (h.no hkW).at encS_len hlt
      cases e
      have c0 := hc 0 _ rfl
      rw [Nat.add_zero] at c0
      have hiz : (i : Int) < (m.length : Int) := by omega
      have hno2 : m[i].addr ≠ pa → ∀ j (hj : j < m.length), j < i + 1 → m[j].addr ≠ pa := fun h j hj hji => by
        rcases Nat.lt_or_ge j i with h2 | h2
        · exact hno j hj h2
        · obtain rfl : j = i := by omega
          exact h
      have hfin : m[i].addr = pa → ∃ (k : Nat) (hk : k < m.length), (i : Int) = k ∧ m[k].addr = pa := fun h => ⟨i, hlt, rfl, h⟩
      have HF := Lib.hid hfin
      have HN := Lib.hid hno2
      have hab := hpa m[i] (List.getElem_mem hlt)
      clear hc hno hfin hno2
      generalize m[i].addr = x at *
      by_cases e : x = pa
      · subst e
        go_wp2_with fail
        go_ret
        obtain ⟨k, hk, e1, e2⟩ := HF.out (by trivial)
        exact ⟨_, rfl, .inr ⟨k, e1, hk, e2⟩, hkW⟩
      · have i1 : ((x : Int) == (pa : Int)) = false := by simp; omega
        go_wp2_with fail
        go_roundw
        case rel => exact ⟨i + 1, by go_num, hlt, HN.out e, trivial⟩
        case measure => simp [intOf]; omega
    · obtain rfl : i = m.length := Nat.le_antisymm hi hge
      go_wp2_with fail
      go_ret
      exact ⟨_, rfl, .inl ⟨rfl, fun p hp => by obtain ⟨j, hj, rfl⟩ := List.getElem_of_mem hp; exact hno j hj hj⟩, hkW⟩
set_option maxRecDepth 100000 in
set_option maxHeartbeats 4000000 in
theorem rvwith_any (p : Pg) (h : Fl A w 6 encS v m) (hA : ∀ k, A k → k < w.heap.size) (hl : m.length ≤ 1000000) (hpa : ∀ q ∈ m, q.addr < 18446744073709551616) (hp : p.addr < 18446744073709551616) :
    Calls Tryz.prog 71 #[.agg #[v], .agg (encS p).toArray] w fun e w' => ∃ v', e = .returned (.agg #[v']) ∧ FlO w' w.heap.size 90 6 encS v' (withP p m false) ∧ Keep No w w' := by
  obtain ⟨av, cv, rfl, _, _⟩ := h.shape
  rw [show (encS p).toArray = #[.int .u64 (p.addr : Int), .int .i64 (p.prot : Int), .bool p.dirty, .string ⟨p.file.toArray⟩, .int .u64 (p.off : Int), .string ⟨p.b.toArray⟩] from rfl]
  generalize hR : withP p m false = R
  go_enter Tryz.func71, Tryz.ntmps71
  go_wp2_with fail
  have hkW1 : Keep No w (w.alloc (.cells #[.slice av m.length cv] 52)) := (Keep.refl _ _).alloc _
  have hBW1 : Blk (w.alloc (.cells #[.slice av m.length cv] 52)) w.heap.size #[.slice av m.length cv] 52 := Blk.new _ _ _
  have hzW1 : (w.alloc (.cells #[.slice av m.length cv] 52)).heap.size = w.heap.size + 1 := World.size_alloc _ _
  generalize w.alloc (.cells #[.slice av m.length cv] 52) = W1 at *
  have hkW2 : Keep No W1 (W1.alloc (.cells #[.int .u64 (p.addr : Int), .int .i64 (p.prot : Int), .bool p.dirty, .string ⟨p.file.toArray⟩, .int .u64 (p.off : Int), .string ⟨p.b.toArray⟩] 90)) := (Keep.refl _ _).alloc _
  have hBW2 : Blk (W1.alloc (.cells #[.int .u64 (p.addr : Int), .int .i64 (p.prot : Int), .bool p.dirty, .string ⟨p.file.toArray⟩, .int .u64 (p.off : Int), .string ⟨p.b.toArray⟩] 90)) W1.heap.size #[.int .u64 (p.addr : Int), .int .i64 (p.prot : Int), .bool p.dirty, .string ⟨p.file.toArray⟩, .int .u64 (p.off : Int), .string ⟨p.b.toArray⟩] 90 := Blk.new _ _ _
  have hzW2 : (W1.alloc (.cells #[.int .u64 (p.addr : Int), .int .i64 (p.prot : Int), .bool p.dirty, .string ⟨p.file.toArray⟩, .int .u64 (p.off : Int), .string ⟨p.b.toArray⟩] 90)).heap.size = W1.heap.size + 1 := World.size_alloc _ _
  generalize W1.alloc (.cells #[.int .u64 (p.addr : Int), .int .i64 (p.prot : Int), .bool p.dirty, .string ⟨p.file.toArray⟩, .int .u64 (p.off : Int), .string ⟨p.b.toArray⟩] 90) = W2 at *
  have hkW3 : Keep No W2 (W2.alloc (.cells #[.slice none 0 0] 52)) := (Keep.refl _ _).alloc _
  have hBW3 : Blk (W2.alloc (.cells #[.slice none 0 0] 52)) W2.heap.size #[.slice none 0 0] 52 := Blk.new _ _ _
  have hzW3 : (W2.alloc (.cells #[.slice none 0 0] 52)).heap.size = W2.heap.size + 1 := World.size_alloc _ _
  generalize W2.alloc (.cells #[.slice none 0 0] 52) = W3 at *
  rw [hzW1] at hBW2 hzW2
  rw [hzW2] at hBW3
  have hkW : Keep No w W3 := (hkW1.trans' hkW2).trans' hkW3
  have b1 := hBW1.keep (hkW2.trans' hkW3) fun h => h
  have b2 := hBW2.keep hkW3 fun h => h
  have b3 := hBW3
  have hlz : (m.length : Int) ≤ 1000000 := by omega
  clear hBW1 hBW2 hBW3 hkW1 hkW2 hkW3 hzW1 hzW2 hzW3
  go_wp2_with fail
  go_loopw [5, 6, 7] (fun lv pv iv wr => ∃ (i : Nat) (L : V) (put : Bool), lv = lv ∧ pv = .bool put ∧ iv = .int .i64 i ∧ i ≤ m.length ∧ FlO wr W3.heap.size 90 6 encS lv L ∧ L ++ withP p (m.drop i) put = R ∧ L.length ≤ 2 * i ∧ Keep No W3 wr) (fun _ _ iv _ => m.length - (intOf iv).toNat)
  case atStart => exact ⟨0, [], false, rfl, rfl, rfl, Nat.zero_le _, FlO.nil, hR, Nat.zero_le _, Keep.refl _ _⟩
  case round =>
    obtain ⟨i, L, put, _, rfl, rfl, hi, ho, hL, hLl, hk⟩ := hrel
    obtain ⟨al, cl, rfl, _, _⟩ := ho.fl.shape
    rcases Nat.lt_or_ge i m.length with hlt | hge
    · have hiz : (i : Int) < (m.length : Int) := by omega
      have hdr : m.drop i = m[i] :: m.drop (i + 1) := List.drop_eq_getElem_cons hlt
      have hab := hpa m[i] (List.getElem_mem hlt)
      rw [hdr] at hL
      simp only [withP] at hL
      have q0 : wr.cell? ⟨w.heap.size, 0, none⟩ = some (.slice av m.length cv) := (hk.cell (p := ⟨w.heap.size, 0, none⟩) b1.lt fun h => h).trans (b1.cell 0)
      have q1 : wr.cell? ⟨w.heap.size + 1, 0, none⟩ = some (.int .u64 (p.addr : Int)) := (hk.cell (p := ⟨w.heap.size + 1, 0, none⟩) b2.lt fun h => h).trans (b2.cell 0)
      have q2 : wr.cell? ⟨w.heap.size + 1, 1, none⟩ = some (.int .i64 (p.prot : Int)) := (hk.cell (p := ⟨w.heap.size + 1, 1, none⟩) b2.lt fun h => h).trans (b2.cell 1)
      have q3 : wr.cell? ⟨w.heap.size + 1, 2, none⟩ = some (.bool p.dirty) := (hk.cell (p := ⟨w.heap.size + 1, 2, none⟩) b2.lt fun h => h).trans (b2.cell 2)
      have q4 : wr.cell? ⟨w.heap.size + 1, 3, none⟩ = some (.string ⟨p.file.toArray⟩) := (hk.cell (p := ⟨w.heap.size + 1, 3, none⟩) b2.lt fun h => h).trans (b2.cell 3)
      have q5 : wr.cell? ⟨w.heap.size + 1, 4, none⟩ = some (.int .u64 (p.off : Int)) := (hk.cell (p := ⟨w.heap.size + 1, 4, none⟩) b2.lt fun h => h).trans (b2.cell 4)
      have q6 : wr.cell? ⟨w.heap.size + 1, 5, none⟩ = some (.string ⟨p.b.toArray⟩) := (hk.cell (p := ⟨w.heap.size + 1, 5, none⟩) b2.lt fun h => h).trans (b2.cell 5)
      obtain ⟨g, off, cap, e, _, hgl, _, _, hc⟩ := (h.no (hkW.trans' hk)).at encS_len hlt
      cases e
      have c0 : wr.cell? ⟨g, off + i * 6, none⟩ = some (.int .u64 (m[i].addr : Int)) := hc 0 _ rfl
      have c1 : wr.cell? ⟨g, off + i * 6 + 1, none⟩ = some (.int .i64 (m[i].prot : Int)) := hc 1 _ rfl
      have c2 : wr.cell? ⟨g, off + i * 6 + 2, none⟩ = some (.bool m[i].dirty) := hc 2 _ rfl
      have c3 : wr.cell? ⟨g, off + i * 6 + 3, none⟩ = some (.string ⟨m[i].file.toArray⟩) := hc 3 _ rfl
      have c4 : wr.cell? ⟨g, off + i * 6 + 4, none⟩ = some (.int .u64 (m[i].off : Int)) := hc 4 _ rfl
      have c5 : wr.cell? ⟨g, off + i * 6 + 5, none⟩ = some (.string ⟨m[i].b.toArray⟩) := hc 5 _ rfl
      clear hc
      have hqm := @Lib.hid (m[i] = m[i]) rfl
      generalize hq : m[i] = q at *
      have HQ := Lib.hid hq
      clear hq hqm hdr
      cases put with
      | true =>
        by_cases hne : q.addr = p.addr
        · have hL2 : L ++ withP p (m.drop (i + 1)) true = R := by simpa [hne] using hL
          have i1 : ((q.addr : Int) == (p.addr : Int)) = true := by simp; omega
          have i2 : (q.addr == p.addr) = true := by simpa using hne
          clear hL
          go_wp2_with fail
          go_quiet (fail)
          go_wp2_with fail
          go_quiet (fail)
          go_wp2_with fail
          go_roundw
          case rel => exact ⟨i + 1, L, true, trivial, rfl, by go_num, hlt, ho, hL2, by omega, hk.drewN _⟩
          case measure => simp [intOf]; omega
        · have hL2 : (L ++ [q]) ++ withP p (m.drop (i + 1)) true = R := by simpa [hne] using hL
          have i1 : ((q.addr : Int) == (p.addr : Int)) = false := by simp; omega
          have i2 : (q.addr == p.addr) = false := by simpa using hne
          clear hL hne
          go_wp2_with fail
          go_quiet (fail)
          go_wp2_with fail
          go_quiet (fail)
          go_wp2_with (at_builtin; refine wl_append rfl _ _ _ _ rfl _ _ rfl rfl ?_)
          refine rg_pushD (cs := #[.int .u64 (q.addr : Int), .int .i64 (q.prot : Int), .bool q.dirty, .string ⟨q.file.toArray⟩, .int .u64 (q.off : Int), .string ⟨q.b.toArray⟩]) _ _ 64 Tryz.underlying50 rvP_info rfl (by decide) (enc := encS) (x := q) rfl rfl (encS_one _) (by exact ho) (by omega) (by decide) (by exact hk.size) ?_
          intro lv2 w2 ho2 hk2
          have hkn : Keep No W3 w2 := hk.own ho hk2
          obtain ⟨al2, cl2, rfl, _, _⟩ := ho2.fl.shape
          go_wp2_with fail
          go_roundw
          case rel => exact ⟨i + 1, L ++ [q], true, trivial, rfl, by go_num, hlt, ho2, hL2, by simp; omega, hkn⟩
          case measure => simp [intOf]; omega
      | false =>
        by_cases hge : p.addr ≤ q.addr
        · have j1 : decide ((p.addr : Int) ≤ (q.addr : Int)) = true := by simp; omega
          have j2 : decide (p.addr ≤ q.addr) = true := by simpa using hge
          by_cases hne : q.addr = p.addr
          · have hL2 : (L ++ [p]) ++ withP p (m.drop (i + 1)) true = R := by simpa [hne, hge] using hL
            have i1 : ((q.addr : Int) == (p.addr : Int)) = true := by simp; omega
            have i2 : (q.addr == p.addr) = true := by simpa using hne
            clear hL hge
            go_wp2_with fail
            go_quiet (fail)
            go_wp2_with (at_builtin; refine wl_append rfl _ _ _ _ rfl _ _ rfl rfl ?_)
            refine rg_pushD (cs := #[.int .u64 (p.addr : Int), .int .i64 (p.prot : Int), .bool p.dirty, .string ⟨p.file.toArray⟩, .int .u64 (p.off : Int), .string ⟨p.b.toArray⟩]) _ _ 64 Tryz.underlying50 rvP_info rfl (by decide) (enc := encS) (x := p) rfl rfl (encS_one _) (by exact ho) (by omega) (by decide) (by exact hk.size) ?_
            intro lv2 w2 ho2 hk2
            have hkn : Keep No W3 w2 := hk.own ho hk2
            obtain ⟨al2, cl2, rfl, _, _⟩ := ho2.fl.shape
            have hk := hkn
            clear q0 q1 q2 q3 q4 q5 q6 c0 c1 c2 c3 c4 c5
            have q0 : w2.cell? ⟨w.heap.size, 0, none⟩ = _ := (hk.cell (p := ⟨w.heap.size, 0, none⟩) b1.lt fun h => h).trans (b1.cell 0)
            have q1 : w2.cell? ⟨w.heap.size + 1, 0, none⟩ = some (.int .u64 (p.addr : Int)) := (hk.cell (p := ⟨w.heap.size + 1, 0, none⟩) b2.lt fun h => h).trans (b2.cell 0)
            simp only [List.getElem?_toArray, List.getElem?_cons_zero] at q0
            obtain ⟨g, off, cap, e, _, hgl, _, _, hc⟩ := (h.no (hkW.trans' hk)).at encS_len hlt
            cases e
            have c0 : w2.cell? ⟨g, off + i * 6, none⟩ = some (.int .u64 (q.addr : Int)) := by have := hc 0 _ rfl; rw [HQ.out] at this; exact this
            clear hc
            go_wp2_with fail
            go_quiet (fail)
            go_wp2_with fail
            go_roundw
            case rel => exact ⟨i + 1, L ++ [p], true, trivial, rfl, by go_num, hlt, ho2, hL2, by simp; omega, hk.drewN _⟩
            case measure => simp [intOf]; omega
          · have hL2 : (L ++ [p] ++ [q]) ++ withP p (m.drop (i + 1)) true = R := by simpa [hne, hge] using hL
            have i1 : ((q.addr : Int) == (p.addr : Int)) = false := by simp; omega
            have i2 : (q.addr == p.addr) = false := by simpa using hne
            clear hL hge hne
            go_wp2_with fail
            go_quiet (fail)
            go_wp2_with (at_builtin; refine wl_append rfl _ _ _ _ rfl _ _ rfl rfl ?_)
            refine rg_pushD (cs := #[.int .u64 (p.addr : Int), .int .i64 (p.prot : Int), .bool p.dirty, .string ⟨p.file.toArray⟩, .int .u64 (p.off : Int), .string ⟨p.b.toArray⟩]) _ _ 64 Tryz.underlying50 rvP_info rfl (by decide) (enc := encS) (x := p) rfl rfl (encS_one _) (by exact ho) (by omega) (by decide) (by exact hk.size) ?_
            intro lv2 w2 ho2 hk2
            have hkn : Keep No W3 w2 := hk.own ho hk2
            obtain ⟨al2, cl2, rfl, _, _⟩ := ho2.fl.shape
            have hk := hkn
            clear q0 q1 q2 q3 q4 q5 q6 c0 c1 c2 c3 c4 c5
            have q0 : w2.cell? ⟨w.heap.size, 0, none⟩ = _ := (hk.cell (p := ⟨w.heap.size, 0, none⟩) b1.lt fun h => h).trans (b1.cell 0)
            have q1 : w2.cell? ⟨w.heap.size + 1, 0, none⟩ = some (.int .u64 (p.addr : Int)) := (hk.cell (p := ⟨w.heap.size + 1, 0, none⟩) b2.lt fun h => h).trans (b2.cell 0)
            simp only [List.getElem?_toArray, List.getElem?_cons_zero] at q0
            obtain ⟨g, off, cap, e, _, hgl, _, _, hc⟩ := (h.no (hkW.trans' hk)).at encS_len hlt
            cases e
            rw [HQ.out] at hc
            have c0 : w2.cell? ⟨g, off + i * 6, none⟩ = some (.int .u64 (q.addr : Int)) := hc 0 _ rfl
            have c1 : w2.cell? ⟨g, off + i * 6 + 1, none⟩ = some (.int .i64 (q.prot : Int)) := hc 1 _ rfl
            have c2 : w2.cell? ⟨g, off + i * 6 + 2, none⟩ = some (.bool q.dirty) := hc 2 _ rfl
            have c3 : w2.cell? ⟨g, off + i * 6 + 3, none⟩ = some (.string ⟨q.file.toArray⟩) := hc 3 _ rfl
            have c4 : w2.cell? ⟨g, off + i * 6 + 4, none⟩ = some (.int .u64 (q.off : Int)) := hc 4 _ rfl
            have c5 : w2.cell? ⟨g, off + i * 6 + 5, none⟩ = some (.string ⟨q.b.toArray⟩) := hc 5 _ rfl
            clear hc ho
            have ho := ho2
            have hLl2 : (L ++ [p]).length ≤ 2 * i + 1 := by simp; omega
            have hll : (L ++ [p]).length = L.length + 1 := by simp
            rw [hll] at ho ⊢
            clear ho2 hkn
            go_wp2_with fail
            go_quiet (fail)
            go_wp2_with (at_builtin; refine wl_append rfl _ _ _ _ rfl _ _ rfl rfl ?_)
            refine rg_pushD (l := L ++ [p]) (cs := #[.int .u64 (q.addr : Int), .int .i64 (q.prot : Int), .bool q.dirty, .string ⟨q.file.toArray⟩, .int .u64 (q.off : Int), .string ⟨q.b.toArray⟩]) _ _ 64 Tryz.underlying50 rvP_info rfl (by decide) (enc := encS) (x := q) rfl rfl (encS_one _) (by exact ho) (by omega) (by decide) (by exact hk.size) ?_
            intro lv3 w3 ho2 hk2
            have hkn : Keep No W3 w3 := hk.own ho hk2
            obtain ⟨al3, cl3, rfl, _, _⟩ := ho2.fl.shape
            go_wp2_with fail
            go_roundw
            case rel => exact ⟨i + 1, L ++ [p] ++ [q], true, trivial, rfl, by go_num, hlt, ho2, hL2, by simp; omega, hkn⟩
            case measure => simp [intOf]; omega
        · have j1 : decide ((p.addr : Int) ≤ (q.addr : Int)) = false := by simp; omega
          have j2 : decide (p.addr ≤ q.addr) = false := by simpa using hge
          have hne : q.addr ≠ p.addr := by omega
          have hL2 : (L ++ [q]) ++ withP p (m.drop (i + 1)) false = R := by simpa [hne, hge] using hL
          have i1 : ((q.addr : Int) == (p.addr : Int)) = false := by simp; omega
          have i2 : (q.addr == p.addr) = false := by simpa using hne
          clear hL hge hne
          go_wp2_with fail
          go_quiet (fail)
          go_wp2_with fail
          go_quiet (fail)
          go_wp2_with (at_builtin; refine wl_append rfl _ _ _ _ rfl _ _ rfl rfl ?_)
          refine rg_pushD (cs := #[.int .u64 (q.addr : Int), .int .i64 (q.prot : Int), .bool q.dirty, .string ⟨q.file.toArray⟩, .int .u64 (q.off : Int), .string ⟨q.b.toArray⟩]) _ _ 64 Tryz.underlying50 rvP_info rfl (by decide) (enc := encS) (x := q) rfl rfl (encS_one _) (by exact ho) (by omega) (by decide) (by exact hk.size) ?_
          intro lv2 w2 ho2 hk2
          have hkn : Keep No W3 w2 := hk.own ho hk2
          obtain ⟨al2, cl2, rfl, _, _⟩ := ho2.fl.shape
          go_wp2_with fail
          go_roundw
          case rel => exact ⟨i + 1, L ++ [q], false, trivial, rfl, by go_num, hlt, ho2, hL2, by simp; omega, hkn⟩
          case measure => simp [intOf]; omega
    · obtain rfl : i = m.length := Nat.le_antisymm hi hge
      rw [List.drop_length] at hL
      have q0 : wr.cell? ⟨w.heap.size, 0, none⟩ = some (.slice av m.length cv) := (hk.cell (p := ⟨w.heap.size, 0, none⟩) b1.lt fun h => h).trans (b1.cell 0)
      have q1 : wr.cell? ⟨w.heap.size + 1, 0, none⟩ = some (.int .u64 (p.addr : Int)) := (hk.cell (p := ⟨w.heap.size + 1, 0, none⟩) b2.lt fun h => h).trans (b2.cell 0)
      have q2 : wr.cell? ⟨w.heap.size + 1, 1, none⟩ = some (.int .i64 (p.prot : Int)) := (hk.cell (p := ⟨w.heap.size + 1, 1, none⟩) b2.lt fun h => h).trans (b2.cell 1)
      have q3 : wr.cell? ⟨w.heap.size + 1, 2, none⟩ = some (.bool p.dirty) := (hk.cell (p := ⟨w.heap.size + 1, 2, none⟩) b2.lt fun h => h).trans (b2.cell 2)
      have q4 : wr.cell? ⟨w.heap.size + 1, 3, none⟩ = some (.string ⟨p.file.toArray⟩) := (hk.cell (p := ⟨w.heap.size + 1, 3, none⟩) b2.lt fun h => h).trans (b2.cell 3)
      have q5 : wr.cell? ⟨w.heap.size + 1, 4, none⟩ = some (.int .u64 (p.off : Int)) := (hk.cell (p := ⟨w.heap.size + 1, 4, none⟩) b2.lt fun h => h).trans (b2.cell 4)
      have q6 : wr.cell? ⟨w.heap.size + 1, 5, none⟩ = some (.string ⟨p.b.toArray⟩) := (hk.cell (p := ⟨w.heap.size + 1, 5, none⟩) b2.lt fun h => h).trans (b2.cell 5)
      have qr : wr.cell? ⟨w.heap.size + 1 + 1, 0, none⟩ = some (.slice none 0 0) := (hk.cell (p := ⟨w.heap.size + 1 + 1, 0, none⟩) b3.lt fun h => h).trans (b3.cell 0)
      cases put with
      | true =>
        have hL2 : L = R := by simpa [withP] using hL
        have hB := (b3.keep hk fun h => h)
        have hfz := hB.frozen 0
        have hBs := hB.set (i := 0) (.slice al L.length cl)
        have hkf : Keep No w (wr.setCell ⟨w.heap.size + 1 + 1, 0, none⟩ (.slice al L.length cl)) := (hkW.trans' hk).new (by simp; omega) _
        have hof : FlO (wr.setCell ⟨w.heap.size + 1 + 1, 0, none⟩ (.slice al L.length cl)) w.heap.size 90 6 encS (.slice al L.length cl) L := by
          refine World.ownsRow.base_le (FlO.same ho fun g hg => Below.heap_setCell _ _ _ _ fun e => ?_) hkW.size
          have h1 := (World.ownsRow.lt ho g hg).1
          have h2 := b3.lt
          have e2 : g = w.heap.size + 1 + 1 := e
          omega
        subst hL2
        clear hR
        go_wp2_with fail
        refine ret_blk rfl rfl hBs Tryz.underlying52 rfl (by kernel_rfl) rfl ?_
        exact ⟨_, rfl, hof, hkf⟩
      | false =>
        have hL2 : L ++ [p] = R := by simpa [withP] using hL
        subst hL2
        clear hR
        go_wp2_with (at_builtin; refine wl_append rfl _ _ _ _ rfl _ _ rfl rfl ?_)
        refine rg_pushD (w := wr) 0 _ 64 (cs := #[.int .u64 (p.addr : Int), .int .i64 (p.prot : Int), .bool p.dirty, .string ⟨p.file.toArray⟩, .int .u64 (p.off : Int), .string ⟨p.b.toArray⟩]) Tryz.underlying50 rvP_info rfl (by decide) (enc := encS) (x := p) rfl rfl (encS_one _) (by exact ho) (by omega) (by decide) (by exact hk.size) ?_
        intro lv2 w2 ho2 hk2
        have hkn : Keep No W3 w2 := hk.own ho hk2
        obtain ⟨al2, cl2, rfl, _, _⟩ := ho2.fl.shape
        have qr2 : w2.cell? ⟨w.heap.size + 1 + 1, 0, none⟩ = some (.slice none 0 0) := (hkn.cell (p := ⟨w.heap.size + 1 + 1, 0, none⟩) b3.lt fun h => h).trans (b3.cell 0)
        have hB := (b3.keep hkn fun h => h)
        have hfz := hB.frozen 0
        have hBs := hB.set (i := 0) (.slice al2 (L ++ [p]).length cl2)
        have hkf : Keep No w (w2.setCell ⟨w.heap.size + 1 + 1, 0, none⟩ (.slice al2 (L ++ [p]).length cl2)) := (hkW.trans' hkn).new (by simp; omega) _
        have hof : FlO (w2.setCell ⟨w.heap.size + 1 + 1, 0, none⟩ (.slice al2 (L ++ [p]).length cl2)) w.heap.size 90 6 encS (.slice al2 (L ++ [p]).length cl2) (L ++ [p]) := by
          refine World.ownsRow.base_le (FlO.same ho2 fun g hg => Below.heap_setCell _ _ _ _ fun e => ?_) hkW.size
          have h1 := (World.ownsRow.lt ho2 g hg).1
          have h2 := b3.lt
          have e2 : g = w.heap.size + 1 + 1 := e
          omega
        generalize (L ++ [p]).length = nl at *
        clear q0 q1 q2 q3 q4 q5 q6 qr
        go_wp2_with fail
        refine ret_blk rfl rfl hBs Tryz.underlying52 rfl (by kernel_rfl) rfl ?_
        exact ⟨_, rfl, hof, hkf⟩
end
end Go.Proofs.YtaoillfofiehpaaGreatDoor
namespace Go.Proofs.YtaoillfofiehpaaGreatDoor
open Go.RowKit Go.Dm Go.Dm.Vm Go.Maps Go.Dm.Oc

theorem under_u8 : Tryz.prog.underlying 5 = some (.int .u8) := Tryz.underlying5
/-- string(b) -/
theorem conv_str {A : Nat → Prop} {w : World} {v : Value} {l : List UInt8} (h : Bts A w v l) : (convert 24 9 v).run Tryz.prog w = .ok (.string ⟨l.toArray⟩) w := by
  obtain ⟨_, a, cap, rfl, hn, _, h0, hr⟩ := h
  cases a with
  | none =>
    obtain rfl := h0 rfl
    obtain rfl : l = [] := List.eq_nil_of_length_eq_zero (by omega)
    exact run_convert_bytes_nil (P := Tryz.prog) (w := w) 24 5 Tryz.underlying24 under_u8 0 0 9 Tryz.underlying9
  | some a =>
    refine run_convert_bytes_back (P := Tryz.prog) w 24 9 5 a cap l Tryz.underlying24 under_u8 Tryz.underlying9 fun j hj => ?_
    obtain ⟨g, off, e2, _, _, hc⟩ := hr (by omega)
    cases e2
    rw [Addr.add_lit]
    exact hc j (bv l[j]) (by simp [hj])
section
variable {A : Nat → Prop} {w : World} {m : V} {v : Value}
set_option maxRecDepth 100000 in
set_option maxHeartbeats 2000000 in
theorem rvthere_any (addr size : Nat) (ha : addr < 18446744073709551616) (hs : size < 18446744073709551616) (hs0 : 0 < size) (hs1 : size ≤ 131328) (h : Fl A w 6 encS v m) (hl : m.length ≤ 1099511627776) (hpa : ∀ p ∈ m, p.addr < 18446744073709551616) :
    Calls Tryz.prog 68 #[.agg #[v], .int .u64 (addr : Int), .int .u64 (size : Int)] w fun e w' => e = .returned (.bool (decide (Vm.heldE m addr size = 0))) ∧ Keep No w w' := by
  obtain ⟨av, cv, rfl, _, _⟩ := h.shape
  have hq : (addr : Int).tdiv 256 = ((addr / 256 : Nat) : Int) := by rw [Int.tdiv_eq_ediv_of_nonneg (by omega)]; omega
  have hpo : ((addr / 256 : Nat) : Int) * 256 = ((pageOf addr : Nat) : Int) := by unfold pageOf; omega
  have hpb : ((pageOf addr : Nat) : Int) < 18446744073709551616 := by have := pageOf_le addr; omega
  have hth := there_take m addr size
  have hE : Vm.heldE m addr size = if addr > top ∨ size > top - addr ∨ size > 131328 then 40 else if there m addr size then 0 else 40 := rfl
  have ht : top = 4294967296 := rfl
  generalize Vm.heldE m addr size = er at *
  by_cases hout : addr > top ∨ size > top - addr ∨ size > 131328
  · rw [if_pos hout] at hE
    subst hE
    rw [ht] at hout
    have h3 : (addr : Int) > 4294967296 ∨ ((addr : Int) ≤ 4294967296 ∧ (size : Int) > 4294967296 - (addr : Int)) := by omega
    clear hout hth hq hpo hpb ht hpa hl hs1
    go_enter Tryz.func68, Tryz.ntmps68
    rcases h3 with h3 | ⟨h3, h4⟩
    all_goals
      go_wp2_with fail
      go_ret
      exact ⟨rfl, (Keep.refl _ _).alloc _⟩
  · rw [if_neg hout] at hE
    rw [ht] at hout
    have o1 : (addr : Int) ≤ 4294967296 := by omega
    have o3 : (size : Int) ≤ 4294967296 - (addr : Int) := by omega
    have o4 : (size : Int) ≤ 262144 := by omega
    have HT := Lib.hid hth
    have HE := Lib.hid hE
    clear hth hE hout
    have hps := pages_step addr size
    have hb : pageOf addr + 256 * pagesN addr size ≤ 4294967296 := by unfold pageOf pagesN; omega
    clear ht
    have HPS := Lib.hid hps
    have HB := Lib.hid hb
    clear hps hb
    generalize addr / 256 = q at *
    generalize hpg : pageOf addr = pa at *
    generalize hpn : pagesN addr size = pn at *
    have HS0 := Lib.hid hs0
    have HPG := Lib.hid hpg
    have hpc : pa < 18446744073709551616 := by omega
    clear hs1 hs0 hpg hpn hpb
    go_enter Tryz.func68, Tryz.ntmps68
    go_wp2_with fail
    have hkW : Keep No w (w.alloc (.cells #[.slice av m.length cv] 52)) := (Keep.refl _ _).alloc _
    have hBW : Blk (w.alloc (.cells #[.slice av m.length cv] 52)) w.heap.size #[.slice av m.length cv] 52 := Blk.new _ _ _
    have hzW : (w.alloc (.cells #[.slice av m.length cv] 52)).heap.size = w.heap.size + 1 := World.size_alloc _ _
    generalize w.alloc (.cells #[.slice av m.length cv] 52) = W at *
    have q0 : W.cell? ⟨w.heap.size, 0, none⟩ = some (.slice av m.length cv) := hBW.cell 0
    go_wp2_with fail
    go_loopw [7] (fun iv wr => ∃ k : Nat, iv = .int .u64 ((pa + 256 * k : Nat) : Int) ∧ k ≤ pn ∧ (∀ j, j < k → (pageAt m (pa + 256 * j)).isSome = true) ∧ Keep No W wr) (fun iv _ => pa + 256 * pn - (intOf iv).toNat)
    case atStart => exact ⟨0, by simp, Nat.zero_le _, fun j hj => absurd hj (Nat.not_lt_zero _), Keep.refl _ _⟩
    case round =>
      obtain ⟨k, rfl, hk, hall, hkk⟩ := hrel
      have hiff := HPS.out k HS0.out
      have hb := HB.out
      have p0 : wr.cell? ⟨w.heap.size, 0, none⟩ = some (.slice av m.length cv) := (hkk.cell (p := ⟨w.heap.size, 0, none⟩) hBW.lt fun h => h).trans q0
      have hbox : Blk wr w.heap.size #[.slice av m.length cv] 52 := hBW.keep hkk fun h => h
      rcases Nat.lt_or_ge k (pn) with hkl | hkl
      · have hlt := hiff.2 hkl
        have hpp := pageOf_pageOf addr k
        rw [HPG.out] at hpp
        have hle1 : pa + 256 * k + 256 ≤ 4294967296 := Nat.le_trans (by have := Nat.mul_le_mul_left 256 (Nat.succ_le_of_lt hkl); omega) hb
        have hltz : ((pa + 256 * k : Nat) : Int) < (addr : Int) + (size : Int) := by omega
        have hstp : pa + 256 * k + 256 = pa + 256 * (k + 1) := by omega
        have H1 := Lib.hid hstp
        have HA := Lib.hid hall
        have hfnd := rvfind_any (w := wr) (pa + 256 * k) (by omega) (h.no (hkW.trans' hkk)) hl hpa
        rw [hpp] at hfnd
        have hnx : (pageAt m (pa + 256 * k)).isSome = true → ∀ j, j < k + 1 → (pageAt m (pa + 256 * j)).isSome = true := fun h j hj => by
          rcases Nat.lt_or_ge j k with h2 | h2
          · exact hall j h2
          · obtain rfl : j = k := by omega
            exact h
        have hno : (pageAt m (pa + 256 * k)).isSome = false → there m addr size = false := fun h => by
          cases ht : there m addr size with
          | false => rfl
          | true => have := HT.out.1 ht k hkl; rw [h] at this; cases this
        have HN := Lib.hid hnx
        have HO := Lib.hid hno
        clear hall hiff hpp hstp hnx hno
        have hsm : (pageAt m (pa + 256 * k)).isSome = (pageAt m (pa + 256 * k)).isSome := rfl
        generalize hat : (pageAt m (pa + 256 * k)).isSome = at0 at *
        have hiff2 : at0 = true ↔ ∃ p ∈ m, p.addr = pa + 256 * k := by
          rw [← hat]; unfold pageAt; rw [List.find?_isSome]; simp
        clear hat hsm
        generalize pa + 256 * k = at_ at *
        go_wp2_with fail
        refine hfnd.mono ?_
        rintro e w2 ⟨r, rfl, hr, hk2⟩
        rcases hr with ⟨rfl, hnone⟩ | ⟨i, hi, rfl, hadr⟩
        · have e0 : at0 = false := by
            cases at0 with
            | false => rfl
            | true => obtain ⟨p, hp, e⟩ := hiff2.1 rfl; exact absurd e (hnone p hp)
          have e1 := HO.out e0
          go_wp2_with fail
          go_ret
          rw [HE.out, e1]
          exact ⟨rfl, (hkW.trans' hkk).trans' hk2⟩
        · have e0 : at0 = true := hiff2.2 ⟨_, List.getElem_mem hi, hadr⟩
          have hi0 : decide ((i : Int) < 0) = false := by simp
          go_wp2_with fail
          go_roundw
          case rel => exact ⟨k + 1, by rw [← H1.out]; go_num, hkl, HN.out e0, hkk.trans' hk2⟩
          case measure => have := H1.out; simp [intOf]; omega
      · obtain rfl : k = pn := Nat.le_antisymm hk hkl
        have hnlt : ¬ pa + 256 * k < addr + size := fun h => absurd (hiff.1 h) (Nat.lt_irrefl _)
        have e1 : there m addr size = true := HT.out.2 hall
        have hltz : ¬ ((pa + 256 * k : Nat) : Int) < (addr : Int) + (size : Int) := by omega
        clear hiff hall
        generalize pa + 256 * k = at_ at *
        go_wp2_with fail
        go_ret
        rw [HE.out, e1]
        exact ⟨rfl, hkW.trans' hkk⟩
end
end Go.Proofs.YtaoillfofiehpaaGreatDoor
namespace Go.Proofs.YtaoillfofiehpaaGreatDoor
open Go.RowKit Go.Dm Go.Dm.Vm Go.Maps Go.Dm.Oc

end Go.Proofs.YtaoillfofiehpaaGreatDoor
namespace Go.Dm.Vm
open Go Go.Proofs.YtaoillfofiehpaaGreatDoor Go.Dm.Oc

def putD (d : Bool) (m : V) (a : Nat) (c : UInt8) : V := upd m (pageOf a) (fun p => { p with b := p.b.set (a % 256) c, dirty := p.dirty || d })
def writeD (d : Bool) : V → Nat → List UInt8 → V
  | m, _, [] => m
  | m, a, c :: r => writeD d (putD d m a c) (a + 1) r
theorem upd_congr {m : V} {a : Nat} {f g : Pg → Pg} (h : ∀ p ∈ m, p.addr = a → f p = g p) : upd m a f = upd m a g := by
  unfold upd
  apply List.map_congr_left
  intro p hp
  by_cases e : p.addr = a
  · rw [if_pos e, if_pos e]; exact h p hp e
  · rw [if_neg e, if_neg e]
theorem putD_false (m : V) (a : Nat) (c : UInt8) : putD false m a c = setB m a c := by
  rw [setB_upd]
  exact upd_congr fun p _ _ => by simp
theorem writeD_false (m : V) (a : Nat) (c : List UInt8) : writeD false m a c = writeB m a c := by
  induction c generalizing m a with
  | nil => rfl
  | cons x r ih =>
    show writeD false (putD false m a x) (a + 1) r = writeB (setB m a x) (a + 1) r
    rw [putD_false, ih]
theorem writeD_append (d : Bool) (m : V) (a : Nat) (b c : List UInt8) : writeD d m a (b ++ c) = writeD d (writeD d m a b) (a + b.length) c := by
  induction b generalizing m a with
  | nil => rfl
  | cons x r ih =>
    show writeD d (putD d m a x) (a + 1) (r ++ c) = writeD d (writeD d (putD d m a x) (a + 1) r) (a + (r.length + 1)) c
    rw [ih, show a + 1 + r.length = a + (r.length + 1) by omega]
theorem writeD_page (d : Bool) (m : V) (a : Nat) (c : List UInt8) (h : a % 256 + c.length ≤ 256) (hc : c ≠ []) : writeD d m a c = upd m (pageOf a) (fun p => { p with b := setR p.b (a % 256) c, dirty := p.dirty || d }) := by
  induction c generalizing m a with
  | nil => exact absurd rfl hc
  | cons x r ih =>
    rw [List.length_cons] at h
    unfold writeD
    cases r with
    | nil => rfl
    | cons y t =>
      rw [List.length_cons] at h
      have e1 : pageOf (a + 1) = pageOf a := by unfold pageOf; omega
      have e2 : (a + 1) % 256 = a % 256 + 1 := by omega
      rw [ih _ (a + 1) (by rw [e2, List.length_cons]; omega) (by simp), e1, e2]
      unfold putD
      rw [upd_upd]
      · exact upd_congr fun p _ _ => by simp [setR]
      · intro p; rfl
theorem putD_addr (d : Bool) (m : V) (a : Nat) (c : UInt8) : (putD d m a c).map (·.addr) = m.map (·.addr) := by
  unfold putD upd
  rw [List.map_map]
  apply List.map_congr_left
  intro p _
  simp only [Function.comp]
  split <;> rfl
theorem writeD_addr (d : Bool) (m : V) (a : Nat) (c : List UInt8) : (writeD d m a c).map (·.addr) = m.map (·.addr) := by
  induction c generalizing m a with
  | nil => rfl
  | cons x r ih => unfold writeD; rw [ih, putD_addr]
theorem writeD_len (d : Bool) (m : V) (a : Nat) (c : List UInt8) : (writeD d m a c).length = m.length := by
  have := congrArg List.length (writeD_addr d m a c)
  simpa using this
theorem writeD_ok (d : Bool) {m : V} (h : Ok m) (a : Nat) (c : List UInt8) : Ok (writeD d m a c) := by
  induction c generalizing m a with
  | nil => exact h
  | cons x r ih =>
    unfold writeD
    refine ih ?_ _
    unfold putD
    refine upd_ok (g := fun p => { p with b := p.b.set (a % 256) x, dirty := p.dirty || d }) h (fun _ => rfl) (fun p hp => ⟨hp.al, hp.lt, hp.pr, ?_, hp.ol, hp.fl⟩) _
    show (p.b.set _ _).length = 256
    rw [List.length_set]; exact hp.bl
theorem pageAt_addr {m k : V} (h : k.map (·.addr) = m.map (·.addr)) (a : Nat) : (pageAt k a).isSome = (pageAt m a).isSome := by
  unfold pageAt
  rw [Bool.eq_iff_iff, List.find?_isSome, List.find?_isSome]
  have : (∃ x ∈ k, (x.addr == a) = true) ↔ ∃ y ∈ k.map (·.addr), (y == a) = true := by simp
  rw [this, h]
  simp
theorem idx_unique {m : V} (hs : m.Pairwise (fun p q => p.addr < q.addr)) {i j : Nat} (hi : i < m.length) (hj : j < m.length) (h : m[i].addr = m[j].addr) : i = j := by
  rcases Nat.lt_trichotomy i j with hl | e | hl
  · have := List.pairwise_iff_getElem.1 hs i j hi hj hl; omega
  · exact e
  · have := List.pairwise_iff_getElem.1 hs j i hj hi hl; omega
/-- one page's part of the bytes from a place on, as the document's Poke puts it -/
theorem withP_chunk (d : Bool) {m k : V} (h : Ok m) (addr at_ n : Nat) (b : List UInt8) (hk : k = writeD d m addr (b.take at_)) {p : Pg} (hp : p ∈ k) (ha : p.addr = pageOf (addr + at_)) (hn : 0 < n) (hb : at_ + n ≤ b.length) (h2 : (addr + at_) % 256 + n ≤ 256) :
    withP { p with b := setR p.b ((addr + at_) % 256) ((b.drop at_).take n), dirty := p.dirty || d } k false = writeD d m addr (b.take (at_ + n)) := by
  have hok : Ok k := by rw [hk]; exact writeD_ok d h addr (b.take at_)
  have e1 : b.take (at_ + n) = b.take at_ ++ (b.drop at_).take n := by rw [List.take_add]
  have e2 : ((b.drop at_).take n).length = n := by rw [List.length_take, List.length_drop]; omega
  have e3 : (b.take at_).length = at_ := by rw [List.length_take]; omega
  rw [e1, writeD_append, e3, writeD_page d _ _ _ (by rw [e2]; exact h2) (fun e => by rw [e] at e2; simp at e2; omega), ← hk, withP_upd (p := { p with b := setR p.b ((addr + at_) % 256) ((b.drop at_).take n), dirty := p.dirty || d }) hok.srt ⟨p, hp, rfl⟩]
  show upd k p.addr _ = _
  rw [ha]
  refine upd_congr fun q hq e => ?_
  have h1 := get_of_mem hok.srt hp
  have h2 := get_of_mem hok.srt hq
  rw [ha] at h1
  rw [e, h1] at h2
  cases h2
  rw [e]
end Go.Dm.Vm
namespace Go.Dm
open Go

/-- st: it yields the same in every world of S; ef: the only one that may come; br: i or j may come -/
inductive Tr where
  | nil
  | st (i : Nat) (r : Tr)
  | ef (i : Nat) (r : Tr)
  | br (i j : Nat) (l r : Tr)
def Tr.len : Tr → Nat
  | .nil => 0 | .st _ r => r.len + 1 | .ef _ r => r.len + 1 | .br _ _ l _ => l.len + 1

section
variable {P : Program} {ops : Array Oper} {Q : Exit → Act → World → Prop} {md : Region.Mode} {S : World → Prop} {kb : Nat → Bool}

def treeB (md : Region.Mode) (ops : Array Oper) (kb : Nat → Bool) : Tr → Array Bool → Bool → Bool
  | .nil, listed, _ => (Region.ready md ops listed).isEmpty
  | .st i r, listed, s => s && (Region.ready md ops listed).contains i && freeK md ops kb listed i && treeB md ops kb r (listed.setIfInBounds i true) s
  | .ef i r, listed, s => (Region.ready md ops listed == [i]) && treeB md ops kb r (listed.setIfInBounds i true) (s && kb i)
  | .br i j l r, listed, s => (Region.ready md ops listed == [i, j]) && (l.len == r.len) && treeB md ops kb l (listed.setIfInBounds i true) (s && kb i) && treeB md ops kb r (listed.setIfInBounds j true) (s && kb j)

def wpTree (P : Program) (ops : Array Oper) (Q : Exit → Act → World → Prop) (S : World → Prop) (kb : Nat → Bool) : Tr → Act → World → Prop
  | .nil, a, w => Q .normal a w
  | .st i r, a, w => ∃ o v, ops[i]? = some o ∧ YieldsIf P ops S o v a ∧ wpTree P ops Q S kb r (a.put o.dst v) w
  | .ef i r, a, w => wpOp P ops Q i (fun a' w' => (kb i = true → S w') ∧ wpTree P ops Q S kb r a' w') a w
  | .br i j l r, a, w => wpOp P ops Q i (fun a' w' => (kb i = true → S w') ∧ wpTree P ops Q S kb l a' w') a w ∧ wpOp P ops Q j (fun a' w' => (kb j = true → S w') ∧ wpTree P ops Q S kb r a' w') a w

theorem wpTree_sound (hs : Region.noSelect ops = true) (hQ : ∀ c a d v w, Q (.panic c) (a.put d v) w → Q (.panic c) a w) :
    ∀ (l : Tr) (listed : Array Bool) (s : Bool) (a : Act) (w : World), treeB md ops kb l listed s = true → Closed md ops listed → (s = true → S w) → wpTree P ops Q S kb l a w → wpAnyK P md ops Q S kb l.len listed a w
  | .nil, listed, s, a, w, h, _, _, hq => by
    have : Region.ready md ops listed = [] := by simpa [treeB] using h
    exact ⟨this, hq⟩
  | .st i r, listed, s, a, w, h, hcl, hS, ⟨o, v, ho, hy, hq⟩ => by
    simp only [treeB, Bool.and_eq_true] at h
    obtain ⟨⟨⟨h1, h2⟩, h3⟩, h4⟩ := h
    exact wpAnyK_first ho (Region.noSelect_spec hs) (fun c a w => hQ c a _ _ w) r.len listed a w (freeK_spec ho h3) hcl (by simpa using h2) hy (hS h1)
      (wpTree_sound hs hQ r _ s _ w h4 (hcl.step (by simpa using h2)) hS hq)
  | .ef i r, listed, s, a, w, h, hcl, hS, hq => by
    simp only [treeB, Bool.and_eq_true, beq_iff_eq] at h
    refine ⟨fun h0 => (by rw [h.1] at h0; cases h0), fun j hj => ?_⟩
    rw [h.1] at hj
    obtain rfl : j = i := by simpa using hj
    exact wpOp_mono (fun a' w' h' => ⟨h'.1, wpTree_sound hs hQ r _ (s && kb j) a' w' h.2 (hcl.step (by rw [h.1]; simp)) (fun hsk => h'.1 (Bool.and_eq_true_iff.1 hsk).2) h'.2⟩) hq
  | .br i j l r, listed, s, a, w, h, hcl, hS, hq => by
    simp only [treeB, Bool.and_eq_true, beq_iff_eq] at h
    obtain ⟨⟨⟨h1, h2⟩, h3⟩, h4⟩ := h
    refine ⟨fun h0 => (by rw [h1] at h0; cases h0), fun k hk => ?_⟩
    have hk0 := hk
    rw [h1] at hk
    rcases (by simpa using hk : k = i ∨ k = j) with rfl | rfl
    · exact wpOp_mono (fun a' w' h' => ⟨h'.1, wpTree_sound hs hQ l _ (s && kb k) a' w' h3 (hcl.step hk0) (fun hsk => h'.1 (Bool.and_eq_true_iff.1 hsk).2) h'.2⟩) hq.1
    · show wpOp P ops Q k (fun a' w' => (kb k = true → S w') ∧ wpAnyK P md ops Q S kb l.len _ a' w') a w
      rw [h2]
      exact wpOp_mono (fun a' w' h' => ⟨h'.1, wpTree_sound hs hQ r _ (s && kb k) a' w' h4 (hcl.step hk0) (fun hsk => h'.1 (Bool.and_eq_true_iff.1 hsk).2) h'.2⟩) hq.2

theorem wp_region_tree {id : Nat} {a : Act} {w : World} (S : World → Prop) (kb : Nat → Bool) (l : Tr) {o : List Oper} (hm : P.follows .mixedOrders = true)
    (hB : (Region.noSelect o.toArray && treeB .any o.toArray kb l (Array.replicate o.toArray.size false) true && (l.len == o.toArray.size)) = true)
    (hQ : ∀ c a d v w, Q (.panic c) (a.put d v) w → Q (.panic c) a w) (hS : S w.drew)
    (h : wpTree P o.toArray Q S kb l a w.drew) : (Code.region id o.toArray true).wp P Q a w := by
  simp only [Bool.and_eq_true, beq_iff_eq] at hB
  refine wp_region_any hm (wpAny_of_K (S := S) (kb := kb) _ _ _ _ ?_)
  have h2 := wpTree_sound (md := .any) hB.1.1 hQ l _ true a _ hB.1.2 (fun k ok _ hl => by rw [Array.getD_eq_getD_getElem?, Array.getElem?_replicate] at hl; split at hl <;> cases hl) (fun _ => hS) h
  rw [hB.2] at h2
  exact h2

theorem tr_nil {a : Act} {w : World} (h : Q .normal a w) : wpTree P ops Q S kb .nil a w := h
theorem tr_still {i : Nat} {r : Tr} {a : Act} {w : World} {o : Oper} {v : Value} (ho : ops[i]? = some o) (hg : o.guard = none)
    (hy : ∀ w', S w' → (execOp a.eval o).run P w' = .ok (.value v) w') (h : wpTree P ops Q S kb r (a.put o.dst v) w) : wpTree P ops Q S kb (.st i r) a w :=
  ⟨o, v, ho, .inl ⟨by simp [Region.wanted, hg], hy⟩, h⟩
theorem tr_guard {i : Nat} {r : Tr} {a : Act} {w : World} {o : Oper} {v : Value} (ho : ops[i]? = some o) (hg : Region.wanted o (yielded ops a.tmps) = true)
    (hy : ∀ w', S w' → (execOp a.eval o).run P w' = .ok (.value v) w') (h : wpTree P ops Q S kb r (a.put o.dst v) w) : wpTree P ops Q S kb (.st i r) a w :=
  ⟨o, v, ho, .inl ⟨hg, hy⟩, h⟩
theorem tr_skip {i : Nat} {r : Tr} {a : Act} {w : World} {o : Oper} (ho : ops[i]? = some o) (hg : Region.wanted o (yielded ops a.tmps) = false)
    (h : wpTree P ops Q S kb r (a.put o.dst undef) w) : wpTree P ops Q S kb (.st i r) a w :=
  ⟨o, undef, ho, .inr ⟨hg, rfl⟩, h⟩
theorem wo_eff {i : Nat} {a : Act} {w : World} {o : Oper} {R : Act → World → Prop} (ho : ops[i]? = some o) (hg : o.guard = none)
    (h : ∀ K : Act → World → Prop, (∀ a' w', R a' w' → K a' w') → o.wp P a w K Q) : wpOp P ops Q i R a w := by
  unfold wpOp
  simp only [ho, Region.wanted, hg, if_true]
  exact .inl (h _ fun _ _ h => h)
theorem tr_eff {i : Nat} {r : Tr} {a : Act} {w : World} {o : Oper} (ho : ops[i]? = some o) (hg : o.guard = none)
    (h : ∀ K : Act → World → Prop, (∀ a' w', ((kb i = true → S w') ∧ wpTree P ops Q S kb r a' w') → K a' w') → o.wp P a w K Q) : wpTree P ops Q S kb (.ef i r) a w := wo_eff ho hg h
theorem tr_br {i j : Nat} {l r : Tr} {a : Act} {w : World} {o o' : Oper} (ho : ops[i]? = some o) (hg : o.guard = none) (ho' : ops[j]? = some o') (hg' : o'.guard = none)
    (h : ∀ K : Act → World → Prop, (∀ a' w', ((kb i = true → S w') ∧ wpTree P ops Q S kb l a' w') → K a' w') → o.wp P a w K Q)
    (h' : ∀ K : Act → World → Prop, (∀ a' w', ((kb j = true → S w') ∧ wpTree P ops Q S kb r a' w') → K a' w') → o'.wp P a w K Q) : wpTree P ops Q S kb (.br i j l r) a w := ⟨wo_eff ho hg h, wo_eff ho' hg' h'⟩
end
end Go.Dm
