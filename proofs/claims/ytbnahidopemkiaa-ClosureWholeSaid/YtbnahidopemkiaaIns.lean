/- rela: Value, Table, Check. The document's answer: segments, relocations, symbols as bytes. The document's answer: entries and their tags. A map as an association list (MapL), and a range over it (RangeL): lookups, stores, deletes, len, range, said once for all walks of this seat. The walk's stop at an element of a map's literal. No condition. -/
import Derived.Test.YtbnahidopemkiaaSy4
import Derived.Test.YtbnahidopemkiaaApZ
import Derived.Test.YtbnahidopemkiaaRd
set_option linter.unusedVariables false
set_option linter.unusedSimpArgs false
namespace Go.Dm.Ld
open Go Go.Dm.Oc
/-- what a relocation writes -/
def valR (ty base sym : Nat) (add : Int) : Nat × Int :=
  if knownB ty = false then (33, 0) else if ty = 0 then (0, 0) else if ty = 8 then (0, ((base : Int) + add) % 18446744073709551616) else if ty = 6 ∨ ty = 7 ∨ ty = 16 then (0, (sym : Int)) else (0, ((sym : Int) + add) % 18446744073709551616)
theorem rlIn_ok (b : BS) (i : Nat) : RlOk (rlIn b i) := ⟨Go.Proofs.Ytbnahidopemkiaa.getX_lt b i 8, Go.Proofs.Ytbnahidopemkiaa.getX_lt b (i + 8) 4, Go.Proofs.Ytbnahidopemkiaa.getX_lt b (i + 12) 4, Go.Proofs.Ytbnahidopemkiaa.getX_lt b (i + 16) 8⟩
theorem rlTab_ok (b : BS) : ∀ s ∈ (rlTab b).2, RlOk s := by
  unfold rlTab
  split
  · intro s hs
    obtain ⟨i, _, rfl⟩ := List.mem_map.1 hs
    exact rlIn_ok _ _
  · intro s hs; cases hs
end Go.Dm.Ld
namespace Go.Proofs.Ytbnahidopemkiaa
open Go.RowKit Go.Dm Go.Dm.Oc Go.Dm.Ld
def addI (n : Nat) : Int := IntKind.i64.wrap (n : Int)
def encRl (s : Rl) : List Value := [.int .u64 (s.off : Int), .int .u32 (s.ty : Int), .int .u32 (s.sym : Int), .int .i64 (addI s.add)]
theorem encRl_len (s : Rl) : (encRl s).length = 4 := rfl
theorem encRl_one (s : Rl) : ∀ u ∈ encRl s, u.oneCell' = true := by
  intro u hu
  simp only [encRl, List.mem_cons, List.not_mem_nil, or_false] at hu
  rcases hu with rfl | rfl | rfl | rfl <;> rfl
theorem relaT_info : (Try.prog.info? 111).map (fun i => (i.zero, i.size, i.bytes)) = some (some (.agg #[.int .u64 0, .int .u32 0, .int .u32 0, .int .i64 0]), 4, 24) := by kernel_rfl
theorem ret2_ii {k1 k2 : IntKind} {a a' b b' : Int} (h1 : a = a') (h2 : b = b') : Ending.returned (Value.tuple #[.int k1 a, .int k2 b]) = Ending.returned (Value.tuple #[.int k1 a', .int k2 b']) := by rw [h1, h2]
section
variable {A : Nat → Prop} {w : World}
set_option maxRecDepth 100000 in
set_option maxHeartbeats 4000000 in
theorem rlvalue_any (ty base sym : Nat) (add : Int) (h1 : ty < 4294967296) (h2 : base < 18446744073709551616) (h3 : sym < 18446744073709551616) (h4 : -9223372036854775808 ≤ add ∧ add < 9223372036854775808) (w : World) :
    Calls Try.prog 65 #[.int .u32 (ty : Int), .int .u64 (base : Int), .int .u64 (sym : Int), .int .i64 add] w fun e w' => e = .returned (.tuple #[.int .u64 (valR ty base sym add).2, .int .i64 ((valR ty base sym add).1 : Nat)]) ∧ w = w' := by
  have hwb : IntKind.u64.wrap ((base : Int) + IntKind.u64.wrap add) = ((base : Int) + add) % 18446744073709551616 := by
    rw [IntKind.wrap_u64, IntKind.wrap_u64]
    omega
  have hws : IntKind.u64.wrap ((sym : Int) + IntKind.u64.wrap add) = ((sym : Int) + add) % 18446744073709551616 := by
    rw [IntKind.wrap_u64, IntKind.wrap_u64]
    omega
  have HR : Hid (valR ty base sym add = if ¬ (ty = 0 ∨ ty = 1 ∨ ty = 6 ∨ ty = 7 ∨ ty = 8 ∨ ty = 16 ∨ ty = 17 ∨ ty = 18) then (33, 0) else if ty = 0 then (0, 0) else if ty = 8 then (0, ((base : Int) + add) % 18446744073709551616) else if ty = 6 ∨ ty = 7 ∨ ty = 16 then (0, (sym : Int)) else (0, ((sym : Int) + add) % 18446744073709551616)) := Lib.hid (by
    unfold valR knownB
    simp only [decide_eq_false_iff_not])
  go_enter Try.func65, Try.ntmps65
  go_wp2_with fail
  all_goals
    go_ret2
    rw [HR.out]
    refine ⟨ret2_ii ?_ ?_, rfl⟩
    all_goals
      clear HR hwb hws
      simp only [beq_iff_eq, beq_eq_false_iff_ne, ne_eq] at *
      repeat' split
      all_goals first
        | rfl
        | (exfalso; omega)
        | (dsimp only; omega)
end
end Go.Proofs.Ytbnahidopemkiaa
namespace Go.Dm.Ld
open Go Go.Dm.Oc
def segR (s : Sg) : BS := le 4 s.ty ++ le 4 s.fl ++ le 8 s.off ++ le 8 s.va ++ le 8 s.va ++ le 8 s.fi ++ le 8 s.me ++ le 8 s.al
def relR (x : Rl) : BS := le 8 x.off ++ le 8 (x.ty + x.sym * 4294967296) ++ le 8 x.add
def symR (x : Sy) : BS := le 4 x.nm ++ [UInt8.ofNat x.inf, UInt8.ofNat x.oth] ++ le 2 x.sec ++ le 8 x.val ++ le 8 x.sz
end Go.Dm.Ld
namespace Go.Proofs.Ytbnahidopemkiaa
open Go.RowKit Go.Dm Go.Dm.Oc Go.Dm.Ld
section
variable {base : Nat} {w : World} {v : Value}
set_option maxRecDepth 100000 in
set_option maxHeartbeats 4000000 in
theorem r04put_any (s : Sg) (hs : SgOk s) :
    Calls Try.prog 33 #[.agg (encSg s).toArray] w fun e w' => ∃ v', e = .returned v' ∧ FlO w' w.heap.size 5 1 e8 v' (segR s) ∧ Keep No w w' := by
  obtain ⟨h0, h1, h2, h3, h4, h5, h6⟩ := hs
  rw [show (encSg s).toArray = #[.int .u32 (s.ty : Int), .int .u32 (s.fl : Int), .int .u64 (s.off : Int), .int .u64 (s.va : Int), .int .u64 (s.fi : Int), .int .u64 (s.me : Int), .int .u64 (s.al : Int)] from rfl]
  unfold segR
  generalize s.ty = x0 at *
  generalize s.fl = x1 at *
  generalize s.off = x2 at *
  generalize s.va = x3 at *
  generalize s.fi = x4 at *
  generalize s.me = x5 at *
  generalize s.al = x6 at *
  go_enter Try.func33, Try.ntmps33
  go_wp2_with fail
  have hkW : Keep No w (w.alloc (.cells #[.int .u32 (x0 : Int), .int .u32 (x1 : Int), .int .u64 (x2 : Int), .int .u64 (x3 : Int), .int .u64 (x4 : Int), .int .u64 (x5 : Int), .int .u64 (x6 : Int)] 104)) := (Keep.refl _ _).alloc _
  have hBW : Blk (w.alloc (.cells #[.int .u32 (x0 : Int), .int .u32 (x1 : Int), .int .u64 (x2 : Int), .int .u64 (x3 : Int), .int .u64 (x4 : Int), .int .u64 (x5 : Int), .int .u64 (x6 : Int)] 104)) w.heap.size #[.int .u32 (x0 : Int), .int .u32 (x1 : Int), .int .u64 (x2 : Int), .int .u64 (x3 : Int), .int .u64 (x4 : Int), .int .u64 (x5 : Int), .int .u64 (x6 : Int)] 104 := Blk.new _ _ _
  have hzW : (w.alloc (.cells #[.int .u32 (x0 : Int), .int .u32 (x1 : Int), .int .u64 (x2 : Int), .int .u64 (x3 : Int), .int .u64 (x4 : Int), .int .u64 (x5 : Int), .int .u64 (x6 : Int)] 104)).heap.size = w.heap.size + 1 := World.size_alloc _ _
  generalize w.alloc (.cells #[.int .u32 (x0 : Int), .int .u32 (x1 : Int), .int .u64 (x2 : Int), .int .u64 (x3 : Int), .int .u64 (x4 : Int), .int .u64 (x5 : Int), .int .u64 (x6 : Int)] 104) = W at *
  have P0 : Pushed (w.heap.size + 1) W W (.slice none 0 0) (.slice none 0 0) [] := Pushed.refl FlO.nil
  have hc := r04eight_any (w := W) x0 4 (P0).row (by omega) (by have := (P0).kept.size; omega) (by decide) (by simp only [List.length_append, le_len, List.length_nil, List.length_cons]; omega)
  refine hc.mono ?_
  clear hc
  rintro e w1 ⟨vw1, rfl, hp⟩
  have B1 := (hBW).own (P0).row hp.kept (Nat.lt_succ_self _)
  have P1 := (P0).trans hp
  obtain ⟨aw1, nw1, cw1, rfl⟩ : ∃ a n c, vw1 = .slice a n c := by
    obtain ⟨a, c, e, _⟩ := hp.row.fl.shape
    exact ⟨_, _, _, e⟩
  clear hp hBW P0
  have cc := (B1).cell 1
  go_wp2_with fail
  clear cc
  have hc := r04eight_any (w := w1) x1 4 (P1).row (by omega) (by have := (P1).kept.size; omega) (by decide) (by simp only [List.length_append, le_len, List.length_nil, List.length_cons]; omega)
  refine hc.mono ?_
  clear hc
  rintro e w2 ⟨vw2, rfl, hp⟩
  have B2 := (B1).own (P1).row hp.kept (Nat.lt_succ_self _)
  have P2 := (P1).trans hp
  obtain ⟨aw2, nw2, cw2, rfl⟩ : ∃ a n c, vw2 = .slice a n c := by
    obtain ⟨a, c, e, _⟩ := hp.row.fl.shape
    exact ⟨_, _, _, e⟩
  clear hp B1 P1
  have cc := (B2).cell 2
  go_wp2_with fail
  clear cc
  have hc := r04eight_any (w := w2) x2 8 (P2).row h2 (by have := (P2).kept.size; omega) (by decide) (by simp only [List.length_append, le_len, List.length_nil, List.length_cons]; omega)
  refine hc.mono ?_
  clear hc
  rintro e w3 ⟨vw3, rfl, hp⟩
  have B3 := (B2).own (P2).row hp.kept (Nat.lt_succ_self _)
  have P3 := (P2).trans hp
  obtain ⟨aw3, nw3, cw3, rfl⟩ : ∃ a n c, vw3 = .slice a n c := by
    obtain ⟨a, c, e, _⟩ := hp.row.fl.shape
    exact ⟨_, _, _, e⟩
  clear hp B2 P2
  have cc := (B3).cell 3
  go_wp2_with fail
  clear cc
  have hc := r04eight_any (w := w3) x3 8 (P3).row h3 (by have := (P3).kept.size; omega) (by decide) (by simp only [List.length_append, le_len, List.length_nil, List.length_cons]; omega)
  refine hc.mono ?_
  clear hc
  rintro e w4 ⟨vw4, rfl, hp⟩
  have B4 := (B3).own (P3).row hp.kept (Nat.lt_succ_self _)
  have P4 := (P3).trans hp
  obtain ⟨aw4, nw4, cw4, rfl⟩ : ∃ a n c, vw4 = .slice a n c := by
    obtain ⟨a, c, e, _⟩ := hp.row.fl.shape
    exact ⟨_, _, _, e⟩
  clear hp B3 P3
  have cc := (B4).cell 3
  go_wp2_with fail
  clear cc
  have hc := r04eight_any (w := w4) x3 8 (P4).row h3 (by have := (P4).kept.size; omega) (by decide) (by simp only [List.length_append, le_len, List.length_nil, List.length_cons]; omega)
  refine hc.mono ?_
  clear hc
  rintro e w5 ⟨vw5, rfl, hp⟩
  have B5 := (B4).own (P4).row hp.kept (Nat.lt_succ_self _)
  have P5 := (P4).trans hp
  obtain ⟨aw5, nw5, cw5, rfl⟩ : ∃ a n c, vw5 = .slice a n c := by
    obtain ⟨a, c, e, _⟩ := hp.row.fl.shape
    exact ⟨_, _, _, e⟩
  clear hp B4 P4
  have cc := (B5).cell 4
  go_wp2_with fail
  clear cc
  have hc := r04eight_any (w := w5) x4 8 (P5).row h4 (by have := (P5).kept.size; omega) (by decide) (by simp only [List.length_append, le_len, List.length_nil, List.length_cons]; omega)
  refine hc.mono ?_
  clear hc
  rintro e w6 ⟨vw6, rfl, hp⟩
  have B6 := (B5).own (P5).row hp.kept (Nat.lt_succ_self _)
  have P6 := (P5).trans hp
  obtain ⟨aw6, nw6, cw6, rfl⟩ : ∃ a n c, vw6 = .slice a n c := by
    obtain ⟨a, c, e, _⟩ := hp.row.fl.shape
    exact ⟨_, _, _, e⟩
  clear hp B5 P5
  have cc := (B6).cell 5
  go_wp2_with fail
  clear cc
  have hc := r04eight_any (w := w6) x5 8 (P6).row h5 (by have := (P6).kept.size; omega) (by decide) (by simp only [List.length_append, le_len, List.length_nil, List.length_cons]; omega)
  refine hc.mono ?_
  clear hc
  rintro e w7 ⟨vw7, rfl, hp⟩
  have B7 := (B6).own (P6).row hp.kept (Nat.lt_succ_self _)
  have P7 := (P6).trans hp
  obtain ⟨aw7, nw7, cw7, rfl⟩ : ∃ a n c, vw7 = .slice a n c := by
    obtain ⟨a, c, e, _⟩ := hp.row.fl.shape
    exact ⟨_, _, _, e⟩
  clear hp B6 P6
  have cc := (B7).cell 6
  go_wp2_with fail
  clear cc
  have hc := r04eight_any (w := w7) x6 8 (P7).row h6 (by have := (P7).kept.size; omega) (by decide) (by simp only [List.length_append, le_len, List.length_nil, List.length_cons]; omega)
  refine hc.mono ?_
  clear hc
  rintro e w8 ⟨vw8, rfl, hp⟩
  have B8 := (B7).own (P7).row hp.kept (Nat.lt_succ_self _)
  have P8 := (P7).trans hp
  obtain ⟨aw8, nw8, cw8, rfl⟩ : ∃ a n c, vw8 = .slice a n c := by
    obtain ⟨a, c, e, _⟩ := hp.row.fl.shape
    exact ⟨_, _, _, e⟩
  clear hp B7 P7
  go_wp2_with fail
  go_ret
  have hnW := hkW
  exact ⟨_, rfl, own_base (P8).row (Nat.le_succ _), (P8).no (Nat.le_succ _) FlO.nil hkW⟩
set_option maxRecDepth 100000 in
set_option maxHeartbeats 4000000 in
theorem r07put_any (s : Rl) (hs : RlOk s) :
    Calls Try.prog 36 #[.agg (encRl s).toArray] w fun e w' => ∃ v', e = .returned v' ∧ FlO w' w.heap.size 5 1 e8 v' (relR s) ∧ Keep No w w' := by
  obtain ⟨h0, h1, h2, h3⟩ := hs
  rw [show (encRl s).toArray = #[.int .u64 (s.off : Int), .int .u32 (s.ty : Int), .int .u32 (s.sym : Int), .int .i64 (addI s.add)] from rfl]
  unfold relR
  have ha : IntKind.u64.wrap (addI s.add) = (s.add : Int) := by
    unfold addI
    simp only [IntKind.wrap, IntKind.bits, IntKind.signed]
    simp
    split <;> omega
  generalize addI s.add = ad at *
  generalize s.off = x0 at *
  generalize s.ty = x1 at *
  generalize s.sym = x2 at *
  generalize s.add = x3 at *
  have hm1 : IntKind.u64.wrap ((x2 : Int) * 4294967296) = ((x2 * 4294967296 : Nat) : Int) := by rw [wrapU64]; omega
  have hm2 : IntKind.u64.wrap ((x1 : Int) + ((x2 * 4294967296 : Nat) : Int)) = ((x1 + x2 * 4294967296 : Nat) : Int) := by rw [wrapU64]; omega
  go_enter Try.func36, Try.ntmps36
  go_wp2_with fail
  have hkW : Keep No w (w.alloc (.cells #[.int .u64 (x0 : Int), .int .u32 (x1 : Int), .int .u32 (x2 : Int), .int .i64 ad] 111)) := (Keep.refl _ _).alloc _
  have hBW : Blk (w.alloc (.cells #[.int .u64 (x0 : Int), .int .u32 (x1 : Int), .int .u32 (x2 : Int), .int .i64 ad] 111)) w.heap.size #[.int .u64 (x0 : Int), .int .u32 (x1 : Int), .int .u32 (x2 : Int), .int .i64 ad] 111 := Blk.new _ _ _
  have hzW : (w.alloc (.cells #[.int .u64 (x0 : Int), .int .u32 (x1 : Int), .int .u32 (x2 : Int), .int .i64 ad] 111)).heap.size = w.heap.size + 1 := World.size_alloc _ _
  generalize w.alloc (.cells #[.int .u64 (x0 : Int), .int .u32 (x1 : Int), .int .u32 (x2 : Int), .int .i64 ad] 111) = W at *
  have P0 : Pushed (w.heap.size + 1) W W (.slice none 0 0) (.slice none 0 0) [] := Pushed.refl FlO.nil
  have hc := r07eight_any (w := W) x0  (P0).row h0 (by have := (P0).kept.size; omega)  (by simp only [List.length_append, le_len, List.length_nil, List.length_cons]; omega)
  refine hc.mono ?_
  clear hc
  rintro e w1 ⟨vw1, rfl, hp⟩
  have B1 := (hBW).own (P0).row hp.kept (Nat.lt_succ_self _)
  have P1 := (P0).trans hp
  obtain ⟨aw1, nw1, cw1, rfl⟩ : ∃ a n c, vw1 = .slice a n c := by
    obtain ⟨a, c, e, _⟩ := hp.row.fl.shape
    exact ⟨_, _, _, e⟩
  clear hp hBW P0
  have cc1 := (B1).cell 1
  have cc2 := (B1).cell 2
  go_wp2_with fail
  clear cc1
  clear cc2
  have hc := r07eight_any (w := w1) (x1 + x2 * 4294967296)  (P1).row (by omega) (by have := (P1).kept.size; omega)  (by simp only [List.length_append, le_len, List.length_nil, List.length_cons]; omega)
  refine hc.mono ?_
  clear hc
  rintro e w2 ⟨vw2, rfl, hp⟩
  have B2 := (B1).own (P1).row hp.kept (Nat.lt_succ_self _)
  have P2 := (P1).trans hp
  obtain ⟨aw2, nw2, cw2, rfl⟩ : ∃ a n c, vw2 = .slice a n c := by
    obtain ⟨a, c, e, _⟩ := hp.row.fl.shape
    exact ⟨_, _, _, e⟩
  clear hp B1 P1
  have cc3 := (B2).cell 3
  go_wp2_with fail
  clear cc3
  have hc := r07eight_any (w := w2) x3  (P2).row h3 (by have := (P2).kept.size; omega)  (by simp only [List.length_append, le_len, List.length_nil, List.length_cons]; omega)
  refine hc.mono ?_
  clear hc
  rintro e w3 ⟨vw3, rfl, hp⟩
  have B3 := (B2).own (P2).row hp.kept (Nat.lt_succ_self _)
  have P3 := (P2).trans hp
  obtain ⟨aw3, nw3, cw3, rfl⟩ : ∃ a n c, vw3 = .slice a n c := by
    obtain ⟨a, c, e, _⟩ := hp.row.fl.shape
    exact ⟨_, _, _, e⟩
  clear hp B2 P2
  go_wp2_with fail
  go_ret
  exact ⟨_, rfl, own_base (P3).row (Nat.le_succ _), (P3).no (Nat.le_succ _) FlO.nil hkW⟩
set_option maxRecDepth 100000 in
set_option maxHeartbeats 4000000 in
theorem r06put_any (s : Sy) (hs : SyOk s) :
    Calls Try.prog 35 #[.agg (encSy s).toArray] w fun e w' => ∃ v', e = .returned v' ∧ FlO w' w.heap.size 5 1 e8 v' (symR s) ∧ Keep No w w' := by
  obtain ⟨h0, h1, h2, h3, h4, h5⟩ := hs
  rw [show (encSy s).toArray = #[.int .u32 (s.nm : Int), .int .u8 (s.inf : Int), .int .u8 (s.oth : Int), .int .u16 (s.sec : Int), .int .u64 (s.val : Int), .int .u64 (s.sz : Int)] from rfl]
  unfold symR
  generalize s.nm = x0 at *
  generalize s.inf = x1 at *
  generalize s.oth = x2 at *
  generalize s.sec = x3 at *
  generalize s.val = x4 at *
  generalize s.sz = x5 at *
  have hb1 : Value.int .u8 (x1 : Int) = bv (UInt8.ofNat x1) := by unfold bv; rw [UInt8.toNat_ofNat']; rw [Nat.mod_eq_of_lt h1]
  have hb2 : Value.int .u8 (x2 : Int) = bv (UInt8.ofNat x2) := by unfold bv; rw [UInt8.toNat_ofNat']; rw [Nat.mod_eq_of_lt h2]
  have HB1 := Lib.hid hb1
  have HB2 := Lib.hid hb2
  clear hb1 hb2
  go_enter Try.func35, Try.ntmps35
  go_wp2_with fail
  have hkW : Keep No w (w.alloc (.cells #[.int .u32 (x0 : Int), .int .u8 (x1 : Int), .int .u8 (x2 : Int), .int .u16 (x3 : Int), .int .u64 (x4 : Int), .int .u64 (x5 : Int)] 108)) := (Keep.refl _ _).alloc _
  have hBW : Blk (w.alloc (.cells #[.int .u32 (x0 : Int), .int .u8 (x1 : Int), .int .u8 (x2 : Int), .int .u16 (x3 : Int), .int .u64 (x4 : Int), .int .u64 (x5 : Int)] 108)) w.heap.size #[.int .u32 (x0 : Int), .int .u8 (x1 : Int), .int .u8 (x2 : Int), .int .u16 (x3 : Int), .int .u64 (x4 : Int), .int .u64 (x5 : Int)] 108 := Blk.new _ _ _
  have hzW : (w.alloc (.cells #[.int .u32 (x0 : Int), .int .u8 (x1 : Int), .int .u8 (x2 : Int), .int .u16 (x3 : Int), .int .u64 (x4 : Int), .int .u64 (x5 : Int)] 108)).heap.size = w.heap.size + 1 := World.size_alloc _ _
  generalize w.alloc (.cells #[.int .u32 (x0 : Int), .int .u8 (x1 : Int), .int .u8 (x2 : Int), .int .u16 (x3 : Int), .int .u64 (x4 : Int), .int .u64 (x5 : Int)] 108) = W at *
  have P0 : Pushed (w.heap.size + 1) W W (.slice none 0 0) (.slice none 0 0) [] := Pushed.refl FlO.nil
  have hc := r06num_any (w := W) x0 4 (P0).row (by omega) (by have := (P0).kept.size; omega) (by decide) (by simp only [List.length_append, le_len, List.length_nil, List.length_cons]; omega)
  refine hc.mono ?_
  clear hc
  rintro e w1 ⟨vw1, rfl, hp⟩
  have B1 := (hBW).own (P0).row hp.kept (Nat.lt_succ_self _)
  have P1 := (P0).trans hp
  obtain ⟨aw1, nw1, cw1, rfl⟩ : ∃ a n c, vw1 = .slice a n c := by
    obtain ⟨a, c, e, _⟩ := hp.row.fl.shape
    exact ⟨_, _, _, e⟩
  clear hp hBW P0
  have cc1 := (B1).cell 1
  have cc2 := (B1).cell 2
  go_wp2_with (at_builtin; refine wl_append rfl _ _ _ _ rfl _ _ rfl rfl ?_)
  clear cc1 cc2
  have hsz1 := (P1).kept.size
  have hs2 : Fl (fun k => k = w1.heap.size) (w1.alloc (.cells #[.int .u8 (x1 : Int), .int .u8 (x2 : Int)] 5)) 1 e8 (.slice (some ⟨w1.heap.size, 0, none⟩) 2 2) [UInt8.ofNat x1, UInt8.ofNat x2] := by
    have h := Sl.new w1 #[.int .u8 (x1 : Int), .int .u8 (x2 : Int)] 5 (size := 1) (n := 2) rfl (by unfold maxLen; omega)
    rw [HB1.out, HB2.out] at h ⊢
    exact h
  have ho2 := (P1).row.alloc (.cells #[.int .u8 (x1 : Int), .int .u8 (x2 : Int)] 5)
  refine rg_cat (enc := e8) _ _ Try.underlying26 o_info rfl (by decide) hs2 (fun x => e8_one x) ho2 (by simp only [List.length_append, le_len, List.length_nil, List.length_cons]; omega) (by decide) (by rw [World.size_alloc]; omega) ?_
  intro v2 w2 ho3 hk3 hn3
  have hka : Keep (fun j => some j = (Value.slice aw1 nw1 cw1).ownBlock) w1 w2 := ((Keep.refl _ _).alloc _).trans' hk3
  have B2 := (B1).own (P1).row hka (Nat.lt_succ_self _)
  have P2 : Pushed (w.heap.size + 1) W w2 (.slice none 0 0) v2 ((([] ++ le 4 x0)) ++ [UInt8.ofNat x1, UInt8.ofNat x2]) := (P1).step ho3 hka (by rw [World.size_alloc] at hn3; exact hn3)
  obtain ⟨aw2, nw2, cw2, rfl⟩ : ∃ a n c, v2 = .slice a n c := by
    obtain ⟨a, c, e, _⟩ := ho3.fl.shape
    exact ⟨_, _, _, e⟩
  clear ho2 ho3 hk3 hn3 hka hs2 P1 B1 hsz1
  have cc3 := (B2).cell 3
  go_wp2_with fail
  clear cc3
  have hc := r06num_any (w := w2) x3 2 (P2).row (by omega) (by have := (P2).kept.size; omega) (by decide) (by simp only [List.length_append, le_len, List.length_nil, List.length_cons]; omega)
  refine hc.mono ?_
  clear hc
  rintro e w3 ⟨vw3, rfl, hp⟩
  have B3 := (B2).own (P2).row hp.kept (Nat.lt_succ_self _)
  have P3 := (P2).trans hp
  obtain ⟨aw3, nw3, cw3, rfl⟩ : ∃ a n c, vw3 = .slice a n c := by
    obtain ⟨a, c, e, _⟩ := hp.row.fl.shape
    exact ⟨_, _, _, e⟩
  clear hp B2 P2
  have cc4 := (B3).cell 4
  go_wp2_with fail
  clear cc4
  have hc := r06num_any (w := w3) x4 8 (P3).row h4 (by have := (P3).kept.size; omega) (by decide) (by simp only [List.length_append, le_len, List.length_nil, List.length_cons]; omega)
  refine hc.mono ?_
  clear hc
  rintro e w4 ⟨vw4, rfl, hp⟩
  have B4 := (B3).own (P3).row hp.kept (Nat.lt_succ_self _)
  have P4 := (P3).trans hp
  obtain ⟨aw4, nw4, cw4, rfl⟩ : ∃ a n c, vw4 = .slice a n c := by
    obtain ⟨a, c, e, _⟩ := hp.row.fl.shape
    exact ⟨_, _, _, e⟩
  clear hp B3 P3
  have cc5 := (B4).cell 5
  go_wp2_with fail
  clear cc5
  have hc := r06num_any (w := w4) x5 8 (P4).row h5 (by have := (P4).kept.size; omega) (by decide) (by simp only [List.length_append, le_len, List.length_nil, List.length_cons]; omega)
  refine hc.mono ?_
  clear hc
  rintro e w5 ⟨vw5, rfl, hp⟩
  have B5 := (B4).own (P4).row hp.kept (Nat.lt_succ_self _)
  have P5 := (P4).trans hp
  obtain ⟨aw5, nw5, cw5, rfl⟩ : ∃ a n c, vw5 = .slice a n c := by
    obtain ⟨a, c, e, _⟩ := hp.row.fl.shape
    exact ⟨_, _, _, e⟩
  clear hp B4 P4
  go_wp2_with fail
  go_ret
  exact ⟨_, rfl, own_base (P5).row (Nat.le_succ _), (P5).no (Nat.le_succ _) FlO.nil hkW⟩
end
end Go.Proofs.Ytbnahidopemkiaa
namespace Go.Proofs.Ytbnahidopemkiaa
open Go.RowKit Go.Dm Go.Dm.Oc Go.Dm.Ld
section
variable {base : Nat} {w : World} {v : Value} {l : List UInt8}
set_option maxRecDepth 100000 in
set_option maxHeartbeats 4000000 in
theorem r05entry_any (x y : Nat) (ho : FlO w base 5 1 e8 v l) (hx : x < 18446744073709551616) (hy : y < 18446744073709551616) (hb : base ≤ w.heap.size) (hl : l.length ≤ 1000000) :
    Calls Try.prog 53 #[v, .int .u64 (x : Int), .int .u64 (y : Int)] w fun e w' => ∃ v', e = .returned v' ∧ Pushed base w w' v v' (l ++ le 8 x ++ le 8 y) := by
  have HO := Lib.hid ho
  obtain ⟨ao, co, rfl, _, _⟩ := ho.fl.shape
  clear ho
  go_enter Try.func53, Try.ntmps53
  go_wp2_with fail
  go_loopw [0, 1, 7] (fun ov xv kv wr => ∃ (k q : Nat) (acc : List UInt8), xv = .int .u64 (q : Int) ∧ kv = .int .i64 (k : Int) ∧ k ≤ 8 ∧ q < 18446744073709551616 ∧ acc.length = l.length + k ∧ Hid (acc ++ le (8 - k) q = l ++ le 8 x) ∧ Pushed base w wr (.slice ao l.length co) ov acc) (fun _ _ kv _ => 8 - (intOf kv).toNat)
  case atStart => exact ⟨0, x, l, rfl, rfl, Nat.zero_le _, hx, rfl, Lib.hid rfl, Pushed.refl HO.out⟩
  case round =>
    obtain ⟨k, q, acc, rfl, rfl, hk, hq, hal, HA, hP⟩ := hrel
    generalize wr = wy at *
    obtain ⟨a1, c1, e1, _, _⟩ := hP.row.fl.shape
    subst e1
    rcases Nat.lt_or_ge k 8 with hlt | hge
    · have hkz : (k : Int) < 8 := by omega
      have HL := Lib.hid hal
      have hs := hP.kept.size
      clear hal
      go_wp2_with (at_builtin; refine wl_append rfl _ _ _ _ rfl _ _ rfl rfl ?_)
      have hbv : Value.int .u8 ((q : Int) % 256) = bv (UInt8.ofNat (q % 256)) := by
        unfold bv
        rw [UInt8.toNat_ofNat', Nat.mod_mod]
        rfl
      rw [hbv]
      refine rg_push (w := wy) (cs := #[bv (UInt8.ofNat (q % 256))]) (enc := e8) (x := UInt8.ofNat (q % 256)) (l := acc) (base := base) _ 1 Try.underlying26 o_info rfl (by decide) rfl rfl (e8_one _) hP.row (by rw [HL.out]; omega) (by decide) (by omega) ?_
      intro v4 w4 ho4 hk4 hb4
      have hP4 := hP.step ho4 hk4 hb4
      have HA4 := Lib.hid (le_step hlt HA.out)
      obtain ⟨a4, n4, c4, rfl⟩ : ∃ a n c, v4 = .slice a n c := by
        obtain ⟨a, c, e, _⟩ := ho4.fl.shape
        exact ⟨_, _, _, e⟩
      clear hbv ho4 hk4 hb4 hP hs
      have hq2 : IntKind.u64.wrap ((q : Int).tdiv 256) = ((q / 256 : Nat) : Int) := by
        rw [Int.tdiv_eq_ediv_of_nonneg (by omega), wrapU64, Int.natCast_ediv]
        omega
      go_wp2_with fail
      go_roundw
      case rel => exact ⟨k + 1, q / 256, _, by go_num, by go_num, hlt, by omega, by have := HL.out; have hE := (rfl : (0:Nat) = 0); rw [List.length_append]; simp only [List.length_cons, List.length_nil]; omega, HA4, hP4⟩
      case measure => simp [intOf]; omega
    · obtain rfl : k = 8 := Nat.le_antisymm hk hge
      have hA := HA.out
      rw [Nat.sub_self] at hA
      have hA : acc ++ [] = l ++ le _ x := hA
      rw [List.append_nil] at hA
      have HA2 := Lib.hid hA
      obtain ⟨la, hla⟩ : ∃ la, la = acc.length := ⟨_, rfl⟩
      rw [← hla, show ((8 : Nat) : Int) = 8 from rfl]
      have hP2 := hP
      rw [← hla] at hP2
      have HLA := Lib.hid hla
      have halo := Lib.hid hal
      clear hal
      clear hA HA hk hge hq hla hP
      go_wp2_with fail
      go_loopw [0, 2, 8] (fun ov xv kv wr => ∃ (k q : Nat) (acc2 : List UInt8), xv = .int .u64 (q : Int) ∧ kv = .int .i64 (k : Int) ∧ k ≤ 8 ∧ q < 18446744073709551616 ∧ acc2.length = acc.length + k ∧ Hid (acc2 ++ le (8 - k) q = acc ++ le 8 y) ∧ Pushed base w wr (.slice ao l.length co) ov acc2) (fun _ _ kv _ => 8 - (intOf kv).toNat)
      case atStart => exact ⟨0, y, acc, rfl, rfl, Nat.zero_le _, hy, rfl, Lib.hid rfl, hP2⟩
      case round =>
        obtain ⟨k, q, acc, rfl, rfl, hk, hq, hal2, HA, hP⟩ := hrel
        clear hP2
        generalize wr = wy at *
        obtain ⟨a1, c1, e1, _, _⟩ := hP.row.fl.shape
        subst e1
        have hal : acc.length = l.length + 8 + k := by have := halo.out; omega
        have hal3 := Lib.hid hal2
        clear hal2
        rcases Nat.lt_or_ge k 8 with hlt | hge
        · have hkz : (k : Int) < 8 := by omega
          have HL := Lib.hid hal
          have hs := hP.kept.size
          clear hal
          go_wp2_with (at_builtin; refine wl_append rfl _ _ _ _ rfl _ _ rfl rfl ?_)
          have hbv : Value.int .u8 ((q : Int) % 256) = bv (UInt8.ofNat (q % 256)) := by
            unfold bv
            rw [UInt8.toNat_ofNat', Nat.mod_mod]
            rfl
          rw [hbv]
          refine rg_push (w := wy) (cs := #[bv (UInt8.ofNat (q % 256))]) (enc := e8) (x := UInt8.ofNat (q % 256)) (l := acc) (base := base) _ 1 Try.underlying26 o_info rfl (by decide) rfl rfl (e8_one _) hP.row (by rw [HL.out]; omega) (by decide) (by omega) ?_
          intro v4 w4 ho4 hk4 hb4
          have hP4 := hP.step ho4 hk4 hb4
          have HA4 := Lib.hid (le_step hlt HA.out)
          obtain ⟨a4, n4, c4, rfl⟩ : ∃ a n c, v4 = .slice a n c := by
            obtain ⟨a, c, e, _⟩ := ho4.fl.shape
            exact ⟨_, _, _, e⟩
          clear hbv ho4 hk4 hb4 hP hs
          have hq2 : IntKind.u64.wrap ((q : Int).tdiv 256) = ((q / 256 : Nat) : Int) := by
            rw [Int.tdiv_eq_ediv_of_nonneg (by omega), wrapU64, Int.natCast_ediv]
            omega
          go_wp2_with fail
          go_roundw
          case rel => exact ⟨k + 1, q / 256, _, by go_num, by go_num, hlt, by omega, by have := HL.out; have hE := halo.out; rw [List.length_append]; simp only [List.length_cons, List.length_nil]; omega, HA4, hP4⟩
          case measure => simp [intOf]; omega
        · obtain rfl : k = 8 := Nat.le_antisymm hk hge
          have hA := HA.out
          rw [Nat.sub_self] at hA
          have hA : acc ++ [] = _ ++ le _ y := hA
          rw [List.append_nil, HA2.out] at hA
          subst hA
          clear hal hal3 HA HA2 HLA
          go_wp2_with fail
          go_ret
          exact ⟨_, rfl, hP⟩
end
end Go.Proofs.Ytbnahidopemkiaa
namespace Go.Dm
open Go Go.RowKit Go.Maps Go.ChangeMaps

/-- an element reads as itself -/
def heldE (v : Value) : Option (DataW Value × List MemPlace) := some (.held v, [])
def hd (p : Lit × Value) : Lit × DataW Value := (p.1, .held p.2)
def Apart (L : List (Lit × Value)) : Prop := L.Pairwise (fun p q => p.1 ≠ q.1)
def findL (L : List (Lit × Value)) (k : Lit) : Option Value := (L.find? (fun p => p.1.sameKey k)).map (·.2)
def eraseL (L : List (Lit × Value)) (k : Lit) : List (Lit × Value) := L.filter (fun p => !p.1.sameKey k)

theorem sameKey_true {a b : Lit} (hb : WideAt.IsKeyLit b) : a.sameKey b = true ↔ a = b :=
  ⟨WideAt.sameKey_eq, fun h => by subst h; exact WideAt.sameKey_self hb⟩

theorem find_some {α : Type} {L : List (Lit × α)} (hp : L.Pairwise (fun p q => p.1 ≠ q.1)) {k : Lit} (hk : WideAt.IsKeyLit k) (p : Lit × α) : L.find? (fun p => p.1.sameKey k) = some p ↔ p ∈ L ∧ p.1 = k := by
  induction L with
  | nil => simp
  | cons q r ih =>
    rw [List.pairwise_cons] at hp
    by_cases hq : q.1.sameKey k = true
    · have hqk := (sameKey_true hk).1 hq
      simp only [List.find?_cons, hq]
      constructor
      · intro h; cases h; exact ⟨by simp, hqk⟩
      · rintro ⟨h, e⟩
        rcases List.mem_cons.1 h with rfl | h
        · rfl
        · exact absurd (hqk.trans e.symm) (hp.1 p h)
    · have hq' : q.1.sameKey k = false := by simpa using hq
      simp only [List.find?_cons, hq', ih hp.2]
      constructor
      · rintro ⟨h, e⟩; exact ⟨by simp [h], e⟩
      · rintro ⟨h, e⟩
        rcases List.mem_cons.1 h with rfl | h
        · exact absurd ((sameKey_true hk).2 e) hq
        · exact ⟨h, e⟩

theorem apart_perm {α : Type} {L L' : List (Lit × α)} (h : L.Perm L') (hp : L.Pairwise (fun p q => p.1 ≠ q.1)) : L'.Pairwise (fun p q => p.1 ≠ q.1) :=
  (h.pairwise_iff fun h => Ne.symm h).1 hp

theorem find_perm {α : Type} {L L' : List (Lit × α)} (h : L.Perm L') (hp : L.Pairwise (fun p q => p.1 ≠ q.1)) {k : Lit} (hk : WideAt.IsKeyLit k) : L.find? (fun p => p.1.sameKey k) = L'.find? (fun p => p.1.sameKey k) := by
  apply Option.ext
  intro p
  rw [find_some hp hk, find_some (apart_perm h hp) hk, h.mem_iff]

theorem apart_map {L : List (Lit × Value)} : (L.map hd).Pairwise (fun p q => p.1 ≠ q.1) ↔ Apart L := by
  unfold Apart; rw [List.pairwise_map]; rfl

theorem find_map (L : List (Lit × Value)) (k : Lit) : (L.map hd).find? (fun p => p.1.sameKey k) = (L.find? (fun p => p.1.sameKey k)).map hd := by
  rw [List.find?_map]; rfl

theorem findL_perm {L L' : List (Lit × Value)} (h : L.Perm L') (hp : Apart L) {k : Lit} (hk : WideAt.IsKeyLit k) : findL L k = findL L' k := by unfold findL; rw [find_perm h hp hk]
theorem findL_some {L : List (Lit × Value)} (hp : Apart L) {k : Lit} (hk : WideAt.IsKeyLit k) (v : Value) : findL L k = some v ↔ (k, v) ∈ L := by
  unfold findL
  rw [Option.map_eq_some_iff]
  constructor
  · rintro ⟨p, h, rfl⟩
    obtain ⟨h, e⟩ := (find_some hp hk p).1 h
    rw [← e]; exact h
  · intro h; exact ⟨_, (find_some hp hk _).2 ⟨h, rfl⟩, rfl⟩
theorem apart_erase {L : List (Lit × Value)} (h : Apart L) (k : Lit) : Apart (eraseL L k) := List.Pairwise.filter _ h
theorem eraseL_perm {L L' : List (Lit × Value)} (h : L.Perm L') (k : Lit) : (eraseL L k).Perm (eraseL L' k) := h.filter _
theorem mem_erase {L : List (Lit × Value)} {k : Lit} (hk : WideAt.IsKeyLit k) {p : Lit × Value} : p ∈ eraseL L k ↔ p ∈ L ∧ p.1 ≠ k := by
  unfold eraseL
  rw [List.mem_filter]
  cases h : p.1.sameKey k
  · simp only [Bool.not_false, and_true]
    exact ⟨fun hm => ⟨hm, fun e => by rw [(sameKey_true hk).2 e] at h; cases h⟩, fun h => h.1⟩
  · simp only [Bool.not_true, Bool.false_eq_true, and_false, false_iff]
    exact fun hm => hm.2 ((sameKey_true hk).1 h)
theorem apart_put {L : List (Lit × Value)} (h : Apart L) {k : Lit} (hk : WideAt.IsKeyLit k) (v : Value) : Apart ((k, v) :: eraseL L k) := by
  unfold Apart
  rw [List.pairwise_cons]
  exact ⟨fun p hp => fun e => ((mem_erase hk).1 hp).2 e.symm, apart_erase h k⟩
theorem length_erase_le (L : List (Lit × Value)) (k : Lit) : (eraseL L k).length ≤ L.length := List.length_filter_le _ _

/-- Block b of w is a map (of keys of type k) with just the entries of L. -/
def MapL (P : Program) (k : TypeId) (w : World) (b : Nat) (L : List (Lit × Value)) : Prop :=
  Apart L ∧ ∃ es, es.Perm (L.map hd) ∧ w.ownsMap P k heldE b L.length (.map es)

section
variable {P : Program} {k : TypeId} {w : World} {b : Nat} {L : List (Lit × Value)}

theorem MapL.apart (h : MapL P k w b L) : Apart L := h.1
theorem MapL.perm (h : MapL P k w b L) {L' : List (Lit × Value)} (hp : L.Perm L') : MapL P k w b L' := by
  obtain ⟨ha, es, he, ho⟩ := h
  exact ⟨apart_perm hp ha, es, he.trans (hp.map hd), by rw [← hp.length_eq]; exact ho⟩
theorem MapL.lt (h : MapL P k w b L) : b < w.heap.size := by obtain ⟨_, es, _, ho⟩ := h; exact ho.lt
theorem MapL.obj (h : MapL P k w b L) : ∃ es c, w.heap[b]? = some (.map es c) := by obtain ⟨_, es, _, e, c, hb, _⟩ := h; exact ⟨e, c, hb⟩
theorem MapL.ne_blk (h : MapL P k w b L) {b' : Nat} {cs : Array Value} {t : TypeId} (hb : Blk w b' cs t) : b ≠ b' := by
  rintro rfl
  obtain ⟨es, c, e⟩ := h.obj
  rw [hb] at e; cases e
theorem MapL.same {w' : World} (h : MapL P k w b L) (e : w'.heap[b]? = w.heap[b]?) : MapL P k w' b L := by
  obtain ⟨ha, es, he, e1, c, hb, r⟩ := h
  exact ⟨ha, es, he, e1, c, e.trans hb, r⟩
theorem MapL.keep {A : Nat → Prop} {w' : World} (h : MapL P k w b L) (hk : Keep A w w') (hA : ¬ A b) : MapL P k w' b L := h.same (hk.block b h.lt hA)
theorem MapL.keys (h : MapL P k w b L) (K : Keyed P k) : ∀ p ∈ L, WideAt.IsKeyLit p.1 := by
  obtain ⟨ha, es, he, ho⟩ := h
  obtain ⟨es', e1, _, hk⟩ := ho.entries K
  cases e1
  intro p hp
  exact hk (hd p) (he.mem_iff.2 (List.mem_map_of_mem hp))
theorem MapL.made (P : Program) (k : TypeId) (w : World) : MapL P k (w.alloc (.map #[] 0)) w.heap.size [] :=
  ⟨List.Pairwise.nil, [], List.Perm.refl _, World.ownsMap_made _ _ _ _⟩

theorem keyLit_of {key : Value} {kl : Lit} (K : Keyed P k) (h : keyOf P k key = some kl) : WideAt.IsKeyLit kl := K.key h

theorem MapL.at (h : MapL P k w b L) {kl : Lit} (hk : WideAt.IsKeyLit kl) : ∃ es, w.ownsMap P k heldE b L.length (.map es) ∧ es.Perm (L.map hd) ∧ (∀ z : Value, (DataW.map es).atKey kl (.held z) = .held ((findL L kl).getD z)) ∧ Maps.has (.map es) kl = (findL L kl).isSome := by
  obtain ⟨ha, es, he, ho⟩ := h
  have e1 : es.find? (fun p => p.1.sameKey kl) = (L.find? (fun p => p.1.sameKey kl)).map hd := by
    rw [← find_map]; exact find_perm he (apart_perm he.symm (apart_map.2 ha)) hk
  refine ⟨es, ho, he, fun z => ?_, ?_⟩
  · unfold DataW.atKey findL
    simp only [e1]
    cases L.find? (fun p => p.1.sameKey kl) <;> simp [hd]
  · have e2 : es.any (fun p => p.1.sameKey kl) = (es.find? (fun p => p.1.sameKey kl)).isSome := by
      rw [Bool.eq_iff_iff, List.find?_isSome, List.any_eq_true]
    rw [Maps.has_eq, e2, e1]
    unfold findL
    cases L.find? (fun p => p.1.sameKey kl) <;> simp

/-- m[k] -/
theorem MapL.lookup {t e : TypeId} (h : MapL P k w b L) (K : Keyed P k) (ht : P.underlying t = some (.map k e)) {z : Value} (hz : (zeroValue e).run P w = .ok z w) {key : Value} {kl : Lit} (hkey : keyOf P k key = some kl) :
    (Instr.lookup t (.map (some b)) key false).run P w = .ok ((findL L kl).getD z) w := by
  obtain ⟨es, ho, _, hat, _⟩ := h.at (keyLit_of K hkey)
  obtain ⟨v, ps, hrun, hv⟩ := ho.lookup K ht hz (zd := .held z) (zp := []) rfl hkey
  rw [hat z] at hv
  cases hv
  exact hrun
/-- v, ok := m[k] -/
theorem MapL.lookup_ok {t e : TypeId} (h : MapL P k w b L) (K : Keyed P k) (ht : P.underlying t = some (.map k e)) {z : Value} (hz : (zeroValue e).run P w = .ok z w) {key : Value} {kl : Lit} (hkey : keyOf P k key = some kl) :
    (Instr.lookup t (.map (some b)) key true).run P w = .ok (.tuple #[(findL L kl).getD z, .bool (findL L kl).isSome]) w := by
  obtain ⟨es, ho, _, hat, hhas⟩ := h.at (keyLit_of K hkey)
  obtain ⟨v, ps, hrun, hv⟩ := ho.look_ok K ht hz (zd := .held z) (zp := []) rfl hkey
  rw [hat z] at hv
  cases hv
  rw [← hhas]
  exact hrun
/-- m[k] = v -/
theorem MapL.store {t e : TypeId} (h : MapL P k w b L) (K : Keyed P k) (ht : P.underlying t = some (.map k e)) (hn : L.length < maxLen) {key v : Value} {kl : Lit} (hkey : keyOf P k key = some kl) :
    ∃ w', (Instr.mapUpdate t (.map (some b)) key v).run P w = .ok () w' ∧ MapL P k w' b ((kl, v) :: eraseL L kl) ∧ Keep (fun j => j = b) w w' ∧ w'.heap.size = w.heap.size := by
  have hkl := keyLit_of K hkey
  obtain ⟨ha, es, he, ho⟩ := h
  obtain ⟨w', hrun, ho', ht'⟩ := ho.store K ht hn hkey (d := .held v) (ps := []) rfl
  have hp : (DataW.insert (kl, .held v) (es.filter fun p => !p.1.sameKey kl)).Perm (((kl, v) :: eraseL L kl).map hd) := by
    refine (WideShapes.insert_perm _ _).trans ?_
    refine List.Perm.cons _ ?_
    have := he.filter (fun p : Lit × DataW Value => !p.1.sameKey kl)
    rw [List.filter_map] at this
    exact this
  have hg := ht'.grown
  refine ⟨w', hrun, ⟨apart_put ha hkl v, _, hp, ?_⟩, (Keep.of_grown hg).mono (fun j _ e => by cases e; rfl), ?_⟩
  · have hs := ho'.size_le
    obtain ⟨es2, c2, hb2, F2, _, e2⟩ := ho'
    refine ⟨es2, c2, hb2, F2, ?_, e2⟩
    have e3 := hp.length_eq
    have e4 : (DataW.insert (kl, DataW.held v) (es.filter fun p => !p.1.sameKey kl)).length = es2.size := by
      have := congrArg (fun D : DataW Value => Maps.size D) e2
      simp only [DataW.put, Maps.size, length_sorted, List.length_map, Array.length_toList] at this
      exact this
    rw [List.length_map] at e3
    omega
  · obtain ⟨es1, c1, es2, c2, _, rfl⟩ := ht'
    simp [setBlock]
/-- delete(m, k) -/
theorem MapL.drop {t e : TypeId} (h : MapL P k w b L) (K : Keyed P k) (ht : P.underlying t = some (.map k e)) {key : Value} {kl : Lit} (hkey : keyOf P k key = some kl) (ty : TypeId) :
    ∃ w', (Builtin.delete_ #[t, k] ty #[.map (some b), key]).run P w = .ok (.tuple #[]) w' ∧ MapL P k w' b (eraseL L kl) ∧ Keep (fun j => j = b) w w' ∧ w'.heap.size = w.heap.size := by
  obtain ⟨ha, es, he, ho⟩ := h
  obtain ⟨w', hrun, ho', ht'⟩ := ho.drop K ht hkey ty
  have hp : (es.filter fun p => !p.1.sameKey kl).Perm ((eraseL L kl).map hd) := by
    have := he.filter (fun p : Lit × DataW Value => !p.1.sameKey kl)
    rw [List.filter_map] at this
    exact this
  have hg := ht'.grown
  refine ⟨w', hrun, ⟨apart_erase ha kl, _, hp, ?_⟩, (Keep.of_grown hg).mono (fun j _ e => by cases e; rfl), ?_⟩
  · obtain ⟨es2, c2, hb2, F2, _, e2⟩ := ho'
    refine ⟨es2, c2, hb2, F2, ?_, e2⟩
    have e3 := hp.length_eq
    have e4 : (es.filter fun p => !p.1.sameKey kl).length = es2.size := by
      have := congrArg (fun D : DataW Value => Maps.size D) e2
      simp only [DataW.del, Maps.size, length_sorted, List.length_map, Array.length_toList] at this
      exact this
    rw [List.length_map] at e3
    omega
  · obtain ⟨es1, c1, es2, c2, _, rfl⟩ := ht'
    simp [setBlock]
theorem MapL.size (h : MapL P k w b L) : ∃ es, w.ownsMap P k heldE b L.length (.map es) ∧ es.Perm (L.map hd) ∧ Maps.size (.map es) = L.length := by
  obtain ⟨_, es, he, ho⟩ := h
  exact ⟨es, ho, he, by rw [Maps.size_eq, he.length_eq, List.length_map]⟩
/-- len(m) -/
theorem MapL.len {t e : TypeId} (h : MapL P k w b L) (ht : P.underlying t = some (.map k e)) (ty : TypeId) : (Builtin.len_ #[t] ty #[.map (some b)]).run P w = .ok (.int .i64 L.length) w := by
  obtain ⟨es, ho, _, hs⟩ := h.size
  rw [ho.len ht ty, hs]

/-- An iterator (block r) over the map of block b; 'todo' is still to come. -/
def RangeL (P : Program) (k : TypeId) (w : World) (b r : Nat) (L todo : List (Lit × Value)) : Prop :=
  Apart L ∧ (∀ p ∈ todo, p ∈ L) ∧ Apart todo ∧ ∃ es left cnt, es.Perm (L.map hd) ∧ w.ranges P k heldE b r L.length (.map es) left cnt ∧ ∀ kl, left kl = true ↔ ∃ v, (kl, v) ∈ todo

theorem RangeL.map {r : Nat} {todo : List (Lit × Value)} (h : RangeL P k w b r L todo) : MapL P k w b L := by
  obtain ⟨ha, _, _, es, left, cnt, he, hr, _⟩ := h
  exact ⟨ha, es, he, hr.owns⟩
theorem RangeL.same {w' : World} {r : Nat} {todo : List (Lit × Value)} (h : RangeL P k w b r L todo) (eb : w'.heap[b]? = w.heap[b]?) (er : w'.heap[r]? = w.heap[r]?) : RangeL P k w' b r L todo := by
  obtain ⟨ha, h1, h2, es, left, cnt, he, hr, h3⟩ := h
  refine ⟨ha, h1, h2, es, left, cnt, he, ?_, h3⟩
  obtain ⟨es1, clock, since, seen, c0, hb, F, hs, e, hrr, rest⟩ := hr
  exact ⟨es1, clock, since, seen, c0, eb.trans hb, F, hs, e, er.trans hrr, rest⟩
theorem RangeL.lt {r : Nat} {todo : List (Lit × Value)} (h : RangeL P k w b r L todo) : r < w.heap.size := by
  obtain ⟨_, _, _, es, left, cnt, _, hr, _⟩ := h; exact hr.lt
theorem RangeL.keep {A : Nat → Prop} {w' : World} {r : Nat} {todo : List (Lit × Value)} (h : RangeL P k w b r L todo) (hk : Keep A w w') (hb : ¬ A b) (hr : ¬ A r) : RangeL P k w' b r L todo :=
  h.same (hk.block b h.map.lt hb) (hk.block r h.lt hr)
/-- range m -/
theorem MapL.range {t e : TypeId} (h : MapL P k w b L) (K : Keyed P k) (ht : P.underlying t = some (.map k e)) :
    ∃ w', (Instr.range t (.map (some b))).run P w = .ok (.pointer (some ⟨w.heap.size, 0, none⟩)) w' ∧ RangeL P k w' b w.heap.size L L ∧ Keep No w w' ∧ w'.heap.size = w.heap.size + 1 := by
  have hkeys := h.keys K
  obtain ⟨ha, es, he, ho⟩ := h
  obtain ⟨w', hrun, hr, hg, hs⟩ := ho.range K ht
  refine ⟨w', hrun, ⟨ha, fun _ h => h, ha, es, _, _, he, hr, fun kl => ?_⟩, (Keep.of_grown hg).mono (fun j _ e => by cases e), hs⟩
  rw [Maps.has_eq, List.any_eq_true]
  constructor
  · rintro ⟨p, hp, hs⟩
    obtain ⟨q, hq, rfl⟩ := List.mem_map.1 (he.mem_iff.1 hp)
    have := WideAt.sameKey_eq hs
    simp only [hd] at this
    subst this
    exact ⟨q.2, hq⟩
  · rintro ⟨v, hv⟩
    exact ⟨hd (kl, v), he.mem_iff.2 (List.mem_map_of_mem hv), WideAt.sameKey_self (hkeys _ hv)⟩
/-- the next entry -/
theorem RangeL.next {r : Nat} {todo : List (Lit × Value)} (h : RangeL P k w b r L todo) (K : Keyed P k) (ty : TypeId) :
    (todo = [] ∧ (Instr.next (.pointer (some ⟨r, 0, none⟩)) false ty).run P w = .ok (.tuple #[.bool false]) w) ∨
    ∃ key v kl w', keyOf P k key = some kl ∧ (kl, v) ∈ todo ∧ (Instr.next (.pointer (some ⟨r, 0, none⟩)) false ty).run P w = .ok (.tuple #[.bool true, key, v]) w' ∧
      RangeL P k w' b r L (eraseL todo kl) ∧ w'.rangeLeft b r < w.rangeLeft b r ∧ Keep (fun j => j = r) w w' ∧ w'.heap.size = w.heap.size ∧ (Instr.entry (.pointer (some ⟨r, 0, none⟩))).run P w' = .ok (.tuple #[key, v]) w' := by
  have hkeys := h.map.keys K
  obtain ⟨ha, h1, h2, es, left, cnt, he, hr, h3⟩ := h
  rcases hr.next K ty with ⟨h0, hl, hrun⟩ | ⟨key, v, kl, y, w', cnt', hkey, hlk, hRv, hat, hrun, hr', hlt, hg, hs, hen⟩
  · refine .inl ⟨?_, hrun⟩
    cases todo with
    | nil => rfl
    | cons p r =>
      have := (h3 p.1).2 ⟨p.2, by simp⟩
      rw [hl] at this; cases this
  · refine .inr ⟨key, v, kl, w', hkey, ?_⟩
    cases hRv
    have hkl := keyLit_of K hkey
    obtain ⟨v', hv'⟩ := (h3 kl).1 hlk
    have hm := h1 _ hv'
    have hfind : es.find? (fun p => p.1.sameKey kl) = some (hd (kl, v')) :=
      (find_some (apart_perm he.symm (apart_map.2 ha)) hkl _).2 ⟨he.mem_iff.2 (List.mem_map_of_mem hm), rfl⟩
    have := hat (.held (.bool false))
    unfold DataW.atKey at this
    simp only [hfind, hd] at this
    cases this
    refine ⟨hv', hrun, ⟨ha, fun p hp => h1 p ((mem_erase hkl).1 hp).1, apart_erase h2 kl, es, _, _, he, hr', fun kl' => ?_⟩, by rw [hr'.left_eq, hr.left_eq]; exact hlt, (Keep.of_grown hg).mono (fun j _ e => by cases e; rfl), hs, hen⟩
    rw [Bool.and_eq_true, h3]
    constructor
    · rintro ⟨⟨v2, hv2⟩, hne⟩
      refine ⟨v2, (mem_erase hkl).2 ⟨hv2, fun e => ?_⟩⟩
      simp only at e
      subst e
      rw [WideAt.sameKey_self hkl] at hne; cases hne
    · rintro ⟨v2, hv2⟩
      obtain ⟨h4, h5⟩ := (mem_erase hkl).1 hv2
      exact ⟨⟨v2, h4⟩, by rw [Maps.sameKey_ne h5]; rfl⟩

theorem rg_lookup {t e : TypeId} (h : MapL P k w b L) (K : Keyed P k) (ht : P.underlying t = some (.map k e)) {z : Value} (hz : (zeroValue e).run P w = .ok z w) {key : Value} {kl : Lit} (hkey : keyOf P k key = some kl) {G : Value → World → Prop}
    (hk : G ((findL L kl).getD z) w) : LookupGoal P t (.map (some b)) key false w G := .mk (h.lookup K ht hz hkey) hk
theorem rg_lookup_ok {t e : TypeId} (h : MapL P k w b L) (K : Keyed P k) (ht : P.underlying t = some (.map k e)) {z : Value} (hz : (zeroValue e).run P w = .ok z w) {key : Value} {kl : Lit} (hkey : keyOf P k key = some kl) {G : Value → World → Prop}
    (hk : G (.tuple #[(findL L kl).getD z, .bool (findL L kl).isSome]) w) : LookupGoal P t (.map (some b)) key true w G := .mk (h.lookup_ok K ht hz hkey) hk
theorem rg_store {t e : TypeId} (h : MapL P k w b L) (K : Keyed P k) (ht : P.underlying t = some (.map k e)) (hn : L.length < maxLen) {key v : Value} {kl : Lit} (hkey : keyOf P k key = some kl) {G : World → Prop}
    (hk : ∀ w', MapL P k w' b ((kl, v) :: eraseL L kl) → Keep (fun j => j = b) w w' → w'.heap.size = w.heap.size → G w') : UpdateGoal P t (.map (some b)) key v w G := by
  obtain ⟨w', hr, h1, h2, h3⟩ := h.store K ht hn (v := v) hkey
  exact .mk hr (hk w' h1 h2 h3)
theorem rg_delete {t e : TypeId} (h : MapL P k w b L) (K : Keyed P k) (ht : P.underlying t = some (.map k e)) {key : Value} {kl : Lit} (hkey : keyOf P k key = some kl) {ty : TypeId} {G : Value → World → Prop}
    (hk : ∀ w', MapL P k w' b (eraseL L kl) → Keep (fun j => j = b) w w' → w'.heap.size = w.heap.size → G (.tuple #[]) w') : DeleteGoal P t k ty (.map (some b)) key w G := by
  obtain ⟨w', hr, h1, h2, h3⟩ := h.drop K ht hkey ty
  exact .mk hr (hk w' h1 h2 h3)
theorem rg_len {t e : TypeId} (h : MapL P k w b L) (ht : P.underlying t = some (.map k e)) {ty : TypeId} {G : Value → World → Prop} (hk : G (.int .i64 L.length) w) : LenGoal P t ty (.map (some b)) w G := .mk (h.len ht ty) hk
theorem rg_range {t e : TypeId} (h : MapL P k w b L) (K : Keyed P k) (ht : P.underlying t = some (.map k e)) {G : Value → World → Prop}
    (hk : ∀ w', RangeL P k w' b w.heap.size L L → Keep No w w' → w'.heap.size = w.heap.size + 1 → G (.pointer (some ⟨w.heap.size, 0, none⟩)) w') : RangeGoal P t (.map (some b)) w G := by
  obtain ⟨w', hr, h1, h2, h3⟩ := h.range K ht
  exact .mk hr (hk w' h1 h2 h3)
theorem rg_next {r : Nat} {todo : List (Lit × Value)} (h : RangeL P k w b r L todo) (K : Keyed P k) {ty : TypeId} {G : Value → World → Prop}
    (h0 : todo = [] → G (.tuple #[.bool false]) w)
    (h1 : ∀ key v kl w', keyOf P k key = some kl → (kl, v) ∈ todo → RangeL P k w' b r L (eraseL todo kl) → w'.rangeLeft b r < w.rangeLeft b r → Keep (fun j => j = r) w w' → w'.heap.size = w.heap.size →
      (Instr.entry (.pointer (some ⟨r, 0, none⟩))).run P w' = .ok (.tuple #[key, v]) w' → G (.tuple #[.bool true, key, v]) w') : NextGoal P (.pointer (some ⟨r, 0, none⟩)) false ty w G := by
  rcases h.next K ty with ⟨e, hr⟩ | ⟨key, v, kl, w', a1, a2, a3, a4, a5, a6, a7, a8⟩
  · exact .mk hr (h0 e)
  · exact .mk a3 (h1 key v kl w' a1 a2 a4 a5 a6 a7 a8)
end
end Go.Dm
namespace Go.Dm
open Go Go.RowKit
section
variable {P : Program} {w : World} {ops : Array Oper} {rest : List Oper} {o : Oper} {a : Act} {Q : Exit → Act → World → Prop}
theorem wl_insert (hgd : o.guard = none) (m x v : Operand) (t : TypeId) (ho : o.op = Op.insert t m x v) (v1 v2 v3 : Value) (h1 : a.eval m = v1) (h2 : a.eval x = v2) (h3 : a.eval v = v3)
    (h : UpdateGoal P t v1 v2 v3 w fun w' => wpList P ops Q rest (a.put o.dst undef) w') : wpList P ops Q (o :: rest) a w := by
  obtain ⟨v, w', hr, hk⟩ := h
  refine wpList_plain hgd fun K hK => ?_
  unfold Oper.wp
  simp [execOp, ho, h1, h2, h3, hr, Result.andThen]
  exact hK _ _ hk
theorem wl_lookupg (hgd : Region.wanted o (yielded ops a.tmps) = true) (m x : Operand) (t : TypeId) (c : Bool) (ho : o.op = Op.lookup t m x c) (v1 v2 : Value) (h1 : a.eval m = v1) (h2 : a.eval x = v2)
    (h : LookupGoal P t v1 v2 c w fun v w' => wpList P ops Q rest (a.put o.dst v) w') : wpList P ops Q (o :: rest) a w := by
  obtain ⟨v, w', hr, hk⟩ := h
  unfold wpList
  rw [if_pos hgd]
  refine .inl ?_
  unfold Oper.wp
  simp [execOp, ho, h1, h2, hr, Result.andThen]
  exact hk
end
end Go.Dm
