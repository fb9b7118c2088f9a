/- The document's answer: segments, relocations, symbols as bytes. The document's answer: entries and their tags. The document's answer: the head as bytes. No condition. -/
import Derived.Test.YtbnahidopemkiaaGreatApS
import Derived.Test.YtbnahidopemkiaaGreatSg5
import Derived.Test.YtbnahidopemkiaaGreatSy2
import Derived.Test.YtbnahidopemkiaaGreatRl2
set_option linter.unusedVariables false
set_option linter.unusedSimpArgs false
namespace Go.Dm.Ld
open Go Go.Dm.Oc
def segR (s : Sg) : BS := le 4 s.ty ++ le 4 s.fl ++ le 8 s.off ++ le 8 s.va ++ le 8 s.va ++ le 8 s.fi ++ le 8 s.me ++ le 8 s.al
def relR (x : Rl) : BS := le 8 x.off ++ le 8 (x.ty + x.sym * 4294967296) ++ le 8 x.add
def symR (x : Sy) : BS := le 4 x.nm ++ [UInt8.ofNat x.inf, UInt8.ofNat x.oth] ++ le 2 x.sec ++ le 8 x.val ++ le 8 x.sz
end Go.Dm.Ld
namespace Go.Proofs.YtbnahidopemkiaaGreat
open Go.RowKit Go.Dm Go.Dm.Oc Go.Dm.Ld
section
variable {base : Nat} {w : World} {v : Value}
set_option maxRecDepth 100000 in
set_option maxHeartbeats 4000000 in
theorem r04put_any (s : Sg) (hs : SgOk s) :
    Calls Tryz.prog 39 #[.agg (encSg s).toArray] w fun e w' => ∃ v', e = .returned v' ∧ FlO w' w.heap.size 5 1 e8 v' (segR s) ∧ Keep No w w' := by
  obtain ⟨h0, h1, h2, h3, h4, h5, h6⟩ := hs
  rw [show (encSg s).toArray = #[.int .u32 (s.ty : Int), .int .u32 (s.fl : Int), .int .u64 (s.off : Int), .int .u64 (s.va : Int), .int .u64 (s.fi : Int), .int .u64 (s.me : Int), .int .u64 (s.al : Int)] from rfl]
  unfold segR
  generalize s.ty = x0 at *
  generalize s.fl = x1 at *
  generalize s.off = x2 at *
  generalize s.va = x3 at *
  generalize s.fi = x4 at *
  generalize s.me = x5 at *
  generalize s.al = x6 at *
  go_enter Tryz.func39, Tryz.ntmps39
  go_wp2_with fail
  have hkW : Keep No w (w.alloc (.cells #[.int .u32 (x0 : Int), .int .u32 (x1 : Int), .int .u64 (x2 : Int), .int .u64 (x3 : Int), .int .u64 (x4 : Int), .int .u64 (x5 : Int), .int .u64 (x6 : Int)] 113)) := (Keep.refl _ _).alloc _
  have hBW : Blk (w.alloc (.cells #[.int .u32 (x0 : Int), .int .u32 (x1 : Int), .int .u64 (x2 : Int), .int .u64 (x3 : Int), .int .u64 (x4 : Int), .int .u64 (x5 : Int), .int .u64 (x6 : Int)] 113)) w.heap.size #[.int .u32 (x0 : Int), .int .u32 (x1 : Int), .int .u64 (x2 : Int), .int .u64 (x3 : Int), .int .u64 (x4 : Int), .int .u64 (x5 : Int), .int .u64 (x6 : Int)] 113 := Blk.new _ _ _
  have hzW : (w.alloc (.cells #[.int .u32 (x0 : Int), .int .u32 (x1 : Int), .int .u64 (x2 : Int), .int .u64 (x3 : Int), .int .u64 (x4 : Int), .int .u64 (x5 : Int), .int .u64 (x6 : Int)] 113)).heap.size = w.heap.size + 1 := World.size_alloc _ _
  generalize w.alloc (.cells #[.int .u32 (x0 : Int), .int .u32 (x1 : Int), .int .u64 (x2 : Int), .int .u64 (x3 : Int), .int .u64 (x4 : Int), .int .u64 (x5 : Int), .int .u64 (x6 : Int)] 113) = W at *
  have P0 : Pushed (w.heap.size + 1) W W (.slice none 0 0) (.slice none 0 0) [] := Pushed.refl FlO.nil
  have hc := r04eight_any (w := W) x0 4 (P0).row (by omega) (by have := (P0).kept.size; omega) (by decide) (by simp only [List.length_append, le_len, List.length_nil, List.length_cons]; omega)
  refine hc.mono ?_
  clear hc
  rintro e w1 ⟨vw1, rfl, hp⟩
  have B1 := (hBW).own (P0).row hp.kept (Nat.lt_succ_self _)
  have P1 := (P0).trans hp
  obtain ⟨aw1, nw1, cw1, rfl⟩ : ∃ a n c, vw1 = .slice a n c := by
    obtain ⟨a, c, e, _⟩ := hp.row.fl.shape
    exact ⟨_, _, _, e⟩
  clear hp hBW P0
  have cc := (B1).cell 1
  go_wp2_with fail
  clear cc
  have hc := r04eight_any (w := w1) x1 4 (P1).row (by omega) (by have := (P1).kept.size; omega) (by decide) (by simp only [List.length_append, le_len, List.length_nil, List.length_cons]; omega)
  refine hc.mono ?_
  clear hc
  rintro e w2 ⟨vw2, rfl, hp⟩
  have B2 := (B1).own (P1).row hp.kept (Nat.lt_succ_self _)
  have P2 := (P1).trans hp
  obtain ⟨aw2, nw2, cw2, rfl⟩ : ∃ a n c, vw2 = .slice a n c := by
    obtain ⟨a, c, e, _⟩ := hp.row.fl.shape
    exact ⟨_, _, _, e⟩
  clear hp B1 P1
  have cc := (B2).cell 2
  go_wp2_with fail
  clear cc
  have hc := r04eight_any (w := w2) x2 8 (P2).row h2 (by have := (P2).kept.size; omega) (by decide) (by simp only [List.length_append, le_len, List.length_nil, List.length_cons]; omega)
  refine hc.mono ?_
  clear hc
  rintro e w3 ⟨vw3, rfl, hp⟩
  have B3 := (B2).own (P2).row hp.kept (Nat.lt_succ_self _)
  have P3 := (P2).trans hp
  obtain ⟨aw3, nw3, cw3, rfl⟩ : ∃ a n c, vw3 = .slice a n c := by
    obtain ⟨a, c, e, _⟩ := hp.row.fl.shape
    exact ⟨_, _, _, e⟩
  clear hp B2 P2
  have cc := (B3).cell 3
  go_wp2_with fail
  clear cc
  have hc := r04eight_any (w := w3) x3 8 (P3).row h3 (by have := (P3).kept.size; omega) (by decide) (by simp only [List.length_append, le_len, List.length_nil, List.length_cons]; omega)
  refine hc.mono ?_
  clear hc
  rintro e w4 ⟨vw4, rfl, hp⟩
  have B4 := (B3).own (P3).row hp.kept (Nat.lt_succ_self _)
  have P4 := (P3).trans hp
  obtain ⟨aw4, nw4, cw4, rfl⟩ : ∃ a n c, vw4 = .slice a n c := by
    obtain ⟨a, c, e, _⟩ := hp.row.fl.shape
    exact ⟨_, _, _, e⟩
  clear hp B3 P3
  have cc := (B4).cell 3
  go_wp2_with fail
  clear cc
  have hc := r04eight_any (w := w4) x3 8 (P4).row h3 (by have := (P4).kept.size; omega) (by decide) (by simp only [List.length_append, le_len, List.length_nil, List.length_cons]; omega)
  refine hc.mono ?_
  clear hc
  rintro e w5 ⟨vw5, rfl, hp⟩
  have B5 := (B4).own (P4).row hp.kept (Nat.lt_succ_self _)
  have P5 := (P4).trans hp
  obtain ⟨aw5, nw5, cw5, rfl⟩ : ∃ a n c, vw5 = .slice a n c := by
    obtain ⟨a, c, e, _⟩ := hp.row.fl.shape
    exact ⟨_, _, _, e⟩
  clear hp B4 P4
  have cc := (B5).cell 4
  go_wp2_with fail
  clear cc
  have hc := r04eight_any (w := w5) x4 8 (P5).row h4 (by have := (P5).kept.size; omega) (by decide) (by simp only [List.length_append, le_len, List.length_nil, List.length_cons]; omega)
  refine hc.mono ?_
  clear hc
  rintro e w6 ⟨vw6, rfl, hp⟩
  have B6 := (B5).own (P5).row hp.kept (Nat.lt_succ_self _)
  have P6 := (P5).trans hp
  obtain ⟨aw6, nw6, cw6, rfl⟩ : ∃ a n c, vw6 = .slice a n c := by
    obtain ⟨a, c, e, _⟩ := hp.row.fl.shape
    exact ⟨_, _, _, e⟩
  clear hp B5 P5
  have cc := (B6).cell 5
  go_wp2_with fail
  clear cc
  have hc := r04eight_any (w := w6) x5 8 (P6).row h5 (by have := (P6).kept.size; omega) (by decide) (by simp only [List.length_append, le_len, List.length_nil, List.length_cons]; omega)
  refine hc.mono ?_
  clear hc
  rintro e w7 ⟨vw7, rfl, hp⟩
  have B7 := (B6).own (P6).row hp.kept (Nat.lt_succ_self _)
  have P7 := (P6).trans hp
  obtain ⟨aw7, nw7, cw7, rfl⟩ : ∃ a n c, vw7 = .slice a n c := by
    obtain ⟨a, c, e, _⟩ := hp.row.fl.shape
    exact ⟨_, _, _, e⟩
  clear hp B6 P6
  have cc := (B7).cell 6
  go_wp2_with fail
  clear cc
  have hc := r04eight_any (w := w7) x6 8 (P7).row h6 (by have := (P7).kept.size; omega) (by decide) (by simp only [List.length_append, le_len, List.length_nil, List.length_cons]; omega)
  refine hc.mono ?_
  clear hc
  rintro e w8 ⟨vw8, rfl, hp⟩
  have B8 := (B7).own (P7).row hp.kept (Nat.lt_succ_self _)
  have P8 := (P7).trans hp
  obtain ⟨aw8, nw8, cw8, rfl⟩ : ∃ a n c, vw8 = .slice a n c := by
    obtain ⟨a, c, e, _⟩ := hp.row.fl.shape
    exact ⟨_, _, _, e⟩
  clear hp B7 P7
  go_wp2_with fail
  go_ret
  have hnW := hkW
  exact ⟨_, rfl, own_base (P8).row (Nat.le_succ _), (P8).no (Nat.le_succ _) FlO.nil hkW⟩
set_option maxRecDepth 100000 in
set_option maxHeartbeats 4000000 in
theorem r07put_any (s : Rl) (hs : RlOk s) :
    Calls Tryz.prog 42 #[.agg (encRl s).toArray] w fun e w' => ∃ v', e = .returned v' ∧ FlO w' w.heap.size 5 1 e8 v' (relR s) ∧ Keep No w w' := by
  obtain ⟨h0, h1, h2, h3⟩ := hs
  rw [show (encRl s).toArray = #[.int .u64 (s.off : Int), .int .u32 (s.ty : Int), .int .u32 (s.sym : Int), .int .i64 (addI s.add)] from rfl]
  unfold relR
  have ha : IntKind.u64.wrap (addI s.add) = (s.add : Int) := by
    unfold addI
    simp only [IntKind.wrap, IntKind.bits, IntKind.signed]
    simp
    split <;> omega
  generalize addI s.add = ad at *
  generalize s.off = x0 at *
  generalize s.ty = x1 at *
  generalize s.sym = x2 at *
  generalize s.add = x3 at *
  have hm1 : IntKind.u64.wrap ((x2 : Int) * 4294967296) = ((x2 * 4294967296 : Nat) : Int) := by rw [wrapU64]; omega
  have hm2 : IntKind.u64.wrap ((x1 : Int) + ((x2 * 4294967296 : Nat) : Int)) = ((x1 + x2 * 4294967296 : Nat) : Int) := by rw [wrapU64]; omega
  go_enter Tryz.func42, Tryz.ntmps42
  go_wp2_with fail
  have hkW : Keep No w (w.alloc (.cells #[.int .u64 (x0 : Int), .int .u32 (x1 : Int), .int .u32 (x2 : Int), .int .i64 ad] 115)) := (Keep.refl _ _).alloc _
  have hBW : Blk (w.alloc (.cells #[.int .u64 (x0 : Int), .int .u32 (x1 : Int), .int .u32 (x2 : Int), .int .i64 ad] 115)) w.heap.size #[.int .u64 (x0 : Int), .int .u32 (x1 : Int), .int .u32 (x2 : Int), .int .i64 ad] 115 := Blk.new _ _ _
  have hzW : (w.alloc (.cells #[.int .u64 (x0 : Int), .int .u32 (x1 : Int), .int .u32 (x2 : Int), .int .i64 ad] 115)).heap.size = w.heap.size + 1 := World.size_alloc _ _
  generalize w.alloc (.cells #[.int .u64 (x0 : Int), .int .u32 (x1 : Int), .int .u32 (x2 : Int), .int .i64 ad] 115) = W at *
  have P0 : Pushed (w.heap.size + 1) W W (.slice none 0 0) (.slice none 0 0) [] := Pushed.refl FlO.nil
  have hc := r07eight_any (w := W) x0  (P0).row h0 (by have := (P0).kept.size; omega)  (by simp only [List.length_append, le_len, List.length_nil, List.length_cons]; omega)
  refine hc.mono ?_
  clear hc
  rintro e w1 ⟨vw1, rfl, hp⟩
  have B1 := (hBW).own (P0).row hp.kept (Nat.lt_succ_self _)
  have P1 := (P0).trans hp
  obtain ⟨aw1, nw1, cw1, rfl⟩ : ∃ a n c, vw1 = .slice a n c := by
    obtain ⟨a, c, e, _⟩ := hp.row.fl.shape
    exact ⟨_, _, _, e⟩
  clear hp hBW P0
  have cc1 := (B1).cell 1
  have cc2 := (B1).cell 2
  go_wp2_with fail
  clear cc1
  clear cc2
  have hc := r07eight_any (w := w1) (x1 + x2 * 4294967296)  (P1).row (by omega) (by have := (P1).kept.size; omega)  (by simp only [List.length_append, le_len, List.length_nil, List.length_cons]; omega)
  refine hc.mono ?_
  clear hc
  rintro e w2 ⟨vw2, rfl, hp⟩
  have B2 := (B1).own (P1).row hp.kept (Nat.lt_succ_self _)
  have P2 := (P1).trans hp
  obtain ⟨aw2, nw2, cw2, rfl⟩ : ∃ a n c, vw2 = .slice a n c := by
    obtain ⟨a, c, e, _⟩ := hp.row.fl.shape
    exact ⟨_, _, _, e⟩
  clear hp B1 P1
  have cc3 := (B2).cell 3
  go_wp2_with fail
  clear cc3
  have hc := r07eight_any (w := w2) x3  (P2).row h3 (by have := (P2).kept.size; omega)  (by simp only [List.length_append, le_len, List.length_nil, List.length_cons]; omega)
  refine hc.mono ?_
  clear hc
  rintro e w3 ⟨vw3, rfl, hp⟩
  have B3 := (B2).own (P2).row hp.kept (Nat.lt_succ_self _)
  have P3 := (P2).trans hp
  obtain ⟨aw3, nw3, cw3, rfl⟩ : ∃ a n c, vw3 = .slice a n c := by
    obtain ⟨a, c, e, _⟩ := hp.row.fl.shape
    exact ⟨_, _, _, e⟩
  clear hp B2 P2
  go_wp2_with fail
  go_ret
  exact ⟨_, rfl, own_base (P3).row (Nat.le_succ _), (P3).no (Nat.le_succ _) FlO.nil hkW⟩
set_option maxRecDepth 100000 in
set_option maxHeartbeats 4000000 in
theorem r06put_any (s : Sy) (hs : SyOk s) :
    Calls Tryz.prog 41 #[.agg (encSy s).toArray] w fun e w' => ∃ v', e = .returned v' ∧ FlO w' w.heap.size 5 1 e8 v' (symR s) ∧ Keep No w w' := by
  obtain ⟨h0, h1, h2, h3, h4, h5⟩ := hs
  rw [show (encSy s).toArray = #[.int .u32 (s.nm : Int), .int .u8 (s.inf : Int), .int .u8 (s.oth : Int), .int .u16 (s.sec : Int), .int .u64 (s.val : Int), .int .u64 (s.sz : Int)] from rfl]
  unfold symR
  generalize s.nm = x0 at *
  generalize s.inf = x1 at *
  generalize s.oth = x2 at *
  generalize s.sec = x3 at *
  generalize s.val = x4 at *
  generalize s.sz = x5 at *
  have hb1 : Value.int .u8 (x1 : Int) = bv (UInt8.ofNat x1) := by unfold bv; rw [UInt8.toNat_ofNat']; rw [Nat.mod_eq_of_lt h1]
  have hb2 : Value.int .u8 (x2 : Int) = bv (UInt8.ofNat x2) := by unfold bv; rw [UInt8.toNat_ofNat']; rw [Nat.mod_eq_of_lt h2]
  have HB1 := Lib.hid hb1
  have HB2 := Lib.hid hb2
  clear hb1 hb2
  go_enter Tryz.func41, Tryz.ntmps41
  go_wp2_with fail
  have hkW : Keep No w (w.alloc (.cells #[.int .u32 (x0 : Int), .int .u8 (x1 : Int), .int .u8 (x2 : Int), .int .u16 (x3 : Int), .int .u64 (x4 : Int), .int .u64 (x5 : Int)] 46)) := (Keep.refl _ _).alloc _
  have hBW : Blk (w.alloc (.cells #[.int .u32 (x0 : Int), .int .u8 (x1 : Int), .int .u8 (x2 : Int), .int .u16 (x3 : Int), .int .u64 (x4 : Int), .int .u64 (x5 : Int)] 46)) w.heap.size #[.int .u32 (x0 : Int), .int .u8 (x1 : Int), .int .u8 (x2 : Int), .int .u16 (x3 : Int), .int .u64 (x4 : Int), .int .u64 (x5 : Int)] 46 := Blk.new _ _ _
  have hzW : (w.alloc (.cells #[.int .u32 (x0 : Int), .int .u8 (x1 : Int), .int .u8 (x2 : Int), .int .u16 (x3 : Int), .int .u64 (x4 : Int), .int .u64 (x5 : Int)] 46)).heap.size = w.heap.size + 1 := World.size_alloc _ _
  generalize w.alloc (.cells #[.int .u32 (x0 : Int), .int .u8 (x1 : Int), .int .u8 (x2 : Int), .int .u16 (x3 : Int), .int .u64 (x4 : Int), .int .u64 (x5 : Int)] 46) = W at *
  have P0 : Pushed (w.heap.size + 1) W W (.slice none 0 0) (.slice none 0 0) [] := Pushed.refl FlO.nil
  have hc := r06num_any (w := W) x0 4 (P0).row (by omega) (by have := (P0).kept.size; omega) (by decide) (by simp only [List.length_append, le_len, List.length_nil, List.length_cons]; omega)
  refine hc.mono ?_
  clear hc
  rintro e w1 ⟨vw1, rfl, hp⟩
  have B1 := (hBW).own (P0).row hp.kept (Nat.lt_succ_self _)
  have P1 := (P0).trans hp
  obtain ⟨aw1, nw1, cw1, rfl⟩ : ∃ a n c, vw1 = .slice a n c := by
    obtain ⟨a, c, e, _⟩ := hp.row.fl.shape
    exact ⟨_, _, _, e⟩
  clear hp hBW P0
  have cc1 := (B1).cell 1
  have cc2 := (B1).cell 2
  go_wp2_with (at_builtin; refine wl_append rfl _ _ _ _ rfl _ _ rfl rfl ?_)
  clear cc1 cc2
  have hsz1 := (P1).kept.size
  have hs2 : Fl (fun k => k = w1.heap.size) (w1.alloc (.cells #[.int .u8 (x1 : Int), .int .u8 (x2 : Int)] 5)) 1 e8 (.slice (some ⟨w1.heap.size, 0, none⟩) 2 2) [UInt8.ofNat x1, UInt8.ofNat x2] := by
    have h := Sl.new w1 #[.int .u8 (x1 : Int), .int .u8 (x2 : Int)] 5 (size := 1) (n := 2) rfl (by unfold maxLen; omega)
    rw [HB1.out, HB2.out] at h ⊢
    exact h
  have ho2 := (P1).row.alloc (.cells #[.int .u8 (x1 : Int), .int .u8 (x2 : Int)] 5)
  refine rg_cat (enc := e8) _ _ Tryz.underlying24 o_info rfl (by decide) hs2 (fun x => e8_one x) ho2 (by simp only [List.length_append, le_len, List.length_nil, List.length_cons]; omega) (by decide) (by rw [World.size_alloc]; omega) ?_
  intro v2 w2 ho3 hk3 hn3
  have hka : Keep (fun j => some j = (Value.slice aw1 nw1 cw1).ownBlock) w1 w2 := ((Keep.refl _ _).alloc _).trans' hk3
  have B2 := (B1).own (P1).row hka (Nat.lt_succ_self _)
  have P2 : Pushed (w.heap.size + 1) W w2 (.slice none 0 0) v2 ((([] ++ le 4 x0)) ++ [UInt8.ofNat x1, UInt8.ofNat x2]) := (P1).step ho3 hka (by rw [World.size_alloc] at hn3; exact hn3)
  obtain ⟨aw2, nw2, cw2, rfl⟩ : ∃ a n c, v2 = .slice a n c := by
    obtain ⟨a, c, e, _⟩ := ho3.fl.shape
    exact ⟨_, _, _, e⟩
  clear ho2 ho3 hk3 hn3 hka hs2 P1 B1 hsz1
  have cc3 := (B2).cell 3
  go_wp2_with fail
  clear cc3
  have hc := r06num_any (w := w2) x3 2 (P2).row (by omega) (by have := (P2).kept.size; omega) (by decide) (by simp only [List.length_append, le_len, List.length_nil, List.length_cons]; omega)
  refine hc.mono ?_
  clear hc
  rintro e w3 ⟨vw3, rfl, hp⟩
  have B3 := (B2).own (P2).row hp.kept (Nat.lt_succ_self _)
  have P3 := (P2).trans hp
  obtain ⟨aw3, nw3, cw3, rfl⟩ : ∃ a n c, vw3 = .slice a n c := by
    obtain ⟨a, c, e, _⟩ := hp.row.fl.shape
    exact ⟨_, _, _, e⟩
  clear hp B2 P2
  have cc4 := (B3).cell 4
  go_wp2_with fail
  clear cc4
  have hc := r06num_any (w := w3) x4 8 (P3).row h4 (by have := (P3).kept.size; omega) (by decide) (by simp only [List.length_append, le_len, List.length_nil, List.length_cons]; omega)
  refine hc.mono ?_
  clear hc
  rintro e w4 ⟨vw4, rfl, hp⟩
  have B4 := (B3).own (P3).row hp.kept (Nat.lt_succ_self _)
  have P4 := (P3).trans hp
  obtain ⟨aw4, nw4, cw4, rfl⟩ : ∃ a n c, vw4 = .slice a n c := by
    obtain ⟨a, c, e, _⟩ := hp.row.fl.shape
    exact ⟨_, _, _, e⟩
  clear hp B3 P3
  have cc5 := (B4).cell 5
  go_wp2_with fail
  clear cc5
  have hc := r06num_any (w := w4) x5 8 (P4).row h5 (by have := (P4).kept.size; omega) (by decide) (by simp only [List.length_append, le_len, List.length_nil, List.length_cons]; omega)
  refine hc.mono ?_
  clear hc
  rintro e w5 ⟨vw5, rfl, hp⟩
  have B5 := (B4).own (P4).row hp.kept (Nat.lt_succ_self _)
  have P5 := (P4).trans hp
  obtain ⟨aw5, nw5, cw5, rfl⟩ : ∃ a n c, vw5 = .slice a n c := by
    obtain ⟨a, c, e, _⟩ := hp.row.fl.shape
    exact ⟨_, _, _, e⟩
  clear hp B4 P4
  go_wp2_with fail
  go_ret
  exact ⟨_, rfl, own_base (P5).row (Nat.le_succ _), (P5).no (Nat.le_succ _) FlO.nil hkW⟩
end
end Go.Proofs.YtbnahidopemkiaaGreat
namespace Go.Proofs.YtbnahidopemkiaaGreat
open Go.RowKit Go.Dm Go.Dm.Oc Go.Dm.Ld
section
variable {base : Nat} {w : World} {v : Value} {l : List UInt8}
set_option maxRecDepth 100000 in
set_option maxHeartbeats 4000000 in
theorem r05entry_any (x y : Nat) (ho : FlO w base 5 1 e8 v l) (hx : x < 18446744073709551616) (hy : y < 18446744073709551616) (hb : base ≤ w.heap.size) (hl : l.length ≤ 1000000) :
    Calls Tryz.prog 67 #[v, .int .u64 (x : Int), .int .u64 (y : Int)] w fun e w' => ∃ v', e = .returned v' ∧ Pushed base w w' v v' (l ++ le 8 x ++ le 8 y) := by
  have HO := Lib.hid ho
  obtain ⟨ao, co, rfl, _, _⟩ := ho.fl.shape
  clear ho
  go_enter Tryz.func67, Tryz.ntmps67
  go_wp2_with fail
  go_loopw [0, 1, 7] (fun ov xv kv wr => ∃ (k q : Nat) (acc : List UInt8), xv = .int .u64 (q : Int) ∧ kv = .int .i64 (k : Int) ∧ k ≤ 8 ∧ q < 18446744073709551616 ∧ acc.length = l.length + k ∧ Hid (acc ++ le (8 - k) q = l ++ le 8 x) ∧ Pushed base w wr (.slice ao l.length co) ov acc) (fun _ _ kv _ => 8 - (intOf kv).toNat)
  case atStart => exact ⟨0, x, l, rfl, rfl, Nat.zero_le _, hx, rfl, Lib.hid rfl, Pushed.refl HO.out⟩
  case round =>
    obtain ⟨k, q, acc, rfl, rfl, hk, hq, hal, HA, hP⟩ := hrel
    generalize wr = wy at *
    obtain ⟨a1, c1, e1, _, _⟩ := hP.row.fl.shape
    subst e1
    rcases Nat.lt_or_ge k 8 with hlt | hge
    · have hkz : (k : Int) < 8 := by omega
      have HL := Lib.hid hal
      have hs := hP.kept.size
      clear hal
      go_wp2_with (at_builtin; refine wl_append rfl _ _ _ _ rfl _ _ rfl rfl ?_)
      have hbv : Value.int .u8 ((q : Int) % 256) = bv (UInt8.ofNat (q % 256)) := by
        unfold bv
        rw [UInt8.toNat_ofNat', Nat.mod_mod]
        rfl
      rw [hbv]
      refine rg_push (w := wy) (cs := #[bv (UInt8.ofNat (q % 256))]) (enc := e8) (x := UInt8.ofNat (q % 256)) (l := acc) (base := base) _ 1 Tryz.underlying24 o_info rfl (by decide) rfl rfl (e8_one _) hP.row (by rw [HL.out]; omega) (by decide) (by omega) ?_
      intro v4 w4 ho4 hk4 hb4
      have hP4 := hP.step ho4 hk4 hb4
      have HA4 := Lib.hid (le_step hlt HA.out)
      obtain ⟨a4, n4, c4, rfl⟩ : ∃ a n c, v4 = .slice a n c := by
        obtain ⟨a, c, e, _⟩ := ho4.fl.shape
        exact ⟨_, _, _, e⟩
      clear hbv ho4 hk4 hb4 hP hs
      have hq2 : IntKind.u64.wrap ((q : Int).tdiv 256) = ((q / 256 : Nat) : Int) := by
        rw [Int.tdiv_eq_ediv_of_nonneg (by omega), wrapU64, Int.natCast_ediv]
        omega
      go_wp2_with fail
      go_roundw
      case rel => exact ⟨k + 1, q / 256, _, by go_num, by go_num, hlt, by omega, by have := HL.out; have hE := (rfl : (0:Nat) = 0); rw [List.length_append]; simp only [List.length_cons, List.length_nil]; omega, HA4, hP4⟩
      case measure => simp [intOf]; omega
    · obtain rfl : k = 8 := Nat.le_antisymm hk hge
      have hA := HA.out
      rw [Nat.sub_self] at hA
      have hA : acc ++ [] = l ++ le _ x := hA
      rw [List.append_nil] at hA
      have HA2 := Lib.hid hA
      obtain ⟨la, hla⟩ : ∃ la, la = acc.length := ⟨_, rfl⟩
      rw [← hla, show ((8 : Nat) : Int) = 8 from rfl]
      have hP2 := hP
      rw [← hla] at hP2
      have HLA := Lib.hid hla
      have halo := Lib.hid hal
      clear hal
      clear hA HA hk hge hq hla hP
      go_wp2_with fail
      go_loopw [0, 2, 8] (fun ov xv kv wr => ∃ (k q : Nat) (acc2 : List UInt8), xv = .int .u64 (q : Int) ∧ kv = .int .i64 (k : Int) ∧ k ≤ 8 ∧ q < 18446744073709551616 ∧ acc2.length = acc.length + k ∧ Hid (acc2 ++ le (8 - k) q = acc ++ le 8 y) ∧ Pushed base w wr (.slice ao l.length co) ov acc2) (fun _ _ kv _ => 8 - (intOf kv).toNat)
      case atStart => exact ⟨0, y, acc, rfl, rfl, Nat.zero_le _, hy, rfl, Lib.hid rfl, hP2⟩
      case round =>
        obtain ⟨k, q, acc, rfl, rfl, hk, hq, hal2, HA, hP⟩ := hrel
        clear hP2
        generalize wr = wy at *
        obtain ⟨a1, c1, e1, _, _⟩ := hP.row.fl.shape
        subst e1
        have hal : acc.length = l.length + 8 + k := by have := halo.out; omega
        have hal3 := Lib.hid hal2
        clear hal2
        rcases Nat.lt_or_ge k 8 with hlt | hge
        · have hkz : (k : Int) < 8 := by omega
          have HL := Lib.hid hal
          have hs := hP.kept.size
          clear hal
          go_wp2_with (at_builtin; refine wl_append rfl _ _ _ _ rfl _ _ rfl rfl ?_)
          have hbv : Value.int .u8 ((q : Int) % 256) = bv (UInt8.ofNat (q % 256)) := by
            unfold bv
            rw [UInt8.toNat_ofNat', Nat.mod_mod]
            rfl
          rw [hbv]
          refine rg_push (w := wy) (cs := #[bv (UInt8.ofNat (q % 256))]) (enc := e8) (x := UInt8.ofNat (q % 256)) (l := acc) (base := base) _ 1 Tryz.underlying24 o_info rfl (by decide) rfl rfl (e8_one _) hP.row (by rw [HL.out]; omega) (by decide) (by omega) ?_
          intro v4 w4 ho4 hk4 hb4
          have hP4 := hP.step ho4 hk4 hb4
          have HA4 := Lib.hid (le_step hlt HA.out)
          obtain ⟨a4, n4, c4, rfl⟩ : ∃ a n c, v4 = .slice a n c := by
            obtain ⟨a, c, e, _⟩ := ho4.fl.shape
            exact ⟨_, _, _, e⟩
          clear hbv ho4 hk4 hb4 hP hs
          have hq2 : IntKind.u64.wrap ((q : Int).tdiv 256) = ((q / 256 : Nat) : Int) := by
            rw [Int.tdiv_eq_ediv_of_nonneg (by omega), wrapU64, Int.natCast_ediv]
            omega
          go_wp2_with fail
          go_roundw
          case rel => exact ⟨k + 1, q / 256, _, by go_num, by go_num, hlt, by omega, by have := HL.out; have hE := halo.out; rw [List.length_append]; simp only [List.length_cons, List.length_nil]; omega, HA4, hP4⟩
          case measure => simp [intOf]; omega
        · obtain rfl : k = 8 := Nat.le_antisymm hk hge
          have hA := HA.out
          rw [Nat.sub_self] at hA
          have hA : acc ++ [] = _ ++ le _ y := hA
          rw [List.append_nil, HA2.out] at hA
          subst hA
          clear hal hal3 HA HA2 HLA
          go_wp2_with fail
          go_ret
          exact ⟨_, rfl, hP⟩
end
end Go.Proofs.YtbnahidopemkiaaGreat
namespace Go.Proofs.YtbnahidopemkiaaGreat
open Go.RowKit Go.Dm Go.Dm.Oc Go.Dm.Ld
section
variable {base : Nat} {w : World} {v : Value}
theorem magic_len : magic.length = 16 := rfl
theorem head_le (h : Hd) : magic ++ le 2 h.kind ++ le 2 19823 ++ le 4 1 ++ le 8 h.entry ++ le 8 h.segs ++ le 12 0 ++ le 2 64 ++ le 2 56 ++ le 2 h.count ++ le 6 0 = headB h := by
  unfold headB
  rw [show le 12 0 = le 8 0 ++ le 4 0 from rfl, show le 6 0 = le 2 0 ++ (le 2 0 ++ le 2 0) from rfl]
  simp only [List.append_assoc]
set_option maxRecDepth 100000 in
set_option maxHeartbeats 4000000 in
theorem r03put_any (h : Hd) (hok : headOk h = true) (hen : h.entry < 18446744073709551616) (hsg : h.segs < 18446744073709551616) :
    Calls Tryz.prog 38 #[.agg #[.int .i64 (h.kind : Int), .int .u64 (h.entry : Int), .int .u64 (h.segs : Int), .int .i64 (h.count : Int)]] w fun e w' => ∃ v', e = .returned (.tuple #[v', .int .i64 0]) ∧ FlO w' w.heap.size 5 1 e8 v' (headB h) ∧ Keep No w w' := by
  rw [← head_le]
  unfold headOk at hok
  simp only [Bool.and_eq_true, decide_eq_true_eq] at hok
  obtain ⟨⟨k1, k2⟩, k3⟩ := hok
  generalize h.kind = kd at *
  generalize h.entry = en at *
  generalize h.segs = sg at *
  generalize h.count = ct at *
  go_enter Tryz.func38, Tryz.ntmps38
  go_wp2_with fail
  have hkW0 : Keep No w (w.alloc (.cells #[.int .i64 (kd : Int), .int .u64 (en : Int), .int .u64 (sg : Int), .int .i64 (ct : Int)] 68)) := (Keep.refl _ _).alloc _
  have hBW0 : Blk (w.alloc (.cells #[.int .i64 (kd : Int), .int .u64 (en : Int), .int .u64 (sg : Int), .int .i64 (ct : Int)] 68)) w.heap.size #[.int .i64 (kd : Int), .int .u64 (en : Int), .int .u64 (sg : Int), .int .i64 (ct : Int)] 68 := Blk.new _ _ _
  have hzW0 : (w.alloc (.cells #[.int .i64 (kd : Int), .int .u64 (en : Int), .int .u64 (sg : Int), .int .i64 (ct : Int)] 68)).heap.size = w.heap.size + 1 := World.size_alloc _ _
  generalize w.alloc (.cells #[.int .i64 (kd : Int), .int .u64 (en : Int), .int .u64 (sg : Int), .int .i64 (ct : Int)] 68) = W0 at *
  have hkW : Keep No W0 (W0.alloc (.cells #[.int .u8 127, .int .u8 69, .int .u8 76, .int .u8 70, .int .u8 2, .int .u8 1, .int .u8 1, .int .u8 0, .int .u8 0, .int .u8 0, .int .u8 0, .int .u8 0, .int .u8 0, .int .u8 0, .int .u8 0, .int .u8 0] 5)) := (Keep.refl _ _).alloc _
  have hBW : Blk (W0.alloc (.cells #[.int .u8 127, .int .u8 69, .int .u8 76, .int .u8 70, .int .u8 2, .int .u8 1, .int .u8 1, .int .u8 0, .int .u8 0, .int .u8 0, .int .u8 0, .int .u8 0, .int .u8 0, .int .u8 0, .int .u8 0, .int .u8 0] 5)) W0.heap.size #[.int .u8 127, .int .u8 69, .int .u8 76, .int .u8 70, .int .u8 2, .int .u8 1, .int .u8 1, .int .u8 0, .int .u8 0, .int .u8 0, .int .u8 0, .int .u8 0, .int .u8 0, .int .u8 0, .int .u8 0, .int .u8 0] 5 := Blk.new _ _ _
  have hzW : (W0.alloc (.cells #[.int .u8 127, .int .u8 69, .int .u8 76, .int .u8 70, .int .u8 2, .int .u8 1, .int .u8 1, .int .u8 0, .int .u8 0, .int .u8 0, .int .u8 0, .int .u8 0, .int .u8 0, .int .u8 0, .int .u8 0, .int .u8 0] 5)).heap.size = W0.heap.size + 1 := World.size_alloc _ _
  generalize W0.alloc (.cells #[.int .u8 127, .int .u8 69, .int .u8 76, .int .u8 70, .int .u8 2, .int .u8 1, .int .u8 1, .int .u8 0, .int .u8 0, .int .u8 0, .int .u8 0, .int .u8 0, .int .u8 0, .int .u8 0, .int .u8 0, .int .u8 0] 5) = W at *
  rw [hzW0] at hBW hzW
  have hm : FlO W (w.heap.size + 1) 5 1 e8 (.slice (some ⟨w.heap.size + 1, 0, none⟩) 16 16) magic := own_blk hBW (Nat.le_refl (w.heap.size + 1)) (n := 16) (size := 1) rfl (by unfold maxLen; omega)
  have P0 : Pushed (w.heap.size + 1) W W (.slice (some ⟨w.heap.size + 1, 0, none⟩) 16 16) (.slice (some ⟨w.heap.size + 1, 0, none⟩) 16 16) magic := Pushed.refl hm
  have hB0 := hBW0.keep hkW fun h => h
  have hkw := hkW0.trans' hkW
  have hc := r03num_any (w := W) kd 2 (P0).row (by omega) (by have := (P0).kept.size; omega) (by decide) (by simp only [List.length_append, le_len, List.length_nil, List.length_cons, magic_len]; omega)
  refine hc.mono ?_
  clear hc
  rintro e w1 ⟨vw1, rfl, hp⟩
  have B1 := (hB0).own (P0).row hp.kept (Nat.lt_succ_self _)
  have P1 := (P0).trans hp
  obtain ⟨aw1, nw1, cw1, rfl⟩ : ∃ a n c, vw1 = .slice a n c := by
    obtain ⟨a, c, e, _⟩ := hp.row.fl.shape
    exact ⟨_, _, _, e⟩
  clear hp hB0 P0
  go_wp2_with fail
  have hc := r03num_any (w := w1) 19823 2 (P1).row (by decide) (by have := (P1).kept.size; omega) (by decide) (by simp only [List.length_append, le_len, List.length_nil, List.length_cons, magic_len]; omega)
  refine hc.mono ?_
  clear hc
  rintro e w2 ⟨vw2, rfl, hp⟩
  have B2 := (B1).own (P1).row hp.kept (Nat.lt_succ_self _)
  have P2 := (P1).trans hp
  obtain ⟨aw2, nw2, cw2, rfl⟩ : ∃ a n c, vw2 = .slice a n c := by
    obtain ⟨a, c, e, _⟩ := hp.row.fl.shape
    exact ⟨_, _, _, e⟩
  clear hp B1 P1
  go_wp2_with fail
  have hc := r03num_any (w := w2) 1 4 (P2).row (by decide) (by have := (P2).kept.size; omega) (by decide) (by simp only [List.length_append, le_len, List.length_nil, List.length_cons, magic_len]; omega)
  refine hc.mono ?_
  clear hc
  rintro e w3 ⟨vw3, rfl, hp⟩
  have B3 := (B2).own (P2).row hp.kept (Nat.lt_succ_self _)
  have P3 := (P2).trans hp
  obtain ⟨aw3, nw3, cw3, rfl⟩ : ∃ a n c, vw3 = .slice a n c := by
    obtain ⟨a, c, e, _⟩ := hp.row.fl.shape
    exact ⟨_, _, _, e⟩
  clear hp B2 P2
  have cc1 := (B3).cell 1
  go_wp2_with fail
  clear cc1
  have hc := r03num_any (w := w3) en 8 (P3).row hen (by have := (P3).kept.size; omega) (by decide) (by simp only [List.length_append, le_len, List.length_nil, List.length_cons, magic_len]; omega)
  refine hc.mono ?_
  clear hc
  rintro e w4 ⟨vw4, rfl, hp⟩
  have B4 := (B3).own (P3).row hp.kept (Nat.lt_succ_self _)
  have P4 := (P3).trans hp
  obtain ⟨aw4, nw4, cw4, rfl⟩ : ∃ a n c, vw4 = .slice a n c := by
    obtain ⟨a, c, e, _⟩ := hp.row.fl.shape
    exact ⟨_, _, _, e⟩
  clear hp B3 P3
  have cc2 := (B4).cell 2
  go_wp2_with fail
  clear cc2
  have hc := r03num_any (w := w4) sg 8 (P4).row hsg (by have := (P4).kept.size; omega) (by decide) (by simp only [List.length_append, le_len, List.length_nil, List.length_cons, magic_len]; omega)
  refine hc.mono ?_
  clear hc
  rintro e w5 ⟨vw5, rfl, hp⟩
  have B5 := (B4).own (P4).row hp.kept (Nat.lt_succ_self _)
  have P5 := (P4).trans hp
  obtain ⟨aw5, nw5, cw5, rfl⟩ : ∃ a n c, vw5 = .slice a n c := by
    obtain ⟨a, c, e, _⟩ := hp.row.fl.shape
    exact ⟨_, _, _, e⟩
  clear hp B4 P4
  go_wp2_with fail
  have hc := r03num_any (w := w5) 0 12 (P5).row (by decide) (by have := (P5).kept.size; omega) (by decide) (by simp only [List.length_append, le_len, List.length_nil, List.length_cons, magic_len]; omega)
  refine hc.mono ?_
  clear hc
  rintro e w6 ⟨vw6, rfl, hp⟩
  have B6 := (B5).own (P5).row hp.kept (Nat.lt_succ_self _)
  have P6 := (P5).trans hp
  obtain ⟨aw6, nw6, cw6, rfl⟩ : ∃ a n c, vw6 = .slice a n c := by
    obtain ⟨a, c, e, _⟩ := hp.row.fl.shape
    exact ⟨_, _, _, e⟩
  clear hp B5 P5
  go_wp2_with fail
  have hc := r03num_any (w := w6) 64 2 (P6).row (by decide) (by have := (P6).kept.size; omega) (by decide) (by simp only [List.length_append, le_len, List.length_nil, List.length_cons, magic_len]; omega)
  refine hc.mono ?_
  clear hc
  rintro e w7 ⟨vw7, rfl, hp⟩
  have B7 := (B6).own (P6).row hp.kept (Nat.lt_succ_self _)
  have P7 := (P6).trans hp
  obtain ⟨aw7, nw7, cw7, rfl⟩ : ∃ a n c, vw7 = .slice a n c := by
    obtain ⟨a, c, e, _⟩ := hp.row.fl.shape
    exact ⟨_, _, _, e⟩
  clear hp B6 P6
  go_wp2_with fail
  have hc := r03num_any (w := w7) 56 2 (P7).row (by decide) (by have := (P7).kept.size; omega) (by decide) (by simp only [List.length_append, le_len, List.length_nil, List.length_cons, magic_len]; omega)
  refine hc.mono ?_
  clear hc
  rintro e w8 ⟨vw8, rfl, hp⟩
  have B8 := (B7).own (P7).row hp.kept (Nat.lt_succ_self _)
  have P8 := (P7).trans hp
  obtain ⟨aw8, nw8, cw8, rfl⟩ : ∃ a n c, vw8 = .slice a n c := by
    obtain ⟨a, c, e, _⟩ := hp.row.fl.shape
    exact ⟨_, _, _, e⟩
  clear hp B7 P7
  have cc3 := (B8).cell 3
  go_wp2_with fail
  clear cc3
  have hc := r03num_any (w := w8) ct 2 (P8).row (by omega) (by have := (P8).kept.size; omega) (by decide) (by simp only [List.length_append, le_len, List.length_nil, List.length_cons, magic_len]; omega)
  refine hc.mono ?_
  clear hc
  rintro e w9 ⟨vw9, rfl, hp⟩
  have B9 := (B8).own (P8).row hp.kept (Nat.lt_succ_self _)
  have P9 := (P8).trans hp
  obtain ⟨aw9, nw9, cw9, rfl⟩ : ∃ a n c, vw9 = .slice a n c := by
    obtain ⟨a, c, e, _⟩ := hp.row.fl.shape
    exact ⟨_, _, _, e⟩
  clear hp B8 P8
  go_wp2_with fail
  have hc := r03num_any (w := w9) 0 6 (P9).row (by decide) (by have := (P9).kept.size; omega) (by decide) (by simp only [List.length_append, le_len, List.length_nil, List.length_cons, magic_len]; omega)
  refine hc.mono ?_
  clear hc
  rintro e w10 ⟨vw10, rfl, hp⟩
  have B10 := (B9).own (P9).row hp.kept (Nat.lt_succ_self _)
  have P10 := (P9).trans hp
  obtain ⟨aw10, nw10, cw10, rfl⟩ : ∃ a n c, vw10 = .slice a n c := by
    obtain ⟨a, c, e, _⟩ := hp.row.fl.shape
    exact ⟨_, _, _, e⟩
  clear hp B9 P9
  go_wp2_with fail
  go_ret2
  refine ⟨_, ?_, own_base (P10).row (Nat.le_succ _), (P10).no (Nat.le_succ _) hm hkw⟩
  rfl
end
end Go.Proofs.YtbnahidopemkiaaGreat
