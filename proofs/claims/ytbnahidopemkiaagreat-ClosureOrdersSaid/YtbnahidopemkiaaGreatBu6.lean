/- The document's answer: segments, relocations, symbols as bytes. The document's answer: entries and their tags. The document's answer: the entries of an image as bytes. No condition. -/
import Derived.Test.YtbnahidopemkiaaGreatBu2
import Derived.Test.YtbnahidopemkiaaGreatSg5
import Derived.Test.YtbnahidopemkiaaGreatSy1
import Derived.Test.YtbnahidopemkiaaGreatRl2
set_option linter.unusedVariables false
set_option linter.unusedSimpArgs false
namespace Go.Dm.Ld
open Go Go.Dm.Oc
def segR (s : Sg) : BS := le 4 s.ty ++ le 4 s.fl ++ le 8 s.off ++ le 8 s.va ++ le 8 s.va ++ le 8 s.fi ++ le 8 s.me ++ le 8 s.al
def relR (x : Rl) : BS := le 8 x.off ++ le 8 (x.ty + x.sym * 4294967296) ++ le 8 x.add
def symR (x : Sy) : BS := le 4 x.nm ++ [UInt8.ofNat x.inf, UInt8.ofNat x.oth] ++ le 2 x.sec ++ le 8 x.val ++ le 8 x.sz
end Go.Dm.Ld
namespace Go.Proofs.YtbnahidopemkiaaGreat
open Go.RowKit Go.Dm Go.Dm.Oc Go.Dm.Ld
section
variable {base : Nat} {w : World} {v : Value}
set_option maxRecDepth 100000 in
set_option maxHeartbeats 4000000 in
theorem r04put_any (s : Sg) (hs : SgOk s) :
    Calls Tryz.prog 39 #[.agg (encSg s).toArray] w fun e w' => ∃ v', e = .returned v' ∧ FlO w' w.heap.size 5 1 e8 v' (segR s) ∧ Keep No w w' := by
  obtain ⟨h0, h1, h2, h3, h4, h5, h6⟩ := hs
  rw [show (encSg s).toArray = #[.int .u32 (s.ty : Int), .int .u32 (s.fl : Int), .int .u64 (s.off : Int), .int .u64 (s.va : Int), .int .u64 (s.fi : Int), .int .u64 (s.me : Int), .int .u64 (s.al : Int)] from rfl]
  unfold segR
  generalize s.ty = x0 at *
  generalize s.fl = x1 at *
  generalize s.off = x2 at *
  generalize s.va = x3 at *
  generalize s.fi = x4 at *
  generalize s.me = x5 at *
  generalize s.al = x6 at *
  go_enter Tryz.func39, Tryz.ntmps39
  go_wp2_with fail
  have hkW : Keep No w (w.alloc (.cells #[.int .u32 (x0 : Int), .int .u32 (x1 : Int), .int .u64 (x2 : Int), .int .u64 (x3 : Int), .int .u64 (x4 : Int), .int .u64 (x5 : Int), .int .u64 (x6 : Int)] 113)) := (Keep.refl _ _).alloc _
  have hBW : Blk (w.alloc (.cells #[.int .u32 (x0 : Int), .int .u32 (x1 : Int), .int .u64 (x2 : Int), .int .u64 (x3 : Int), .int .u64 (x4 : Int), .int .u64 (x5 : Int), .int .u64 (x6 : Int)] 113)) w.heap.size #[.int .u32 (x0 : Int), .int .u32 (x1 : Int), .int .u64 (x2 : Int), .int .u64 (x3 : Int), .int .u64 (x4 : Int), .int .u64 (x5 : Int), .int .u64 (x6 : Int)] 113 := Blk.new _ _ _
  have hzW : (w.alloc (.cells #[.int .u32 (x0 : Int), .int .u32 (x1 : Int), .int .u64 (x2 : Int), .int .u64 (x3 : Int), .int .u64 (x4 : Int), .int .u64 (x5 : Int), .int .u64 (x6 : Int)] 113)).heap.size = w.heap.size + 1 := World.size_alloc _ _
  generalize w.alloc (.cells #[.int .u32 (x0 : Int), .int .u32 (x1 : Int), .int .u64 (x2 : Int), .int .u64 (x3 : Int), .int .u64 (x4 : Int), .int .u64 (x5 : Int), .int .u64 (x6 : Int)] 113) = W at *
  have P0 : Pushed (w.heap.size + 1) W W (.slice none 0 0) (.slice none 0 0) [] := Pushed.refl FlO.nil
  have hc := r04eight_any (w := W) x0 4 (P0).row (by omega) (by have := (P0).kept.size; omega) (by decide) (by simp only [List.length_append, le_len, List.length_nil, List.length_cons]; omega)
  refine hc.mono ?_
  clear hc
  rintro e w1 ⟨vw1, rfl, hp⟩
  have B1 := (hBW).own (P0).row hp.kept (Nat.lt_succ_self _)
  have P1 := (P0).trans hp
  obtain ⟨aw1, nw1, cw1, rfl⟩ : ∃ a n c, vw1 = .slice a n c := by
    obtain ⟨a, c, e, _⟩ := hp.row.fl.shape
    exact ⟨_, _, _, e⟩
  clear hp hBW P0
  have cc := (B1).cell 1
  go_wp2_with fail
  clear cc
  have hc := r04eight_any (w := w1) x1 4 (P1).row (by omega) (by have := (P1).kept.size; omega) (by decide) (by simp only [List.length_append, le_len, List.length_nil, List.length_cons]; omega)
  refine hc.mono ?_
  clear hc
  rintro e w2 ⟨vw2, rfl, hp⟩
  have B2 := (B1).own (P1).row hp.kept (Nat.lt_succ_self _)
  have P2 := (P1).trans hp
  obtain ⟨aw2, nw2, cw2, rfl⟩ : ∃ a n c, vw2 = .slice a n c := by
    obtain ⟨a, c, e, _⟩ := hp.row.fl.shape
    exact ⟨_, _, _, e⟩
  clear hp B1 P1
  have cc := (B2).cell 2
  go_wp2_with fail
  clear cc
  have hc := r04eight_any (w := w2) x2 8 (P2).row h2 (by have := (P2).kept.size; omega) (by decide) (by simp only [List.length_append, le_len, List.length_nil, List.length_cons]; omega)
  refine hc.mono ?_
  clear hc
  rintro e w3 ⟨vw3, rfl, hp⟩
  have B3 := (B2).own (P2).row hp.kept (Nat.lt_succ_self _)
  have P3 := (P2).trans hp
  obtain ⟨aw3, nw3, cw3, rfl⟩ : ∃ a n c, vw3 = .slice a n c := by
    obtain ⟨a, c, e, _⟩ := hp.row.fl.shape
    exact ⟨_, _, _, e⟩
  clear hp B2 P2
  have cc := (B3).cell 3
  go_wp2_with fail
  clear cc
  have hc := r04eight_any (w := w3) x3 8 (P3).row h3 (by have := (P3).kept.size; omega) (by decide) (by simp only [List.length_append, le_len, List.length_nil, List.length_cons]; omega)
  refine hc.mono ?_
  clear hc
  rintro e w4 ⟨vw4, rfl, hp⟩
  have B4 := (B3).own (P3).row hp.kept (Nat.lt_succ_self _)
  have P4 := (P3).trans hp
  obtain ⟨aw4, nw4, cw4, rfl⟩ : ∃ a n c, vw4 = .slice a n c := by
    obtain ⟨a, c, e, _⟩ := hp.row.fl.shape
    exact ⟨_, _, _, e⟩
  clear hp B3 P3
  have cc := (B4).cell 3
  go_wp2_with fail
  clear cc
  have hc := r04eight_any (w := w4) x3 8 (P4).row h3 (by have := (P4).kept.size; omega) (by decide) (by simp only [List.length_append, le_len, List.length_nil, List.length_cons]; omega)
  refine hc.mono ?_
  clear hc
  rintro e w5 ⟨vw5, rfl, hp⟩
  have B5 := (B4).own (P4).row hp.kept (Nat.lt_succ_self _)
  have P5 := (P4).trans hp
  obtain ⟨aw5, nw5, cw5, rfl⟩ : ∃ a n c, vw5 = .slice a n c := by
    obtain ⟨a, c, e, _⟩ := hp.row.fl.shape
    exact ⟨_, _, _, e⟩
  clear hp B4 P4
  have cc := (B5).cell 4
  go_wp2_with fail
  clear cc
  have hc := r04eight_any (w := w5) x4 8 (P5).row h4 (by have := (P5).kept.size; omega) (by decide) (by simp only [List.length_append, le_len, List.length_nil, List.length_cons]; omega)
  refine hc.mono ?_
  clear hc
  rintro e w6 ⟨vw6, rfl, hp⟩
  have B6 := (B5).own (P5).row hp.kept (Nat.lt_succ_self _)
  have P6 := (P5).trans hp
  obtain ⟨aw6, nw6, cw6, rfl⟩ : ∃ a n c, vw6 = .slice a n c := by
    obtain ⟨a, c, e, _⟩ := hp.row.fl.shape
    exact ⟨_, _, _, e⟩
  clear hp B5 P5
  have cc := (B6).cell 5
  go_wp2_with fail
  clear cc
  have hc := r04eight_any (w := w6) x5 8 (P6).row h5 (by have := (P6).kept.size; omega) (by decide) (by simp only [List.length_append, le_len, List.length_nil, List.length_cons]; omega)
  refine hc.mono ?_
  clear hc
  rintro e w7 ⟨vw7, rfl, hp⟩
  have B7 := (B6).own (P6).row hp.kept (Nat.lt_succ_self _)
  have P7 := (P6).trans hp
  obtain ⟨aw7, nw7, cw7, rfl⟩ : ∃ a n c, vw7 = .slice a n c := by
    obtain ⟨a, c, e, _⟩ := hp.row.fl.shape
    exact ⟨_, _, _, e⟩
  clear hp B6 P6
  have cc := (B7).cell 6
  go_wp2_with fail
  clear cc
  have hc := r04eight_any (w := w7) x6 8 (P7).row h6 (by have := (P7).kept.size; omega) (by decide) (by simp only [List.length_append, le_len, List.length_nil, List.length_cons]; omega)
  refine hc.mono ?_
  clear hc
  rintro e w8 ⟨vw8, rfl, hp⟩
  have B8 := (B7).own (P7).row hp.kept (Nat.lt_succ_self _)
  have P8 := (P7).trans hp
  obtain ⟨aw8, nw8, cw8, rfl⟩ : ∃ a n c, vw8 = .slice a n c := by
    obtain ⟨a, c, e, _⟩ := hp.row.fl.shape
    exact ⟨_, _, _, e⟩
  clear hp B7 P7
  go_wp2_with fail
  go_ret
  have hnW := hkW
  exact ⟨_, rfl, own_base (P8).row (Nat.le_succ _), (P8).no (Nat.le_succ _) FlO.nil hkW⟩
set_option maxRecDepth 100000 in
set_option maxHeartbeats 4000000 in
theorem r07put_any (s : Rl) (hs : RlOk s) :
    Calls Tryz.prog 42 #[.agg (encRl s).toArray] w fun e w' => ∃ v', e = .returned v' ∧ FlO w' w.heap.size 5 1 e8 v' (relR s) ∧ Keep No w w' := by
  obtain ⟨h0, h1, h2, h3⟩ := hs
  rw [show (encRl s).toArray = #[.int .u64 (s.off : Int), .int .u32 (s.ty : Int), .int .u32 (s.sym : Int), .int .i64 (addI s.add)] from rfl]
  unfold relR
  have ha : IntKind.u64.wrap (addI s.add) = (s.add : Int) := by
    unfold addI
    simp only [IntKind.wrap, IntKind.bits, IntKind.signed]
    simp
    split <;> omega
  generalize addI s.add = ad at *
  generalize s.off = x0 at *
  generalize s.ty = x1 at *
  generalize s.sym = x2 at *
  generalize s.add = x3 at *
  have hm1 : IntKind.u64.wrap ((x2 : Int) * 4294967296) = ((x2 * 4294967296 : Nat) : Int) := by rw [wrapU64]; omega
  have hm2 : IntKind.u64.wrap ((x1 : Int) + ((x2 * 4294967296 : Nat) : Int)) = ((x1 + x2 * 4294967296 : Nat) : Int) := by rw [wrapU64]; omega
  go_enter Tryz.func42, Tryz.ntmps42
  go_wp2_with fail
  have hkW : Keep No w (w.alloc (.cells #[.int .u64 (x0 : Int), .int .u32 (x1 : Int), .int .u32 (x2 : Int), .int .i64 ad] 115)) := (Keep.refl _ _).alloc _
  have hBW : Blk (w.alloc (.cells #[.int .u64 (x0 : Int), .int .u32 (x1 : Int), .int .u32 (x2 : Int), .int .i64 ad] 115)) w.heap.size #[.int .u64 (x0 : Int), .int .u32 (x1 : Int), .int .u32 (x2 : Int), .int .i64 ad] 115 := Blk.new _ _ _
  have hzW : (w.alloc (.cells #[.int .u64 (x0 : Int), .int .u32 (x1 : Int), .int .u32 (x2 : Int), .int .i64 ad] 115)).heap.size = w.heap.size + 1 := World.size_alloc _ _
  generalize w.alloc (.cells #[.int .u64 (x0 : Int), .int .u32 (x1 : Int), .int .u32 (x2 : Int), .int .i64 ad] 115) = W at *
  have P0 : Pushed (w.heap.size + 1) W W (.slice none 0 0) (.slice none 0 0) [] := Pushed.refl FlO.nil
  have hc := r07eight_any (w := W) x0  (P0).row h0 (by have := (P0).kept.size; omega)  (by simp only [List.length_append, le_len, List.length_nil, List.length_cons]; omega)
  refine hc.mono ?_
  clear hc
  rintro e w1 ⟨vw1, rfl, hp⟩
  have B1 := (hBW).own (P0).row hp.kept (Nat.lt_succ_self _)
  have P1 := (P0).trans hp
  obtain ⟨aw1, nw1, cw1, rfl⟩ : ∃ a n c, vw1 = .slice a n c := by
    obtain ⟨a, c, e, _⟩ := hp.row.fl.shape
    exact ⟨_, _, _, e⟩
  clear hp hBW P0
  have cc1 := (B1).cell 1
  have cc2 := (B1).cell 2
  go_wp2_with fail
  clear cc1
  clear cc2
  have hc := r07eight_any (w := w1) (x1 + x2 * 4294967296)  (P1).row (by omega) (by have := (P1).kept.size; omega)  (by simp only [List.length_append, le_len, List.length_nil, List.length_cons]; omega)
  refine hc.mono ?_
  clear hc
  rintro e w2 ⟨vw2, rfl, hp⟩
  have B2 := (B1).own (P1).row hp.kept (Nat.lt_succ_self _)
  have P2 := (P1).trans hp
  obtain ⟨aw2, nw2, cw2, rfl⟩ : ∃ a n c, vw2 = .slice a n c := by
    obtain ⟨a, c, e, _⟩ := hp.row.fl.shape
    exact ⟨_, _, _, e⟩
  clear hp B1 P1
  have cc3 := (B2).cell 3
  go_wp2_with fail
  clear cc3
  have hc := r07eight_any (w := w2) x3  (P2).row h3 (by have := (P2).kept.size; omega)  (by simp only [List.length_append, le_len, List.length_nil, List.length_cons]; omega)
  refine hc.mono ?_
  clear hc
  rintro e w3 ⟨vw3, rfl, hp⟩
  have B3 := (B2).own (P2).row hp.kept (Nat.lt_succ_self _)
  have P3 := (P2).trans hp
  obtain ⟨aw3, nw3, cw3, rfl⟩ : ∃ a n c, vw3 = .slice a n c := by
    obtain ⟨a, c, e, _⟩ := hp.row.fl.shape
    exact ⟨_, _, _, e⟩
  clear hp B2 P2
  go_wp2_with fail
  go_ret
  exact ⟨_, rfl, own_base (P3).row (Nat.le_succ _), (P3).no (Nat.le_succ _) FlO.nil hkW⟩
set_option maxRecDepth 100000 in
set_option maxHeartbeats 4000000 in
theorem r06put_any (s : Sy) (hs : SyOk s) :
    Calls Tryz.prog 41 #[.agg (encSy s).toArray] w fun e w' => ∃ v', e = .returned v' ∧ FlO w' w.heap.size 5 1 e8 v' (symR s) ∧ Keep No w w' := by
  obtain ⟨h0, h1, h2, h3, h4, h5⟩ := hs
  rw [show (encSy s).toArray = #[.int .u32 (s.nm : Int), .int .u8 (s.inf : Int), .int .u8 (s.oth : Int), .int .u16 (s.sec : Int), .int .u64 (s.val : Int), .int .u64 (s.sz : Int)] from rfl]
  unfold symR
  generalize s.nm = x0 at *
  generalize s.inf = x1 at *
  generalize s.oth = x2 at *
  generalize s.sec = x3 at *
  generalize s.val = x4 at *
  generalize s.sz = x5 at *
  have hb1 : Value.int .u8 (x1 : Int) = bv (UInt8.ofNat x1) := by unfold bv; rw [UInt8.toNat_ofNat']; rw [Nat.mod_eq_of_lt h1]
  have hb2 : Value.int .u8 (x2 : Int) = bv (UInt8.ofNat x2) := by unfold bv; rw [UInt8.toNat_ofNat']; rw [Nat.mod_eq_of_lt h2]
  have HB1 := Lib.hid hb1
  have HB2 := Lib.hid hb2
  clear hb1 hb2
  go_enter Tryz.func41, Tryz.ntmps41
  go_wp2_with fail
  have hkW : Keep No w (w.alloc (.cells #[.int .u32 (x0 : Int), .int .u8 (x1 : Int), .int .u8 (x2 : Int), .int .u16 (x3 : Int), .int .u64 (x4 : Int), .int .u64 (x5 : Int)] 46)) := (Keep.refl _ _).alloc _
  have hBW : Blk (w.alloc (.cells #[.int .u32 (x0 : Int), .int .u8 (x1 : Int), .int .u8 (x2 : Int), .int .u16 (x3 : Int), .int .u64 (x4 : Int), .int .u64 (x5 : Int)] 46)) w.heap.size #[.int .u32 (x0 : Int), .int .u8 (x1 : Int), .int .u8 (x2 : Int), .int .u16 (x3 : Int), .int .u64 (x4 : Int), .int .u64 (x5 : Int)] 46 := Blk.new _ _ _
  have hzW : (w.alloc (.cells #[.int .u32 (x0 : Int), .int .u8 (x1 : Int), .int .u8 (x2 : Int), .int .u16 (x3 : Int), .int .u64 (x4 : Int), .int .u64 (x5 : Int)] 46)).heap.size = w.heap.size + 1 := World.size_alloc _ _
  generalize w.alloc (.cells #[.int .u32 (x0 : Int), .int .u8 (x1 : Int), .int .u8 (x2 : Int), .int .u16 (x3 : Int), .int .u64 (x4 : Int), .int .u64 (x5 : Int)] 46) = W at *
  have P0 : Pushed (w.heap.size + 1) W W (.slice none 0 0) (.slice none 0 0) [] := Pushed.refl FlO.nil
  have hc := r06num_any (w := W) x0 4 (P0).row (by omega) (by have := (P0).kept.size; omega) (by decide) (by simp only [List.length_append, le_len, List.length_nil, List.length_cons]; omega)
  refine hc.mono ?_
  clear hc
  rintro e w1 ⟨vw1, rfl, hp⟩
  have B1 := (hBW).own (P0).row hp.kept (Nat.lt_succ_self _)
  have P1 := (P0).trans hp
  obtain ⟨aw1, nw1, cw1, rfl⟩ : ∃ a n c, vw1 = .slice a n c := by
    obtain ⟨a, c, e, _⟩ := hp.row.fl.shape
    exact ⟨_, _, _, e⟩
  clear hp hBW P0
  have cc1 := (B1).cell 1
  have cc2 := (B1).cell 2
  go_wp2_with (at_builtin; refine wl_append rfl _ _ _ _ rfl _ _ rfl rfl ?_)
  clear cc1 cc2
  have hsz1 := (P1).kept.size
  have hs2 : Fl (fun k => k = w1.heap.size) (w1.alloc (.cells #[.int .u8 (x1 : Int), .int .u8 (x2 : Int)] 5)) 1 e8 (.slice (some ⟨w1.heap.size, 0, none⟩) 2 2) [UInt8.ofNat x1, UInt8.ofNat x2] := by
    have h := Sl.new w1 #[.int .u8 (x1 : Int), .int .u8 (x2 : Int)] 5 (size := 1) (n := 2) rfl (by unfold maxLen; omega)
    rw [HB1.out, HB2.out] at h ⊢
    exact h
  have ho2 := (P1).row.alloc (.cells #[.int .u8 (x1 : Int), .int .u8 (x2 : Int)] 5)
  refine rg_cat (enc := e8) _ _ Tryz.underlying24 o_info rfl (by decide) hs2 (fun x => e8_one x) ho2 (by simp only [List.length_append, le_len, List.length_nil, List.length_cons]; omega) (by decide) (by rw [World.size_alloc]; omega) ?_
  intro v2 w2 ho3 hk3 hn3
  have hka : Keep (fun j => some j = (Value.slice aw1 nw1 cw1).ownBlock) w1 w2 := ((Keep.refl _ _).alloc _).trans' hk3
  have B2 := (B1).own (P1).row hka (Nat.lt_succ_self _)
  have P2 : Pushed (w.heap.size + 1) W w2 (.slice none 0 0) v2 ((([] ++ le 4 x0)) ++ [UInt8.ofNat x1, UInt8.ofNat x2]) := (P1).step ho3 hka (by rw [World.size_alloc] at hn3; exact hn3)
  obtain ⟨aw2, nw2, cw2, rfl⟩ : ∃ a n c, v2 = .slice a n c := by
    obtain ⟨a, c, e, _⟩ := ho3.fl.shape
    exact ⟨_, _, _, e⟩
  clear ho2 ho3 hk3 hn3 hka hs2 P1 B1 hsz1
  have cc3 := (B2).cell 3
  go_wp2_with fail
  clear cc3
  have hc := r06num_any (w := w2) x3 2 (P2).row (by omega) (by have := (P2).kept.size; omega) (by decide) (by simp only [List.length_append, le_len, List.length_nil, List.length_cons]; omega)
  refine hc.mono ?_
  clear hc
  rintro e w3 ⟨vw3, rfl, hp⟩
  have B3 := (B2).own (P2).row hp.kept (Nat.lt_succ_self _)
  have P3 := (P2).trans hp
  obtain ⟨aw3, nw3, cw3, rfl⟩ : ∃ a n c, vw3 = .slice a n c := by
    obtain ⟨a, c, e, _⟩ := hp.row.fl.shape
    exact ⟨_, _, _, e⟩
  clear hp B2 P2
  have cc4 := (B3).cell 4
  go_wp2_with fail
  clear cc4
  have hc := r06num_any (w := w3) x4 8 (P3).row h4 (by have := (P3).kept.size; omega) (by decide) (by simp only [List.length_append, le_len, List.length_nil, List.length_cons]; omega)
  refine hc.mono ?_
  clear hc
  rintro e w4 ⟨vw4, rfl, hp⟩
  have B4 := (B3).own (P3).row hp.kept (Nat.lt_succ_self _)
  have P4 := (P3).trans hp
  obtain ⟨aw4, nw4, cw4, rfl⟩ : ∃ a n c, vw4 = .slice a n c := by
    obtain ⟨a, c, e, _⟩ := hp.row.fl.shape
    exact ⟨_, _, _, e⟩
  clear hp B3 P3
  have cc5 := (B4).cell 5
  go_wp2_with fail
  clear cc5
  have hc := r06num_any (w := w4) x5 8 (P4).row h5 (by have := (P4).kept.size; omega) (by decide) (by simp only [List.length_append, le_len, List.length_nil, List.length_cons]; omega)
  refine hc.mono ?_
  clear hc
  rintro e w5 ⟨vw5, rfl, hp⟩
  have B5 := (B4).own (P4).row hp.kept (Nat.lt_succ_self _)
  have P5 := (P4).trans hp
  obtain ⟨aw5, nw5, cw5, rfl⟩ : ∃ a n c, vw5 = .slice a n c := by
    obtain ⟨a, c, e, _⟩ := hp.row.fl.shape
    exact ⟨_, _, _, e⟩
  clear hp B4 P4
  go_wp2_with fail
  go_ret
  exact ⟨_, rfl, own_base (P5).row (Nat.le_succ _), (P5).no (Nat.le_succ _) FlO.nil hkW⟩
end
end Go.Proofs.YtbnahidopemkiaaGreat
namespace Go.Proofs.YtbnahidopemkiaaGreat
open Go.RowKit Go.Dm Go.Dm.Oc Go.Dm.Ld
section
variable {base : Nat} {w : World} {v : Value} {l : List UInt8}
set_option maxRecDepth 100000 in
set_option maxHeartbeats 4000000 in
theorem r05entry_any (x y : Nat) (ho : FlO w base 5 1 e8 v l) (hx : x < 18446744073709551616) (hy : y < 18446744073709551616) (hb : base ≤ w.heap.size) (hl : l.length ≤ 1000000) :
    Calls Tryz.prog 67 #[v, .int .u64 (x : Int), .int .u64 (y : Int)] w fun e w' => ∃ v', e = .returned v' ∧ Pushed base w w' v v' (l ++ le 8 x ++ le 8 y) := by
  have HO := Lib.hid ho
  obtain ⟨ao, co, rfl, _, _⟩ := ho.fl.shape
  clear ho
  go_enter Tryz.func67, Tryz.ntmps67
  go_wp2_with fail
  go_loopw [0, 1, 7] (fun ov xv kv wr => ∃ (k q : Nat) (acc : List UInt8), xv = .int .u64 (q : Int) ∧ kv = .int .i64 (k : Int) ∧ k ≤ 8 ∧ q < 18446744073709551616 ∧ acc.length = l.length + k ∧ Hid (acc ++ le (8 - k) q = l ++ le 8 x) ∧ Pushed base w wr (.slice ao l.length co) ov acc) (fun _ _ kv _ => 8 - (intOf kv).toNat)
  case atStart => exact ⟨0, x, l, rfl, rfl, Nat.zero_le _, hx, rfl, Lib.hid rfl, Pushed.refl HO.out⟩
  case round =>
    obtain ⟨k, q, acc, rfl, rfl, hk, hq, hal, HA, hP⟩ := hrel
    generalize wr = wy at *
    obtain ⟨a1, c1, e1, _, _⟩ := hP.row.fl.shape
    subst e1
    rcases Nat.lt_or_ge k 8 with hlt | hge
    · have hkz : (k : Int) < 8 := by omega
      have HL := Lib.hid hal
      have hs := hP.kept.size
      clear hal
      go_wp2_with (at_builtin; refine wl_append rfl _ _ _ _ rfl _ _ rfl rfl ?_)
      have hbv : Value.int .u8 ((q : Int) % 256) = bv (UInt8.ofNat (q % 256)) := by
        unfold bv
        rw [UInt8.toNat_ofNat', Nat.mod_mod]
        rfl
      rw [hbv]
      refine rg_push (w := wy) (cs := #[bv (UInt8.ofNat (q % 256))]) (enc := e8) (x := UInt8.ofNat (q % 256)) (l := acc) (base := base) _ 1 Tryz.underlying24 o_info rfl (by decide) rfl rfl (e8_one _) hP.row (by rw [HL.out]; omega) (by decide) (by omega) ?_
      intro v4 w4 ho4 hk4 hb4
      have hP4 := hP.step ho4 hk4 hb4
      have HA4 := Lib.hid (le_step hlt HA.out)
      obtain ⟨a4, n4, c4, rfl⟩ : ∃ a n c, v4 = .slice a n c := by
        obtain ⟨a, c, e, _⟩ := ho4.fl.shape
        exact ⟨_, _, _, e⟩
      clear hbv ho4 hk4 hb4 hP hs
      have hq2 : IntKind.u64.wrap ((q : Int).tdiv 256) = ((q / 256 : Nat) : Int) := by
        rw [Int.tdiv_eq_ediv_of_nonneg (by omega), wrapU64, Int.natCast_ediv]
        omega
      go_wp2_with fail
      go_roundw
      case rel => exact ⟨k + 1, q / 256, _, by go_num, by go_num, hlt, by omega, by have := HL.out; have hE := (rfl : (0:Nat) = 0); rw [List.length_append]; simp only [List.length_cons, List.length_nil]; omega, HA4, hP4⟩
      case measure => simp [intOf]; omega
    · obtain rfl : k = 8 := Nat.le_antisymm hk hge
      have hA := HA.out
      rw [Nat.sub_self] at hA
      have hA : acc ++ [] = l ++ le _ x := hA
      rw [List.append_nil] at hA
      have HA2 := Lib.hid hA
      obtain ⟨la, hla⟩ : ∃ la, la = acc.length := ⟨_, rfl⟩
      rw [← hla, show ((8 : Nat) : Int) = 8 from rfl]
      have hP2 := hP
      rw [← hla] at hP2
      have HLA := Lib.hid hla
      have halo := Lib.hid hal
      clear hal
      clear hA HA hk hge hq hla hP
      go_wp2_with fail
      go_loopw [0, 2, 8] (fun ov xv kv wr => ∃ (k q : Nat) (acc2 : List UInt8), xv = .int .u64 (q : Int) ∧ kv = .int .i64 (k : Int) ∧ k ≤ 8 ∧ q < 18446744073709551616 ∧ acc2.length = acc.length + k ∧ Hid (acc2 ++ le (8 - k) q = acc ++ le 8 y) ∧ Pushed base w wr (.slice ao l.length co) ov acc2) (fun _ _ kv _ => 8 - (intOf kv).toNat)
      case atStart => exact ⟨0, y, acc, rfl, rfl, Nat.zero_le _, hy, rfl, Lib.hid rfl, hP2⟩
      case round =>
        obtain ⟨k, q, acc, rfl, rfl, hk, hq, hal2, HA, hP⟩ := hrel
        clear hP2
        generalize wr = wy at *
        obtain ⟨a1, c1, e1, _, _⟩ := hP.row.fl.shape
        subst e1
        have hal : acc.length = l.length + 8 + k := by have := halo.out; omega
        have hal3 := Lib.hid hal2
        clear hal2
        rcases Nat.lt_or_ge k 8 with hlt | hge
        · have hkz : (k : Int) < 8 := by omega
          have HL := Lib.hid hal
          have hs := hP.kept.size
          clear hal
          go_wp2_with (at_builtin; refine wl_append rfl _ _ _ _ rfl _ _ rfl rfl ?_)
          have hbv : Value.int .u8 ((q : Int) % 256) = bv (UInt8.ofNat (q % 256)) := by
            unfold bv
            rw [UInt8.toNat_ofNat', Nat.mod_mod]
            rfl
          rw [hbv]
          refine rg_push (w := wy) (cs := #[bv (UInt8.ofNat (q % 256))]) (enc := e8) (x := UInt8.ofNat (q % 256)) (l := acc) (base := base) _ 1 Tryz.underlying24 o_info rfl (by decide) rfl rfl (e8_one _) hP.row (by rw [HL.out]; omega) (by decide) (by omega) ?_
          intro v4 w4 ho4 hk4 hb4
          have hP4 := hP.step ho4 hk4 hb4
          have HA4 := Lib.hid (le_step hlt HA.out)
          obtain ⟨a4, n4, c4, rfl⟩ : ∃ a n c, v4 = .slice a n c := by
            obtain ⟨a, c, e, _⟩ := ho4.fl.shape
            exact ⟨_, _, _, e⟩
          clear hbv ho4 hk4 hb4 hP hs
          have hq2 : IntKind.u64.wrap ((q : Int).tdiv 256) = ((q / 256 : Nat) : Int) := by
            rw [Int.tdiv_eq_ediv_of_nonneg (by omega), wrapU64, Int.natCast_ediv]
            omega
          go_wp2_with fail
          go_roundw
          case rel => exact ⟨k + 1, q / 256, _, by go_num, by go_num, hlt, by omega, by have := HL.out; have hE := halo.out; rw [List.length_append]; simp only [List.length_cons, List.length_nil]; omega, HA4, hP4⟩
          case measure => simp [intOf]; omega
        · obtain rfl : k = 8 := Nat.le_antisymm hk hge
          have hA := HA.out
          rw [Nat.sub_self] at hA
          have hA : acc ++ [] = _ ++ le _ y := hA
          rw [List.append_nil, HA2.out] at hA
          subst hA
          clear hal hal3 HA HA2 HLA
          go_wp2_with fail
          go_ret
          exact ⟨_, rfl, hP⟩
end
end Go.Proofs.YtbnahidopemkiaaGreat
namespace Go.Dm.Ld
open Go Go.Dm.Oc
def tagsL : List Nat := [14, 5, 10, 6, 1610612749, 7, 8]
def skipI (V : List Nat) (i : Nat) : Bool := (decide (i = 0) && decide (V.getD i 0 = 0)) || (decide (i = 3 ∨ i = 4) && decide (V.getD 4 0 = 0)) || (decide (5 ≤ i) && decide (V.getD 6 0 = 0))
def entB (x y : Nat) : BS := le 8 x ++ le 8 y
def entI (V : List Nat) (i : Nat) : BS := if skipI V i then [] else entB (tagsL.getD i 0) (V.getD i 0)
def infoB (nd V : List Nat) : BS := nd.flatMap (entB 1) ++ (List.range 7).flatMap (entI V) ++ entB 0 0
end Go.Dm.Ld
namespace Go.Proofs.YtbnahidopemkiaaGreat
open Go.RowKit Go.Dm Go.Dm.Oc Go.Dm.Ld
section
variable {A : Nat → Prop} {base : Nat} {w : World} {v vn vv : Value} {l : List UInt8}
set_option maxHeartbeats 400000 in
theorem r05tags_any : Calls Tryz.prog 68 #[] w fun e w' => e = .returned (.slice (some ⟨w.heap.size, 0, none⟩) 7 7) ∧ w' = w.alloc (.cells #[.int .u64 14, .int .u64 5, .int .u64 10, .int .u64 6, .int .u64 1610612749, .int .u64 7, .int .u64 8] 44) := by
  go_enter Tryz.func68, Tryz.ntmps68
  go_wp2_with fail
  go_ret
  exact ⟨rfl, rfl⟩
theorem entB_len (x y : Nat) : (entB x y).length = 16 := by unfold entB; rw [List.length_append, le_len, le_len]
theorem ents_len (l : List Nat) (x : Nat) : (l.flatMap (entB x)).length = 16 * l.length := by
  induction l with
  | nil => rfl
  | cons a r ih => rw [List.flatMap_cons, List.length_append, ih, entB_len, List.length_cons]; omega
theorem entI_len (V : List Nat) (i : Nat) : (entI V i).length ≤ 16 := by
  unfold entI
  split
  · exact Nat.zero_le _
  · rw [entB_len]; exact Nat.le_refl _
theorem entIs_len (V : List Nat) (i : Nat) : ((List.range i).flatMap (entI V)).length ≤ 16 * i := by
  induction i with
  | zero => exact Nat.le_refl _
  | succ k ih =>
    rw [List.range_succ, List.flatMap_append, List.length_append, List.flatMap_singleton]
    have := entI_len V k
    omega
set_option maxRecDepth 100000 in
set_option maxHeartbeats 4000000 in
theorem r05put_any (nd V : List Nat) (hn : Fl A w 1 encN vn nd) (hv : Fl A w 1 encN vv V) (hV : V.length = 7) (hnd : nd.length ≤ 60000) (hn1 : ∀ x ∈ nd, x < 18446744073709551616) (hV1 : ∀ x ∈ V, x < 18446744073709551616) :
    Calls Tryz.prog 36 #[.agg #[vn, vv]] w fun e w' => ∃ v', e = .returned v' ∧ FlO w' w.heap.size 5 1 e8 v' (infoB nd V) ∧ Keep No w w' := by
  obtain ⟨x0, x1, x2, x3, x4, x5, x6, rfl⟩ : ∃ x0 x1 x2 x3 x4 x5 x6, V = [x0, x1, x2, x3, x4, x5, x6] := by
    match V, hV with
    | [x0, x1, x2, x3, x4, x5, x6], _ => exact ⟨x0, x1, x2, x3, x4, x5, x6, rfl⟩
  have HN := Lib.hid hn
  obtain ⟨an, cn, rfl, hn2, hn3⟩ := hn.shape
  obtain ⟨g1, off, cv, ev, _, hg1, _, _, _⟩ := hv.at (fun _ => rfl) (show 0 < [x0, x1, x2, x3, x4, x5, x6].length from Nat.zero_lt_succ _)
  subst ev
  have hc : ∀ j u, ([x0, x1, x2, x3, x4, x5, x6].flatMap encN)[j]? = some u → w.cell? ⟨g1, off + j, none⟩ = some u := by
    obtain ⟨_, a, cap, e, _, _, _, h⟩ := hv
    obtain ⟨g, o, e2, _, _, h2⟩ := h (by show 0 < 7; decide)
    cases e
    cases e2
    exact h2
  have HC := Lib.hid hc
  have HN1 := Lib.hid hn1
  have k0 := hV1 x0 (by simp)
  have k1 := hV1 x1 (by simp)
  have k2 := hV1 x2 (by simp)
  have k3 := hV1 x3 (by simp)
  have k4 := hV1 x4 (by simp)
  have k5 := hV1 x5 (by simp)
  have k6 := hV1 x6 (by simp)
  rw [show [x0, x1, x2, x3, x4, x5, x6].length = 7 from rfl]
  clear hn hv hV hn1 hV1 hn2 hn3 hc
  go_enter Tryz.func36, Tryz.ntmps36
  go_wp2_with fail
  have hkW : Keep No w (w.alloc (.cells #[.slice an nd.length cn, .slice (some ⟨g1, off, none⟩) 7 cv] 121)) := (Keep.refl _ _).alloc _
  have hBW : Blk (w.alloc (.cells #[.slice an nd.length cn, .slice (some ⟨g1, off, none⟩) 7 cv] 121)) w.heap.size #[.slice an nd.length cn, .slice (some ⟨g1, off, none⟩) 7 cv] 121 := Blk.new _ _ _
  have hzW : (w.alloc (.cells #[.slice an nd.length cn, .slice (some ⟨g1, off, none⟩) 7 cv] 121)).heap.size = w.heap.size + 1 := World.size_alloc _ _
  generalize w.alloc (.cells #[.slice an nd.length cn, .slice (some ⟨g1, off, none⟩) 7 cv] 121) = W at *
  have P0 : Pushed (w.heap.size + 1) W W (.slice none 0 0) (.slice none 0 0) (([] : List Nat).flatMap (entB 1)) := Pushed.refl FlO.nil
  have c0 := hBW.cell 0
  go_wp2_with fail
  go_loopw [3, 4] (fun ov iv wr => ∃ i : Nat, iv = .int .i64 (i : Int) ∧ i ≤ nd.length ∧ Pushed (w.heap.size + 1) W wr (.slice none 0 0) ov ((nd.take i).flatMap (entB 1))) (fun _ iv _ => nd.length - (intOf iv).toNat)
  case atStart => exact ⟨0, rfl, Nat.zero_le _, P0⟩
  case round =>
    obtain ⟨i, rfl, hi, hP⟩ := hrel
    clear P0 c0
    generalize wr = wy at *
    obtain ⟨a1, c1, e1, _, _⟩ := hP.row.fl.shape
    obtain ⟨n1, hn1⟩ : ∃ n1, n1 = ((nd.take i).flatMap (entB 1)).length := ⟨_, rfl⟩
    rw [← hn1] at e1
    subst e1
    have HN1' := Lib.hid hn1
    clear hn1
    have hB := hBW.keep hP.kept fun e => by cases e
    have hk := hkW.trans' (hP.no (w0 := W) (by omega) FlO.nil (Keep.refl _ _))
    have c0 := hB.cell 0
    have c1' := hB.cell 1
    rcases Nat.lt_or_ge i nd.length with hlt | hge
    · obtain ⟨g2, off2, cap, ev, _, _, _, _, hc⟩ := (HN.out.no hk).at (fun _ => rfl) hlt
      cases ev
      have d0 := hc 0 _ rfl
      rw [Nat.add_zero, Nat.mul_one] at d0
      have hiz : (i : Int) < (nd.length : Int) := by omega
      have hsz := hP.kept.size
      have hent := r05entry_any (w := wy) 1 nd[i] hP.row (by decide) (HN1.out _ (List.getElem_mem hlt)) (by omega) (by rw [ents_len, List.length_take]; omega)
      have htk : (nd.take i).flatMap (entB 1) ++ le 8 1 ++ le 8 nd[i] = (nd.take (i + 1)).flatMap (entB 1) := by
        rw [List.take_succ_eq_append_getElem hlt, List.flatMap_append, List.flatMap_singleton, List.append_assoc]
        rfl
      have HTK := Lib.hid htk
      clear htk hc
      generalize nd[i] = x at *
      go_wp2_with fail
      refine hent.mono ?_
      rintro e w2 ⟨v2, rfl, hp2⟩
      have hP2 := hP.trans hp2
      rw [HTK.out] at hP2
      obtain ⟨a2, n2, c2, rfl⟩ : ∃ a n c, v2 = .slice a n c := by
        obtain ⟨a, c, e, _⟩ := hp2.row.fl.shape
        exact ⟨_, _, _, e⟩
      clear hent hp2 hP d0 c0 c1'
      go_wp2_with fail
      go_roundw
      case rel => exact ⟨i + 1, by go_num, hlt, hP2⟩
      case measure => simp [intOf]; omega
    · obtain rfl : i = nd.length := Nat.le_antisymm hi hge
      rw [List.take_length] at hP
      have hP0 : Pushed (w.heap.size + 1) W wy (.slice none 0 0) (.slice a1 n1 c1) (nd.flatMap (entB 1) ++ (List.range 0).flatMap (entI [x0, x1, x2, x3, x4, x5, x6])) := by
        rw [List.range_zero, List.flatMap_nil, List.append_nil]; exact hP
      have hndl : (nd.flatMap (entB 1)).length ≤ 960000 := by rw [ents_len]; omega
      have HND := Lib.hid hndl
      clear hP hndl
      generalize hnds : nd.flatMap (entB 1) = nds at *
      have HNDS := Lib.hid hnds
      clear hnds
      rw [show ((nd.length : Nat) : Int) = ((nd.length : Nat) : Int) from rfl]
      go_wp2_with fail
      go_loopw [3, 5, 6] (fun ov iv _ wr => ∃ i : Nat, iv = .int .i64 (i : Int) ∧ i ≤ 7 ∧ Pushed (w.heap.size + 1) W wr (.slice none 0 0) ov (nds ++ (List.range i).flatMap (entI [x0, x1, x2, x3, x4, x5, x6]))) (fun _ iv _ _ => 7 - (intOf iv).toNat)
      case atStart => exact ⟨0, rfl, Nat.zero_le _, hP0⟩
      case round =>
        obtain ⟨i, rfl, hi, hP⟩ := hrel
        clear hP0 c0 c1' hB hk
        generalize wr = wz at *
        have hB := hBW.keep hP.kept fun e => by cases e
        have hk := hkW.trans' (hP.no (w0 := W) (by omega) FlO.nil (Keep.refl _ _))
        have c1 := hB.cell 1
        obtain ⟨a2, c2, e1, _, _⟩ := hP.row.fl.shape
        obtain ⟨n2, hn2⟩ : ∃ n2, n2 = (nds ++ (List.range i).flatMap (entI [x0, x1, x2, x3, x4, x5, x6])).length := ⟨_, rfl⟩
        have hlen : (nds ++ (List.range i).flatMap (entI [x0, x1, x2, x3, x4, x5, x6])).length ≤ 1000000 := by
          rw [List.length_append]
          have h1 := entIs_len [x0, x1, x2, x3, x4, x5, x6] i
          have h2 := HND.out
          omega
        rw [← hn2] at e1
        subst e1
        have HN2 := Lib.hid hn2
        have HLEN := Lib.hid hlen
        clear hn2 hlen
        have hcc : ∀ j u, ([x0, x1, x2, x3, x4, x5, x6].flatMap encN)[j]? = some u → wz.cell? ⟨g1, off + j, none⟩ = some u := fun j u hu => (hk.cell (p := ⟨g1, off + j, none⟩) hg1 fun h => h).trans (HC.out j u hu)
        have d0 := hcc 0 _ rfl
        have d1 := hcc 1 _ rfl
        have d2 := hcc 2 _ rfl
        have d3 := hcc 3 _ rfl
        have d4 := hcc 4 _ rfl
        have d5 := hcc 5 _ rfl
        have d6 := hcc 6 _ rfl
        rw [Nat.add_zero] at d0
        have HST : ∀ {T}, T = entI [x0, x1, x2, x3, x4, x5, x6] i → nds ++ (List.range i).flatMap (entI [x0, x1, x2, x3, x4, x5, x6]) ++ T = nds ++ (List.range (i + 1)).flatMap (entI [x0, x1, x2, x3, x4, x5, x6]) := fun hT => by
          rw [List.range_succ, List.flatMap_append, List.flatMap_singleton, hT, List.append_assoc]
        clear hcc
        have hcases : i = 7 ∨ i = 0 ∨ i = 1 ∨ i = 2 ∨ i = 3 ∨ i = 4 ∨ i = 5 ∨ i = 6 := by omega
        rcases hcases with rfl | rfl | rfl | rfl | rfl | rfl | rfl | rfl
        · rw [show (((7 : Nat) : Int)) = 7 from rfl]
          have hsz := hP.kept.size
          have hent := r05entry_any (w := wz) 0 0 hP.row (by decide) (by decide) (by omega) HLEN.out
          go_wp2_with fail
          refine hent.mono ?_
          rintro e w2 ⟨v2, rfl, hp2⟩
          have hP3 := hP.trans hp2
          have hfin : infoB nd [x0, x1, x2, x3, x4, x5, x6] = nds ++ (List.range 7).flatMap (entI [x0, x1, x2, x3, x4, x5, x6]) ++ le 8 0 ++ le 8 0 := by
            unfold infoB
            rw [HNDS.out]
            show _ ++ _ ++ (le 8 0 ++ le 8 0) = _
            rw [← List.append_assoc]
          rw [← hfin] at hP3
          clear hfin hent
          go_wp2_with fail
          go_ret
          exact ⟨_, rfl, own_base hP3.row (Nat.le_succ _), hkW.trans' (hP3.no (w0 := W) (by omega) FlO.nil (Keep.refl _ _))⟩
        · rw [show (((0 : Nat) : Int)) = 0 from rfl]
          rcases Nat.eq_zero_or_pos x0 with hz | hz
          · have hz2 : ((x0 : Int) == 0) = true := by simp [hz]
            have hP3 : Pushed (w.heap.size + 1) W wz (.slice none 0 0) (.slice a2 n2 c2) (nds ++ (List.range 1).flatMap (entI [x0, x1, x2, x3, x4, x5, x6])) := by
              rw [← HST (T := []) (by
                unfold entI
                rw [if_pos (by simp [skipI, hz])]), List.append_nil]
              exact hP
            go_wp2_with fail
            go_roundw
            case rel => exact ⟨1, by go_num, by decide, hP3⟩
            case measure => simp [intOf]
          · have hz2 : ((x0 : Int) == 0) = false := by rw [beq_eq_false_iff_ne]; omega
            have hz3 : x0 ≠ 0 := by omega
            go_wp2_with fail
            refine r05tags_any.mono ?_
            rintro e wt ⟨rfl, rfl⟩
            have hkt : Keep No wz (wz.alloc (.cells #[.int .u64 14, .int .u64 5, .int .u64 10, .int .u64 6, .int .u64 1610612749, .int .u64 7, .int .u64 8] 44)) := (Keep.refl _ _).alloc _
            have hBT : Blk (wz.alloc (.cells #[.int .u64 14, .int .u64 5, .int .u64 10, .int .u64 6, .int .u64 1610612749, .int .u64 7, .int .u64 8] 44)) wz.heap.size #[.int .u64 14, .int .u64 5, .int .u64 10, .int .u64 6, .int .u64 1610612749, .int .u64 7, .int .u64 8] 44 := Blk.new _ _ _
            have hP2 := hP.trans ⟨hP.row.no hkt, hkt.mono (fun _ _ h => h.elim), .inl rfl⟩
            generalize wz.alloc (.cells #[.int .u64 14, .int .u64 5, .int .u64 10, .int .u64 6, .int .u64 1610612749, .int .u64 7, .int .u64 8] 44) = wt at *
            have t0 := hBT.cell 0
            have hsz := hP2.kept.size
            go_wp2_with fail
            have hent := r05entry_any (w := wt) 14 x0 hP2.row (by decide) k0 (by omega) HLEN.out
            refine hent.mono ?_
            rintro e w2 ⟨v2, rfl, hp2⟩
            have hP3 := hP2.trans hp2
            rw [List.append_assoc, HST (show le 8 14 ++ le 8 x0 = entI [x0, x1, x2, x3, x4, x5, x6] 0 from by
              unfold entI
              rw [if_neg (by simp [skipI, hz3])]
              rfl)] at hP3
            obtain ⟨a4, n4, c4, rfl⟩ : ∃ a n c, v2 = .slice a n c := by
              obtain ⟨a, c, e, _⟩ := hp2.row.fl.shape
              exact ⟨_, _, _, e⟩
            clear hent hp2 hP2 t0 hBT hkt hsz
            go_wp2_with fail
            go_roundw
            case rel => exact ⟨1, by go_num, by decide, hP3⟩
            case measure => simp [intOf]
        · rw [show (((1 : Nat) : Int)) = 1 from rfl]
          go_wp2_with fail
          refine r05tags_any.mono ?_
          rintro e wt ⟨rfl, rfl⟩
          have hkt : Keep No wz (wz.alloc (.cells #[.int .u64 14, .int .u64 5, .int .u64 10, .int .u64 6, .int .u64 1610612749, .int .u64 7, .int .u64 8] 44)) := (Keep.refl _ _).alloc _
          have hBT : Blk (wz.alloc (.cells #[.int .u64 14, .int .u64 5, .int .u64 10, .int .u64 6, .int .u64 1610612749, .int .u64 7, .int .u64 8] 44)) wz.heap.size #[.int .u64 14, .int .u64 5, .int .u64 10, .int .u64 6, .int .u64 1610612749, .int .u64 7, .int .u64 8] 44 := Blk.new _ _ _
          have hP2 := hP.trans ⟨hP.row.no hkt, hkt.mono (fun _ _ h => h.elim), .inl rfl⟩
          generalize wz.alloc (.cells #[.int .u64 14, .int .u64 5, .int .u64 10, .int .u64 6, .int .u64 1610612749, .int .u64 7, .int .u64 8] 44) = wt at *
          have t0 := hBT.cell 1
          have hsz := hP2.kept.size
          go_wp2_with fail
          have hent := r05entry_any (w := wt) 5 x1 hP2.row (by decide) k1 (by omega) HLEN.out
          refine hent.mono ?_
          rintro e w2 ⟨v2, rfl, hp2⟩
          have hP3 := hP2.trans hp2
          rw [List.append_assoc, HST (show le 8 5 ++ le 8 x1 = entI [x0, x1, x2, x3, x4, x5, x6] 1 from by
            unfold entI
            rw [if_neg (by simp [skipI])]
            rfl)] at hP3
          obtain ⟨a4, n4, c4, rfl⟩ : ∃ a n c, v2 = .slice a n c := by
            obtain ⟨a, c, e, _⟩ := hp2.row.fl.shape
            exact ⟨_, _, _, e⟩
          clear hent hp2 hP2 t0 hBT hkt hsz
          go_wp2_with fail
          go_roundw
          case rel => exact ⟨2, by go_num, by decide, hP3⟩
          case measure => simp [intOf]
        · rw [show (((2 : Nat) : Int)) = 2 from rfl]
          go_wp2_with fail
          refine r05tags_any.mono ?_
          rintro e wt ⟨rfl, rfl⟩
          have hkt : Keep No wz (wz.alloc (.cells #[.int .u64 14, .int .u64 5, .int .u64 10, .int .u64 6, .int .u64 1610612749, .int .u64 7, .int .u64 8] 44)) := (Keep.refl _ _).alloc _
          have hBT : Blk (wz.alloc (.cells #[.int .u64 14, .int .u64 5, .int .u64 10, .int .u64 6, .int .u64 1610612749, .int .u64 7, .int .u64 8] 44)) wz.heap.size #[.int .u64 14, .int .u64 5, .int .u64 10, .int .u64 6, .int .u64 1610612749, .int .u64 7, .int .u64 8] 44 := Blk.new _ _ _
          have hP2 := hP.trans ⟨hP.row.no hkt, hkt.mono (fun _ _ h => h.elim), .inl rfl⟩
          generalize wz.alloc (.cells #[.int .u64 14, .int .u64 5, .int .u64 10, .int .u64 6, .int .u64 1610612749, .int .u64 7, .int .u64 8] 44) = wt at *
          have t0 := hBT.cell 2
          have hsz := hP2.kept.size
          go_wp2_with fail
          have hent := r05entry_any (w := wt) 10 x2 hP2.row (by decide) k2 (by omega) HLEN.out
          refine hent.mono ?_
          rintro e w2 ⟨v2, rfl, hp2⟩
          have hP3 := hP2.trans hp2
          rw [List.append_assoc, HST (show le 8 10 ++ le 8 x2 = entI [x0, x1, x2, x3, x4, x5, x6] 2 from by
            unfold entI
            rw [if_neg (by simp [skipI])]
            rfl)] at hP3
          obtain ⟨a4, n4, c4, rfl⟩ : ∃ a n c, v2 = .slice a n c := by
            obtain ⟨a, c, e, _⟩ := hp2.row.fl.shape
            exact ⟨_, _, _, e⟩
          clear hent hp2 hP2 t0 hBT hkt hsz
          go_wp2_with fail
          go_roundw
          case rel => exact ⟨3, by go_num, by decide, hP3⟩
          case measure => simp [intOf]
        · rw [show (((3 : Nat) : Int)) = 3 from rfl]
          rcases Nat.eq_zero_or_pos x4 with hz | hz
          · have hz2 : ((x4 : Int) == 0) = true := by simp [hz]
            have hP3 : Pushed (w.heap.size + 1) W wz (.slice none 0 0) (.slice a2 n2 c2) (nds ++ (List.range 4).flatMap (entI [x0, x1, x2, x3, x4, x5, x6])) := by
              rw [← HST (T := []) (by
                unfold entI
                rw [if_pos (by simp [skipI, hz])]), List.append_nil]
              exact hP
            go_wp2_with fail
            go_roundw
            case rel => exact ⟨4, by go_num, by decide, hP3⟩
            case measure => simp [intOf]
          · have hz2 : ((x4 : Int) == 0) = false := by rw [beq_eq_false_iff_ne]; omega
            have hz3 : x4 ≠ 0 := by omega
            go_wp2_with fail
            refine r05tags_any.mono ?_
            rintro e wt ⟨rfl, rfl⟩
            have hkt : Keep No wz (wz.alloc (.cells #[.int .u64 14, .int .u64 5, .int .u64 10, .int .u64 6, .int .u64 1610612749, .int .u64 7, .int .u64 8] 44)) := (Keep.refl _ _).alloc _
            have hBT : Blk (wz.alloc (.cells #[.int .u64 14, .int .u64 5, .int .u64 10, .int .u64 6, .int .u64 1610612749, .int .u64 7, .int .u64 8] 44)) wz.heap.size #[.int .u64 14, .int .u64 5, .int .u64 10, .int .u64 6, .int .u64 1610612749, .int .u64 7, .int .u64 8] 44 := Blk.new _ _ _
            have hP2 := hP.trans ⟨hP.row.no hkt, hkt.mono (fun _ _ h => h.elim), .inl rfl⟩
            generalize wz.alloc (.cells #[.int .u64 14, .int .u64 5, .int .u64 10, .int .u64 6, .int .u64 1610612749, .int .u64 7, .int .u64 8] 44) = wt at *
            have t0 := hBT.cell 3
            have hsz := hP2.kept.size
            go_wp2_with fail
            have hent := r05entry_any (w := wt) 6 x3 hP2.row (by decide) k3 (by omega) HLEN.out
            refine hent.mono ?_
            rintro e w2 ⟨v2, rfl, hp2⟩
            have hP3 := hP2.trans hp2
            rw [List.append_assoc, HST (show le 8 6 ++ le 8 x3 = entI [x0, x1, x2, x3, x4, x5, x6] 3 from by
              unfold entI
              rw [if_neg (by simp [skipI, hz3])]
              rfl)] at hP3
            obtain ⟨a4, n4, c4, rfl⟩ : ∃ a n c, v2 = .slice a n c := by
              obtain ⟨a, c, e, _⟩ := hp2.row.fl.shape
              exact ⟨_, _, _, e⟩
            clear hent hp2 hP2 t0 hBT hkt hsz
            go_wp2_with fail
            go_roundw
            case rel => exact ⟨4, by go_num, by decide, hP3⟩
            case measure => simp [intOf]
        · rw [show (((4 : Nat) : Int)) = 4 from rfl]
          rcases Nat.eq_zero_or_pos x4 with hz | hz
          · have hz2 : ((x4 : Int) == 0) = true := by simp [hz]
            have hP3 : Pushed (w.heap.size + 1) W wz (.slice none 0 0) (.slice a2 n2 c2) (nds ++ (List.range 5).flatMap (entI [x0, x1, x2, x3, x4, x5, x6])) := by
              rw [← HST (T := []) (by
                unfold entI
                rw [if_pos (by simp [skipI, hz])]), List.append_nil]
              exact hP
            go_wp2_with fail
            go_roundw
            case rel => exact ⟨5, by go_num, by decide, hP3⟩
            case measure => simp [intOf]
          · have hz2 : ((x4 : Int) == 0) = false := by rw [beq_eq_false_iff_ne]; omega
            have hz3 : x4 ≠ 0 := by omega
            go_wp2_with fail
            refine r05tags_any.mono ?_
            rintro e wt ⟨rfl, rfl⟩
            have hkt : Keep No wz (wz.alloc (.cells #[.int .u64 14, .int .u64 5, .int .u64 10, .int .u64 6, .int .u64 1610612749, .int .u64 7, .int .u64 8] 44)) := (Keep.refl _ _).alloc _
            have hBT : Blk (wz.alloc (.cells #[.int .u64 14, .int .u64 5, .int .u64 10, .int .u64 6, .int .u64 1610612749, .int .u64 7, .int .u64 8] 44)) wz.heap.size #[.int .u64 14, .int .u64 5, .int .u64 10, .int .u64 6, .int .u64 1610612749, .int .u64 7, .int .u64 8] 44 := Blk.new _ _ _
            have hP2 := hP.trans ⟨hP.row.no hkt, hkt.mono (fun _ _ h => h.elim), .inl rfl⟩
            generalize wz.alloc (.cells #[.int .u64 14, .int .u64 5, .int .u64 10, .int .u64 6, .int .u64 1610612749, .int .u64 7, .int .u64 8] 44) = wt at *
            have t0 := hBT.cell 4
            have hsz := hP2.kept.size
            go_wp2_with fail
            have hent := r05entry_any (w := wt) 1610612749 x4 hP2.row (by decide) k4 (by omega) HLEN.out
            refine hent.mono ?_
            rintro e w2 ⟨v2, rfl, hp2⟩
            have hP3 := hP2.trans hp2
            rw [List.append_assoc, HST (show le 8 1610612749 ++ le 8 x4 = entI [x0, x1, x2, x3, x4, x5, x6] 4 from by
              unfold entI
              rw [if_neg (by simp [skipI, hz3])]
              rfl)] at hP3
            obtain ⟨a4, n4, c4, rfl⟩ : ∃ a n c, v2 = .slice a n c := by
              obtain ⟨a, c, e, _⟩ := hp2.row.fl.shape
              exact ⟨_, _, _, e⟩
            clear hent hp2 hP2 t0 hBT hkt hsz
            go_wp2_with fail
            go_roundw
            case rel => exact ⟨5, by go_num, by decide, hP3⟩
            case measure => simp [intOf]
        · rw [show (((5 : Nat) : Int)) = 5 from rfl]
          rcases Nat.eq_zero_or_pos x6 with hz | hz
          · have hz2 : ((x6 : Int) == 0) = true := by simp [hz]
            have hP3 : Pushed (w.heap.size + 1) W wz (.slice none 0 0) (.slice a2 n2 c2) (nds ++ (List.range 6).flatMap (entI [x0, x1, x2, x3, x4, x5, x6])) := by
              rw [← HST (T := []) (by
                unfold entI
                rw [if_pos (by simp [skipI, hz])]), List.append_nil]
              exact hP
            go_wp2_with fail
            go_roundw
            case rel => exact ⟨6, by go_num, by decide, hP3⟩
            case measure => simp [intOf]
          · have hz2 : ((x6 : Int) == 0) = false := by rw [beq_eq_false_iff_ne]; omega
            have hz3 : x6 ≠ 0 := by omega
            go_wp2_with fail
            refine r05tags_any.mono ?_
            rintro e wt ⟨rfl, rfl⟩
            have hkt : Keep No wz (wz.alloc (.cells #[.int .u64 14, .int .u64 5, .int .u64 10, .int .u64 6, .int .u64 1610612749, .int .u64 7, .int .u64 8] 44)) := (Keep.refl _ _).alloc _
            have hBT : Blk (wz.alloc (.cells #[.int .u64 14, .int .u64 5, .int .u64 10, .int .u64 6, .int .u64 1610612749, .int .u64 7, .int .u64 8] 44)) wz.heap.size #[.int .u64 14, .int .u64 5, .int .u64 10, .int .u64 6, .int .u64 1610612749, .int .u64 7, .int .u64 8] 44 := Blk.new _ _ _
            have hP2 := hP.trans ⟨hP.row.no hkt, hkt.mono (fun _ _ h => h.elim), .inl rfl⟩
            generalize wz.alloc (.cells #[.int .u64 14, .int .u64 5, .int .u64 10, .int .u64 6, .int .u64 1610612749, .int .u64 7, .int .u64 8] 44) = wt at *
            have t0 := hBT.cell 5
            have hsz := hP2.kept.size
            go_wp2_with fail
            have hent := r05entry_any (w := wt) 7 x5 hP2.row (by decide) k5 (by omega) HLEN.out
            refine hent.mono ?_
            rintro e w2 ⟨v2, rfl, hp2⟩
            have hP3 := hP2.trans hp2
            rw [List.append_assoc, HST (show le 8 7 ++ le 8 x5 = entI [x0, x1, x2, x3, x4, x5, x6] 5 from by
              unfold entI
              rw [if_neg (by simp [skipI, hz3])]
              rfl)] at hP3
            obtain ⟨a4, n4, c4, rfl⟩ : ∃ a n c, v2 = .slice a n c := by
              obtain ⟨a, c, e, _⟩ := hp2.row.fl.shape
              exact ⟨_, _, _, e⟩
            clear hent hp2 hP2 t0 hBT hkt hsz
            go_wp2_with fail
            go_roundw
            case rel => exact ⟨6, by go_num, by decide, hP3⟩
            case measure => simp [intOf]
        · rw [show (((6 : Nat) : Int)) = 6 from rfl]
          rcases Nat.eq_zero_or_pos x6 with hz | hz
          · have hz2 : ((x6 : Int) == 0) = true := by simp [hz]
            have hP3 : Pushed (w.heap.size + 1) W wz (.slice none 0 0) (.slice a2 n2 c2) (nds ++ (List.range 7).flatMap (entI [x0, x1, x2, x3, x4, x5, x6])) := by
              rw [← HST (T := []) (by
                unfold entI
                rw [if_pos (by simp [skipI, hz])]), List.append_nil]
              exact hP
            go_wp2_with fail
            go_roundw
            case rel => exact ⟨7, by go_num, by decide, hP3⟩
            case measure => simp [intOf]
          · have hz2 : ((x6 : Int) == 0) = false := by rw [beq_eq_false_iff_ne]; omega
            have hz3 : x6 ≠ 0 := by omega
            go_wp2_with fail
            refine r05tags_any.mono ?_
            rintro e wt ⟨rfl, rfl⟩
            have hkt : Keep No wz (wz.alloc (.cells #[.int .u64 14, .int .u64 5, .int .u64 10, .int .u64 6, .int .u64 1610612749, .int .u64 7, .int .u64 8] 44)) := (Keep.refl _ _).alloc _
            have hBT : Blk (wz.alloc (.cells #[.int .u64 14, .int .u64 5, .int .u64 10, .int .u64 6, .int .u64 1610612749, .int .u64 7, .int .u64 8] 44)) wz.heap.size #[.int .u64 14, .int .u64 5, .int .u64 10, .int .u64 6, .int .u64 1610612749, .int .u64 7, .int .u64 8] 44 := Blk.new _ _ _
            have hP2 := hP.trans ⟨hP.row.no hkt, hkt.mono (fun _ _ h => h.elim), .inl rfl⟩
            generalize wz.alloc (.cells #[.int .u64 14, .int .u64 5, .int .u64 10, .int .u64 6, .int .u64 1610612749, .int .u64 7, .int .u64 8] 44) = wt at *
            have t0 := hBT.cell 6
            have hsz := hP2.kept.size
            go_wp2_with fail
            have hent := r05entry_any (w := wt) 8 x6 hP2.row (by decide) k6 (by omega) HLEN.out
            refine hent.mono ?_
            rintro e w2 ⟨v2, rfl, hp2⟩
            have hP3 := hP2.trans hp2
            rw [List.append_assoc, HST (show le 8 8 ++ le 8 x6 = entI [x0, x1, x2, x3, x4, x5, x6] 6 from by
              unfold entI
              rw [if_neg (by simp [skipI, hz3])]
              rfl)] at hP3
            obtain ⟨a4, n4, c4, rfl⟩ : ∃ a n c, v2 = .slice a n c := by
              obtain ⟨a, c, e, _⟩ := hp2.row.fl.shape
              exact ⟨_, _, _, e⟩
            clear hent hp2 hP2 t0 hBT hkt hsz
            go_wp2_with fail
            go_roundw
            case rel => exact ⟨7, by go_num, by decide, hP3⟩
            case measure => simp [intOf]
end
end Go.Proofs.YtbnahidopemkiaaGreat
