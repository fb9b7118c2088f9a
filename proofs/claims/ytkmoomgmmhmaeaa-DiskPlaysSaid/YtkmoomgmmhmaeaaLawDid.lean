/- did: a call, of a disk and its model. No condition. -/
import Derived.Test.YtkmoomgmmhmaeaaRefNmM
import Derived.Test.YtkmoomgmmhmaeaaLawRoom
namespace Go.Proofs.Ytkmoomgmmhmaeaa
open Go.RowKit Go.Dm Go.Dm.Dk

/-- a disk and a disk of the reference, beside one another, in memory made since w0 -/
structure St (w0 w : World) (d : Nat) (m : M) (R U : Nat → Prop) (v1 v2 v3 v4 v5 : Value) (m2 : M) : Prop where
  own : Own (fun k => w0.heap.size ≤ k ∧ ¬ U k) w d m
  ref : DV R w v1 v2 v3 v4 v5 m2
  lt : ∀ k, U k → k < w.heap.size
  sub : ∀ k, R k → U k
  keep : Keep (fun k => w0.heap.size ≤ k) w0 w
def kindOf (kd : Int) : Nat := ([1, 2, 2, 2, 3, 4, 5, 6, 1, 2, 3, 4, 6, 2] : List Nat).getD (mask kd 15) 0
def didM (m : M) (y : ActH.Ty) : M := if mask y.1 15 = 14 then cutD m y.2.2.2.1 else if mask y.1 15 = 15 then Dk.crash m y.2.2.2.2.2.1 else (call m (kindOf y.1) (nm y.2.1) (nm y.2.2.1) y.2.2.2.1 y.2.2.2.2.1).1
def didE (m : M) (y : ActH.Ty) : Nat := if mask y.1 15 = 14 then 0 else if mask y.1 15 = 15 then 0 else (call m (kindOf y.1) (nm y.2.1) (nm y.2.2.1) y.2.2.2.1 y.2.2.2.2.1).2
def DidPost (w0 w : World) (R U : Nat → Prop) (d : Nat) (m m2 : M) (y : ActH.Ty) (e : Ending) (w' : World) : Prop :=
  ∃ R' U' u1 u2 u3 u4 u5, e = .returned (.tuple #[dv (didM m2 y) u1 u2 u3 u4 u5, .bool (didE m y == didE m2 y)]) ∧ St w0 w' d (didM m y) R' U' u1 u2 u3 u4 u5 (didM m2 y) ∧ Keep (fun k => w0.heap.size ≤ k ∧ ¬ U k) w w' ∧ (∀ k, U k → U' k) ∧ ∀ k, R' k → R k ∨ w.heap.size ≤ k

theorem tab_at (r : Nat) (h : r < 14) : (#[.int .i64 1, .int .i64 2, .int .i64 2, .int .i64 2, .int .i64 3, .int .i64 4, .int .i64 5, .int .i64 6, .int .i64 1, .int .i64 2, .int .i64 3, .int .i64 4, .int .i64 6, .int .i64 2] : Array Value)[r]? = some (.int .i64 ((([1, 2, 2, 2, 3, 4, 5, 6, 1, 2, 3, 4, 6, 2] : List Nat).getD r 0 : Nat) : Int)) ∧ 1 ≤ ([1, 2, 2, 2, 3, 4, 5, 6, 1, 2, 3, 4, 6, 2] : List Nat).getD r 0 ∧ ([1, 2, 2, 2, 3, 4, 5, 6, 1, 2, 3, 4, 6, 2] : List Nat).getD r 0 ≤ 6 := by
  match r, h with
  | 0, _ => exact ⟨rfl, by decide, by decide⟩
  | 1, _ => exact ⟨rfl, by decide, by decide⟩
  | 2, _ => exact ⟨rfl, by decide, by decide⟩
  | 3, _ => exact ⟨rfl, by decide, by decide⟩
  | 4, _ => exact ⟨rfl, by decide, by decide⟩
  | 5, _ => exact ⟨rfl, by decide, by decide⟩
  | 6, _ => exact ⟨rfl, by decide, by decide⟩
  | 7, _ => exact ⟨rfl, by decide, by decide⟩
  | 8, _ => exact ⟨rfl, by decide, by decide⟩
  | 9, _ => exact ⟨rfl, by decide, by decide⟩
  | 10, _ => exact ⟨rfl, by decide, by decide⟩
  | 11, _ => exact ⟨rfl, by decide, by decide⟩
  | 12, _ => exact ⟨rfl, by decide, by decide⟩
  | 13, _ => exact ⟨rfl, by decide, by decide⟩

def DP (w0 w : World) (U : Nat → Prop) : Nat → Prop := fun k => w0.heap.size ≤ k ∧ ¬ U k ∧ ¬ (w.heap.size ≤ k ∧ k < w.heap.size + 3)
/-- what holds within the call: the disk, the model, the three boxes -/
structure DI (w0 w X : World) (d : Nat) (m : M) (R U : Nat → Prop) (v1 v2 v3 v4 v5 : Value) (m2 : M) (c1 c2 c3 : Array Value) : Prop where
  own : Own (DP w0 w U) X d m
  ref : DV R X v1 v2 v3 v4 v5 m2
  lt : ∀ k, U k → k < w.heap.size
  sub : ∀ k, R k → U k
  kept : Keep (fun k => w0.heap.size ≤ k ∧ ¬ U k) w X
  keep : Keep (fun k => w0.heap.size ≤ k) w0 X
  sz : w.heap.size + 3 ≤ X.heap.size
  le : w0.heap.size ≤ w.heap.size
  B1 : Blk X w.heap.size c1 47
  B2 : Blk X (w.heap.size + 1) c2 43
  B3 : Blk X (w.heap.size + 2) c3 47
section
variable {w0 w X Y Z : World} {d : Nat} {m m' m2 m2' : M} {R U : Nat → Prop} {v1 v2 v3 v4 v5 u1 u2 u3 u4 u5 : Value} {c1 c2 c3 : Array Value}
theorem DI.hP (h : DI w0 w X d m R U v1 v2 v3 v4 v5 m2 c1 c2 c3) : ∀ k, X.heap.size ≤ k → DP w0 w U k := fun k hk => ⟨by have := h.sz; have := h.le; omega, fun hr => by have := h.lt k hr; have := h.sz; omega, fun hb => by have := h.sz; omega⟩
theorem DI.op (h : DI w0 w X d m R U v1 v2 v3 v4 v5 m2 c1 c2 c3) (ho : Own (DP w0 w U) Y d m') (hk : Keep (DP w0 w U) X Y) : DI w0 w Y d m' R U v1 v2 v3 v4 v5 m2 c1 c2 c3 :=
  ⟨ho, h.ref.keep hk fun j _ ha hs => hs.2.1 (h.sub j ha), h.lt, h.sub, h.kept.trans hk fun j _ hs => ⟨hs.1, hs.2.1⟩, h.keep.trans hk fun j _ hs => hs.1, Nat.le_trans h.sz hk.size, h.le,
    h.B1.keep hk fun hs => hs.2.2 ⟨Nat.le_refl _, by omega⟩, h.B2.keep hk fun hs => hs.2.2 ⟨by omega, by omega⟩, h.B3.keep hk fun hs => hs.2.2 ⟨by omega, by omega⟩⟩
theorem DI.no (h : DI w0 w X d m R U v1 v2 v3 v4 v5 m2 c1 c2 c3) (hk : Keep No X Y) : DI w0 w Y d m R U v1 v2 v3 v4 v5 m2 c1 c2 c3 :=
  h.op (h.own.keep hk fun _ _ h => h) (hk.mono fun _ _ h => h.elim)
theorem DI.done (h : DI w0 w X d m R U v1 v2 v3 v4 v5 m2 c1 c2 c3) (hD : DV (Plus R X Y) Y u1 u2 u3 u4 u5 m2') (hY : Keep No X Y) (hZ : Keep (fun j => w.heap.size ≤ j ∧ j < w.heap.size + 3) Y Z) :
    St w0 Z d m (fun k => Plus R X Y k ∧ k < Y.heap.size) (fun k => Plus U X Y k ∧ k < Y.heap.size) u1 u2 u3 u4 u5 m2' ∧ Keep (fun k => w0.heap.size ≤ k ∧ ¬ U k) w Z ∧ (∀ k, U k → Plus U X Y k ∧ k < Y.heap.size) ∧ ∀ k, Plus R X Y k ∧ k < Y.heap.size → R k ∨ w.heap.size ≤ k := by
  have hs := h.sz
  have hl := h.le
  have hys := hY.size
  have hzs := hZ.size
  refine ⟨⟨?_, ?_, fun k hk => by have := hk.2; omega, fun k hk => ⟨?_, hk.2⟩, ((h.keep.trans' (hY.mono fun _ _ h => h.elim)).trans hZ fun j hj hb => by have := hb.1; show w0.heap.size ≤ j; omega)⟩,
    (h.kept.trans' (hY.mono fun _ _ h => h.elim)).trans hZ fun j hj hb => by have := hb.1; omega, fun k hk => ⟨.inl hk, by have := h.lt k hk; omega⟩, fun k hk => ?_⟩
  · have h1 : DR (fun k => DP w0 w U k ∧ k < X.heap.size) X d m := h.own
    refine (DR.keep (DR.keep h1 (fun k hk => hk.2) hY fun _ _ h => h) (fun k hk => by have := hk.2; omega) hZ fun k hk hb => hk.1.2.2 hb).mono fun k hk ha => ⟨⟨ha.1.1, fun hr => ?_⟩, hk⟩
    rcases hr.1 with hr | hr
    · exact ha.1.2.1 hr
    · have := ha.2; omega
  · refine (hD.mono (B := fun k => Plus R X Y k ∧ k < Y.heap.size) fun j hj ha => ⟨ha, hj⟩).keep hZ fun j _ ha hb => ?_
    rcases ha.1 with hr | hr
    · have := h.lt j (h.sub j hr); omega
    · omega
  · rcases hk.1 with hr | hr
    · exact .inl (h.sub k hr)
    · exact .inr hr
  · rcases hk.1 with hr | hr
    · exact .inl hr
    · exact .inr (by omega)
end

theorem natbeq (a b : Nat) : ((a : Int) == (b : Int)) = (a == b) := by rw [Bool.eq_iff_iff]; simp; omega
theorem rdo_all {A : Nat → Prop} {w : World} {v1 v2 v3 v4 v5 : Value} {m : M} {n N n2 : Nat} (k : Nat) (hk1 : 1 ≤ k) (hk6 : k ≤ 6) (a b : List UInt8) (at_ : Int) (body : List UInt8) (h : DV A w v1 v2 v3 v4 v5 m) (hs : Small m n N) (hf : Files m n2) (hn : n < 100000) (hN : N ≤ 1000000) (hn2 : n2 < 1000000) (hbl : body.length ≤ 1000000) (hat : -9223372036854775808 ≤ at_) :
    Calls Try.prog 62 #[dv m v1 v2 v3 v4 v5, .int .i64 (k : Int), .string ⟨a.toArray⟩, .string ⟨b.toArray⟩, .int .i64 at_, .string ⟨body.toArray⟩] w (RetD2 A w (call m k a b at_ body).1 (.int .i64 ((call m k a b at_ body).2 : Nat))) := by
  cases hoff : m.off with
  | true => exact rdo_off (n := 0) (N := 0) (n2 := 0) k a b at_ body h hoff
  | false =>
    have hq6 : k = 1 ∨ k = 2 ∨ k = 3 ∨ k = 4 ∨ k = 5 ∨ k = 6 := by omega
    rcases hq6 with rfl | rfl | rfl | rfl | rfl | rfl
    · exact rdo1_any a b at_ body h hs hf hn hN hn2 hoff
    · exact rdo2_any a b at_ body h hs hf hn hN hn2 hoff hbl hat hs.rm
    · exact rdo3_any a b at_ body h hs hf hn hN hn2 hoff
    · exact rdo4_any a b at_ body h hs hf hn hN hn2 hoff
    · exact rdo5_any a b at_ body h hs hf hn hN hn2 hoff
    · exact rdo6_any a b at_ body h hs hf hn hN hn2 hoff


set_option maxRecDepth 100000 in
set_option maxHeartbeats 8000000 in
theorem did_any {w0 w : World} {d : Nat} {m m2 : M} {R U : Nat → Prop} {v1 v2 v3 v4 v5 : Value} {n N n2 N2 n3 : Nat} {b1 k1 : Option Addr} {b2 k2 : Nat} (kd ia ib at_ : Int) (body : List UInt8) (keep : List Bool) (h : St w0 w d m R U v1 v2 v3 v4 v5 m2)
    (hs : Small m n N) (hn : n < 100000) (hN : N ≤ 1000000) (hs2 : Small m2 n2 N2) (hf2 : Files m2 n3) (hn2 : n2 < 100000) (hN2 : N2 ≤ 1000000) (hn3 : n3 < 1000000)
    (hvb : Bts (fun k => k < w0.heap.size) w0 (.slice b1 body.length b2) body) (hvk : Bls (fun k => k < w0.heap.size) w0 (.slice k1 keep.length k2) keep) (hlb : body.length ≤ 300) (hat : -9223372036854775808 ≤ at_) :
    Calls Try.prog 24 #[ptrTo d, dv m2 v1 v2 v3 v4 v5, .agg #[.int .i64 kd, .int .i64 ia, .int .i64 ib, .int .i64 at_, .slice b1 body.length b2, .slice k1 keep.length k2]] w (DidPost w0 w R U d m m2 (kd, ia, ib, at_, body, keep, ())) := by
  have hnl := nm_len ia
  have hnl2 := nm_len ib
  obtain ⟨hO, hD, hR, hRU, hK⟩ := h
  obtain ⟨a1, d1, a2, d2, a3, d3, a4, d4, a5, d5, rfl, rfl, rfl, rfl, rfl⟩ := hD.shape
  have er : bits .and .i64 kd 15 = (mask kd 15 : Int) := mask_eq kd 15 (by omega)
  have hr := mask_le kd 15
  unfold dv ptrTo
  go_enter Try.func24, Try.ntmps24
  go_wp2_with (first | (at_builtin; refine wl_append rfl _ _ _ _ rfl _ _ rfl rfl ?_) | (at_make; refine wl_make rfl _ _ _ rfl _ _ rfl rfl ?_) | (at_mapUpdate; refine wl_mapUpdate rfl _ _ _ _ rfl _ _ _ rfl rfl rfl ?_) | (at_lookup; refine wl_lookup rfl _ _ _ _ rfl _ _ rfl rfl ?_) | (at_delete; refine wl_delete rfl _ _ _ _ rfl _ _ rfl rfl ?_) | (with_reducible refine wl_len rfl _ _ rfl _ rfl ?_) | (with_reducible refine wl_range rfl _ _ rfl _ rfl ?_) | (with_reducible refine wl_next rfl _ rfl _ rfl ?_) | (with_reducible refine wl_copy rfl _ _ _ _ rfl _ _ rfl rfl ?_) | (with_reducible refine wl_max rfl _ _ _ _ rfl _ _ rfl rfl ?_) | (with_reducible refine wl_min rfl _ _ _ _ rfl _ _ rfl rfl ?_))
  have hkW1 : Keep No w (w.alloc (.cells #[.int .i64 m2.room, .slice a1 m2.is.length d1, .slice a2 m2.sure.length d2, .slice a3 m2.L.length d3, .slice a4 m2.S.length d4, .slice a5 m2.wait.length d5, .bool m2.off, .int .i64 m2.cut] 47)) := (Keep.refl _ _).alloc _
  have hBW1 : Blk (w.alloc (.cells #[.int .i64 m2.room, .slice a1 m2.is.length d1, .slice a2 m2.sure.length d2, .slice a3 m2.L.length d3, .slice a4 m2.S.length d4, .slice a5 m2.wait.length d5, .bool m2.off, .int .i64 m2.cut] 47)) w.heap.size #[.int .i64 m2.room, .slice a1 m2.is.length d1, .slice a2 m2.sure.length d2, .slice a3 m2.L.length d3, .slice a4 m2.S.length d4, .slice a5 m2.wait.length d5, .bool m2.off, .int .i64 m2.cut] 47 := Blk.new _ _ _
  have hzW1 : (w.alloc (.cells #[.int .i64 m2.room, .slice a1 m2.is.length d1, .slice a2 m2.sure.length d2, .slice a3 m2.L.length d3, .slice a4 m2.S.length d4, .slice a5 m2.wait.length d5, .bool m2.off, .int .i64 m2.cut] 47)).heap.size = w.heap.size + 1 := World.size_alloc _ _
  generalize w.alloc (.cells #[.int .i64 m2.room, .slice a1 m2.is.length d1, .slice a2 m2.sure.length d2, .slice a3 m2.L.length d3, .slice a4 m2.S.length d4, .slice a5 m2.wait.length d5, .bool m2.off, .int .i64 m2.cut] 47) = W1 at *
  have hkW2 : Keep No W1 (W1.alloc (.cells #[.int .i64 kd, .int .i64 ia, .int .i64 ib, .int .i64 at_, .slice b1 body.length b2, .slice k1 keep.length k2] 43)) := (Keep.refl _ _).alloc _
  have hBW2 : Blk (W1.alloc (.cells #[.int .i64 kd, .int .i64 ia, .int .i64 ib, .int .i64 at_, .slice b1 body.length b2, .slice k1 keep.length k2] 43)) W1.heap.size #[.int .i64 kd, .int .i64 ia, .int .i64 ib, .int .i64 at_, .slice b1 body.length b2, .slice k1 keep.length k2] 43 := Blk.new _ _ _
  have hzW2 : (W1.alloc (.cells #[.int .i64 kd, .int .i64 ia, .int .i64 ib, .int .i64 at_, .slice b1 body.length b2, .slice k1 keep.length k2] 43)).heap.size = W1.heap.size + 1 := World.size_alloc _ _
  generalize W1.alloc (.cells #[.int .i64 kd, .int .i64 ia, .int .i64 ib, .int .i64 at_, .slice b1 body.length b2, .slice k1 keep.length k2] 43) = W2 at *
  have hkW : Keep No W2 (W2.alloc (.cells #[.int .i64 0, .slice none 0 0, .slice none 0 0, .slice none 0 0, .slice none 0 0, .slice none 0 0, .bool false, .int .i64 0] 47)) := (Keep.refl _ _).alloc _
  have hBW : Blk (W2.alloc (.cells #[.int .i64 0, .slice none 0 0, .slice none 0 0, .slice none 0 0, .slice none 0 0, .slice none 0 0, .bool false, .int .i64 0] 47)) W2.heap.size #[.int .i64 0, .slice none 0 0, .slice none 0 0, .slice none 0 0, .slice none 0 0, .slice none 0 0, .bool false, .int .i64 0] 47 := Blk.new _ _ _
  have hzW : (W2.alloc (.cells #[.int .i64 0, .slice none 0 0, .slice none 0 0, .slice none 0 0, .slice none 0 0, .slice none 0 0, .bool false, .int .i64 0] 47)).heap.size = W2.heap.size + 1 := World.size_alloc _ _
  generalize W2.alloc (.cells #[.int .i64 0, .slice none 0 0, .slice none 0 0, .slice none 0 0, .slice none 0 0, .slice none 0 0, .bool false, .int .i64 0] 47) = W at *
  rw [hzW1] at hBW2
  rw [hzW2, hzW1] at hBW
  have hkW3 := hkW
  replace hkW := (hkW1.trans' hkW2).trans' hkW
  have hsz : w.heap.size + 3 ≤ W.heap.size := by omega
  have I0 : DI w0 w W d m R U (.slice a1 m2.is.length d1) (.slice a2 m2.sure.length d2) (.slice a3 m2.L.length d3) (.slice a4 m2.S.length d4) (.slice a5 m2.wait.length d5) m2 #[.int .i64 m2.room, .slice a1 m2.is.length d1, .slice a2 m2.sure.length d2, .slice a3 m2.L.length d3, .slice a4 m2.S.length d4, .slice a5 m2.wait.length d5, .bool m2.off, .int .i64 m2.cut] #[.int .i64 kd, .int .i64 ia, .int .i64 ib, .int .i64 at_, .slice b1 body.length b2, .slice k1 keep.length k2] #[.int .i64 0, .slice none 0 0, .slice none 0 0, .slice none 0 0, .slice none 0 0, .slice none 0 0, .bool false, .int .i64 0] :=
    ⟨(DR.keep hO (fun k hk => hk.2) hkW fun _ _ h => h).mono fun k hk ha => ⟨⟨ha.1.1, ha.1.2, fun hb => by have := ha.2; omega⟩, hk⟩, hD.no hkW, hR, hRU, hkW.mono fun _ _ h => h.elim, hK.trans' (hkW.mono fun _ _ h => h.elim), hsz, hK.size,
      (hBW1.keep hkW2 fun h => h).keep (by assumption) fun h => h, hBW2.keep (by assumption) fun h => h, hBW⟩
  have HI0 := Lib.hid I0
  clear hBW hBW1 hBW2 hkW hkW1 hkW2 hkW3 hzW hzW1 hzW2 hsz I0 hO hD hR hRU hK
  clear W1 W2
  have I0 := HI0.out
  clear HI0
  generalize hq : mask kd 15 = r at *
  have HQ := Lib.hid hq
  clear hq
  refine (nm_any ia _).mono ?_
  rintro e X1 ⟨rfl, k1⟩
  have I1 := I0.no k1
  clear I0 k1
  have c2 := I1.B2.cell
  go_wp2_with (first | (at_builtin; refine wl_append rfl _ _ _ _ rfl _ _ rfl rfl ?_) | (at_make; refine wl_make rfl _ _ _ rfl _ _ rfl rfl ?_) | (at_mapUpdate; refine wl_mapUpdate rfl _ _ _ _ rfl _ _ _ rfl rfl rfl ?_) | (at_lookup; refine wl_lookup rfl _ _ _ _ rfl _ _ rfl rfl ?_) | (at_delete; refine wl_delete rfl _ _ _ _ rfl _ _ rfl rfl ?_) | (with_reducible refine wl_len rfl _ _ rfl _ rfl ?_) | (with_reducible refine wl_range rfl _ _ rfl _ rfl ?_) | (with_reducible refine wl_next rfl _ rfl _ rfl ?_) | (with_reducible refine wl_copy rfl _ _ _ _ rfl _ _ rfl rfl ?_) | (with_reducible refine wl_max rfl _ _ _ _ rfl _ _ rfl rfl ?_) | (with_reducible refine wl_min rfl _ _ _ _ rfl _ _ rfl rfl ?_))
  refine (nm_any ib _).mono ?_
  rintro e X2 ⟨rfl, k2⟩
  have I2 := I1.no k2
  clear I1 k2 c2
  have hr3 : r = 14 ∨ r = 15 ∨ r < 14 := by omega
  rcases hr3 with rfl | rfl | hr
  · have hM : ∀ m : M, didM m (kd, ia, ib, at_, body, keep, ()) = cutD m at_ := fun m => by unfold didM; rw [if_pos HQ.out]
    have hE : ∀ m : M, didE m (kd, ia, ib, at_, body, keep, ()) = 0 := fun m => by unfold didE; rw [if_pos HQ.out]
    have HM := Lib.hid hM
    have HE := Lib.hid hE
    clear hM hE
    have c2 := I2.B2.cell
    go_wp2_with (first | (at_builtin; refine wl_append rfl _ _ _ _ rfl _ _ rfl rfl ?_) | (at_make; refine wl_make rfl _ _ _ rfl _ _ rfl rfl ?_) | (at_mapUpdate; refine wl_mapUpdate rfl _ _ _ _ rfl _ _ _ rfl rfl rfl ?_) | (at_lookup; refine wl_lookup rfl _ _ _ _ rfl _ _ rfl rfl ?_) | (at_delete; refine wl_delete rfl _ _ _ _ rfl _ _ rfl rfl ?_) | (with_reducible refine wl_len rfl _ _ rfl _ rfl ?_) | (with_reducible refine wl_range rfl _ _ rfl _ rfl ?_) | (with_reducible refine wl_next rfl _ rfl _ rfl ?_) | (with_reducible refine wl_copy rfl _ _ _ _ rfl _ _ rfl rfl ?_) | (with_reducible refine wl_max rfl _ _ _ _ rfl _ _ rfl rfl ?_) | (with_reducible refine wl_min rfl _ _ _ _ rfl _ _ rfl rfl ?_))
    refine (cut_own at_ I2.own).mono ?_
    rintro e X3 ⟨rfl, hO3, k3⟩
    have I3 := I2.op hO3 k3
    clear I2 hO3 k3 c2
    have c1 := I3.B1.cell
    have c2 := I3.B2.cell
    go_wp2_with (first | (at_builtin; refine wl_append rfl _ _ _ _ rfl _ _ rfl rfl ?_) | (at_make; refine wl_make rfl _ _ _ rfl _ _ rfl rfl ?_) | (at_mapUpdate; refine wl_mapUpdate rfl _ _ _ _ rfl _ _ _ rfl rfl rfl ?_) | (at_lookup; refine wl_lookup rfl _ _ _ _ rfl _ _ rfl rfl ?_) | (at_delete; refine wl_delete rfl _ _ _ _ rfl _ _ rfl rfl ?_) | (with_reducible refine wl_len rfl _ _ rfl _ rfl ?_) | (with_reducible refine wl_range rfl _ _ rfl _ rfl ?_) | (with_reducible refine wl_next rfl _ rfl _ rfl ?_) | (with_reducible refine wl_copy rfl _ _ _ _ rfl _ _ rfl rfl ?_) | (with_reducible refine wl_max rfl _ _ _ _ rfl _ _ rfl rfl ?_) | (with_reducible refine wl_min rfl _ _ _ _ rfl _ _ rfl rfl ?_))
    refine (rcut_any (n := 0) (N := 0) (n2 := 0) at_ I3.ref).mono ?_
    rintro e Y ⟨u1, u2, u3, u4, u5, rfl, hDY, hkY⟩
    obtain ⟨z1, y1, z2, y2, z3, y3, z4, y4, z5, y5, rfl, rfl, rfl, rfl, rfl⟩ := hDY.shape
    have hBY := I3.B3.keep hkY fun h => h
    unfold dv
    go_wp2_with (first | (at_builtin; refine wl_append rfl _ _ _ _ rfl _ _ rfl rfl ?_) | (at_make; refine wl_make rfl _ _ _ rfl _ _ rfl rfl ?_) | (at_mapUpdate; refine wl_mapUpdate rfl _ _ _ _ rfl _ _ _ rfl rfl rfl ?_) | (at_lookup; refine wl_lookup rfl _ _ _ _ rfl _ _ rfl rfl ?_) | (at_delete; refine wl_delete rfl _ _ _ _ rfl _ _ rfl rfl ?_) | (with_reducible refine wl_len rfl _ _ rfl _ rfl ?_) | (with_reducible refine wl_range rfl _ _ rfl _ rfl ?_) | (with_reducible refine wl_next rfl _ rfl _ rfl ?_) | (with_reducible refine wl_copy rfl _ _ _ _ rfl _ _ rfl rfl ?_) | (with_reducible refine wl_max rfl _ _ _ _ rfl _ _ rfl rfl ?_) | (with_reducible refine wl_min rfl _ _ _ _ rfl _ _ rfl rfl ?_) | (with_reducible refine wl_stAgg rfl _ _ _ rfl _ _ rfl rfl ?_))
    refine rg_stAgg hBY (by kernel_rfl) (by rfl) (by simp [Value.oneCell']) ?_
    intro Z hBZ hkZ _
    go_wp2_with (first | (at_builtin; refine wl_append rfl _ _ _ _ rfl _ _ rfl rfl ?_) | (at_make; refine wl_make rfl _ _ _ rfl _ _ rfl rfl ?_) | (at_mapUpdate; refine wl_mapUpdate rfl _ _ _ _ rfl _ _ _ rfl rfl rfl ?_) | (at_lookup; refine wl_lookup rfl _ _ _ _ rfl _ _ rfl rfl ?_) | (at_delete; refine wl_delete rfl _ _ _ _ rfl _ _ rfl rfl ?_) | (with_reducible refine wl_len rfl _ _ rfl _ rfl ?_) | (with_reducible refine wl_range rfl _ _ rfl _ rfl ?_) | (with_reducible refine wl_next rfl _ rfl _ rfl ?_) | (with_reducible refine wl_copy rfl _ _ _ _ rfl _ _ rfl rfl ?_) | (with_reducible refine wl_max rfl _ _ _ _ rfl _ _ rfl rfl ?_) | (with_reducible refine wl_min rfl _ _ _ _ rfl _ _ rfl rfl ?_) | (with_reducible refine wl_stAgg rfl _ _ _ rfl _ _ rfl rfl ?_))
    refine ret_blk_tmp rfl rfl hBZ Try.underlying47 rfl (by kernel_rfl) rfl ?_
    unfold DidPost
    rw [HM.out, HM.out, HE.out, HE.out]
    exact ⟨_, _, _, _, _, _, _, rfl, I3.done hDY hkY (hkZ.mono fun j _ e => ⟨by have e : j = w.heap.size + 2 := e; omega, by have e : j = w.heap.size + 2 := e; omega⟩)⟩
  · have hM : ∀ m : M, didM m (kd, ia, ib, at_, body, keep, ()) = Dk.crash m keep := fun m => by unfold didM; rw [if_neg (by rw [HQ.out]; decide), if_pos HQ.out]
    have hE : ∀ m : M, didE m (kd, ia, ib, at_, body, keep, ()) = 0 := fun m => by unfold didE; rw [if_neg (by rw [HQ.out]; decide), if_pos HQ.out]
    have HM := Lib.hid hM
    have HE := Lib.hid hE
    clear hM hE
    have c2 := I2.B2.cell
    go_wp2_with (first | (at_builtin; refine wl_append rfl _ _ _ _ rfl _ _ rfl rfl ?_) | (at_make; refine wl_make rfl _ _ _ rfl _ _ rfl rfl ?_) | (at_mapUpdate; refine wl_mapUpdate rfl _ _ _ _ rfl _ _ _ rfl rfl rfl ?_) | (at_lookup; refine wl_lookup rfl _ _ _ _ rfl _ _ rfl rfl ?_) | (at_delete; refine wl_delete rfl _ _ _ _ rfl _ _ rfl rfl ?_) | (with_reducible refine wl_len rfl _ _ rfl _ rfl ?_) | (with_reducible refine wl_range rfl _ _ rfl _ rfl ?_) | (with_reducible refine wl_next rfl _ rfl _ rfl ?_) | (with_reducible refine wl_copy rfl _ _ _ _ rfl _ _ rfl rfl ?_) | (with_reducible refine wl_max rfl _ _ _ _ rfl _ _ rfl rfl ?_) | (with_reducible refine wl_min rfl _ _ _ _ rfl _ _ rfl rfl ?_))
    have hvk2 := Sl.keep hvk I2.keep fun j hj _ h => absurd h (Nat.not_le.2 hj)
    refine (crash_own (P := DP w0 w U) keep I2.own (fun k hk => hk) I2.hP hs (by omega) hN hvk2 (fun k hk ha => absurd hk (Nat.not_lt.2 ha.1.1))).mono ?_
    rintro e X3 ⟨rfl, hO3, k3⟩
    have I3 := I2.op hO3 (k3.mono fun k _ hk => hk.1)
    clear I2 hO3 k3 c2 hvk2
    have c1 := I3.B1.cell
    have c2 := I3.B2.cell
    go_wp2_with (first | (at_builtin; refine wl_append rfl _ _ _ _ rfl _ _ rfl rfl ?_) | (at_make; refine wl_make rfl _ _ _ rfl _ _ rfl rfl ?_) | (at_mapUpdate; refine wl_mapUpdate rfl _ _ _ _ rfl _ _ _ rfl rfl rfl ?_) | (at_lookup; refine wl_lookup rfl _ _ _ _ rfl _ _ rfl rfl ?_) | (at_delete; refine wl_delete rfl _ _ _ _ rfl _ _ rfl rfl ?_) | (with_reducible refine wl_len rfl _ _ rfl _ rfl ?_) | (with_reducible refine wl_range rfl _ _ rfl _ rfl ?_) | (with_reducible refine wl_next rfl _ rfl _ rfl ?_) | (with_reducible refine wl_copy rfl _ _ _ _ rfl _ _ rfl rfl ?_) | (with_reducible refine wl_max rfl _ _ _ _ rfl _ _ rfl rfl ?_) | (with_reducible refine wl_min rfl _ _ _ _ rfl _ _ rfl rfl ?_))
    have hvk3 : Fl (fun k => k < w0.heap.size) X3 1 encB (.slice k1 keep.length k2) keep := by
      have := Sl.keep hvk I3.keep fun j hj _ h => absurd h (Nat.not_le.2 hj)
      unfold Fl
      rw [show keep.flatMap encB = keep.map Value.bool from List.map_eq_flatMap.symm]
      exact this
    refine (rcrash_any keep I3.ref hvk3 hs2 hf2 (by omega) hN2 (by omega)).mono ?_
    rintro e Y ⟨u1, u2, u3, u4, u5, rfl, hDY, hkY⟩
    obtain ⟨z1, y1, z2, y2, z3, y3, z4, y4, z5, y5, rfl, rfl, rfl, rfl, rfl⟩ := hDY.shape
    have hBY := I3.B3.keep hkY fun h => h
    unfold dv
    go_wp2_with (first | (at_builtin; refine wl_append rfl _ _ _ _ rfl _ _ rfl rfl ?_) | (at_make; refine wl_make rfl _ _ _ rfl _ _ rfl rfl ?_) | (at_mapUpdate; refine wl_mapUpdate rfl _ _ _ _ rfl _ _ _ rfl rfl rfl ?_) | (at_lookup; refine wl_lookup rfl _ _ _ _ rfl _ _ rfl rfl ?_) | (at_delete; refine wl_delete rfl _ _ _ _ rfl _ _ rfl rfl ?_) | (with_reducible refine wl_len rfl _ _ rfl _ rfl ?_) | (with_reducible refine wl_range rfl _ _ rfl _ rfl ?_) | (with_reducible refine wl_next rfl _ rfl _ rfl ?_) | (with_reducible refine wl_copy rfl _ _ _ _ rfl _ _ rfl rfl ?_) | (with_reducible refine wl_max rfl _ _ _ _ rfl _ _ rfl rfl ?_) | (with_reducible refine wl_min rfl _ _ _ _ rfl _ _ rfl rfl ?_) | (with_reducible refine wl_stAgg rfl _ _ _ rfl _ _ rfl rfl ?_))
    refine rg_stAgg hBY (by kernel_rfl) (by rfl) (by simp [Value.oneCell']) ?_
    intro Z hBZ hkZ _
    go_wp2_with (first | (at_builtin; refine wl_append rfl _ _ _ _ rfl _ _ rfl rfl ?_) | (at_make; refine wl_make rfl _ _ _ rfl _ _ rfl rfl ?_) | (at_mapUpdate; refine wl_mapUpdate rfl _ _ _ _ rfl _ _ _ rfl rfl rfl ?_) | (at_lookup; refine wl_lookup rfl _ _ _ _ rfl _ _ rfl rfl ?_) | (at_delete; refine wl_delete rfl _ _ _ _ rfl _ _ rfl rfl ?_) | (with_reducible refine wl_len rfl _ _ rfl _ rfl ?_) | (with_reducible refine wl_range rfl _ _ rfl _ rfl ?_) | (with_reducible refine wl_next rfl _ rfl _ rfl ?_) | (with_reducible refine wl_copy rfl _ _ _ _ rfl _ _ rfl rfl ?_) | (with_reducible refine wl_max rfl _ _ _ _ rfl _ _ rfl rfl ?_) | (with_reducible refine wl_min rfl _ _ _ _ rfl _ _ rfl rfl ?_) | (with_reducible refine wl_stAgg rfl _ _ _ rfl _ _ rfl rfl ?_))
    refine ret_blk_tmp rfl rfl hBZ Try.underlying47 rfl (by kernel_rfl) rfl ?_
    unfold DidPost
    rw [HM.out, HM.out, HE.out, HE.out]
    exact ⟨_, _, _, _, _, _, _, rfl, I3.done hDY hkY (hkZ.mono fun j _ e => ⟨by have e : j = w.heap.size + 2 := e; omega, by have e : j = w.heap.size + 2 := e; omega⟩)⟩
  · obtain ⟨ht, ht1, ht6⟩ := tab_at r hr
    have ht2 : ∀ hl, ([.int .i64 1, .int .i64 2, .int .i64 2, .int .i64 2, .int .i64 3, .int .i64 4, .int .i64 5, .int .i64 6, .int .i64 1, .int .i64 2, .int .i64 3, .int .i64 4, .int .i64 6, .int .i64 2] : List Value)[r]'hl = .int .i64 ((([1, 2, 2, 2, 3, 4, 5, 6, 1, 2, 3, 4, 6, 2] : List Nat).getD r 0 : Nat) : Int) := fun hl => by
      rw [List.getElem?_toArray, List.getElem?_eq_getElem hl] at ht
      exact Option.some.inj ht
    clear ht
    have hkind : kindOf kd = ([1, 2, 2, 2, 3, 4, 5, 6, 1, 2, 3, 4, 6, 2] : List Nat).getD r 0 := by unfold kindOf; rw [HQ.out]
    generalize ([1, 2, 2, 2, 3, 4, 5, 6, 1, 2, 3, 4, 6, 2] : List Nat).getD r 0 = q at *
    have hM : ∀ m : M, didM m (kd, ia, ib, at_, body, keep, ()) = (call m q (nm ia) (nm ib) at_ body).1 := fun m => by
      unfold didM; rw [if_neg (by rw [HQ.out]; omega), if_neg (by rw [HQ.out]; omega), hkind]
    have hE : ∀ m : M, didE m (kd, ia, ib, at_, body, keep, ()) = (call m q (nm ia) (nm ib) at_ body).2 := fun m => by
      unfold didE; rw [if_neg (by rw [HQ.out]; omega), if_neg (by rw [HQ.out]; omega), hkind]
    have HM := Lib.hid hM
    have HE := Lib.hid hE
    clear hM hE hkind
    have hrz : (r : Int) < 14 := by omega
    have c2 := I2.B2.cell
    have hr14 : ((r : Int) == 14) = false := by simp; omega
    have hr15 : ((r : Int) == 15) = false := by simp; omega
    have hq6 : q = 1 ∨ q = 2 ∨ q = 3 ∨ q = 4 ∨ q = 5 ∨ q = 6 := by omega
    rcases hq6 with rfl | rfl | rfl | rfl | rfl | rfl
    · skip
      have c2b := (I2.no ((Keep.refl No X2).alloc (.cells #[.int .i64 1, .int .i64 2, .int .i64 2, .int .i64 2, .int .i64 3, .int .i64 4, .int .i64 5, .int .i64 6, .int .i64 1, .int .i64 2, .int .i64 3, .int .i64 4, .int .i64 6, .int .i64 2] 3))).B2.cell
      go_wp2_with (first | (at_builtin; refine wl_append rfl _ _ _ _ rfl _ _ rfl rfl ?_) | (at_make; refine wl_make rfl _ _ _ rfl _ _ rfl rfl ?_) | (at_mapUpdate; refine wl_mapUpdate rfl _ _ _ _ rfl _ _ _ rfl rfl rfl ?_) | (at_lookup; refine wl_lookup rfl _ _ _ _ rfl _ _ rfl rfl ?_) | (at_delete; refine wl_delete rfl _ _ _ _ rfl _ _ rfl rfl ?_) | (with_reducible refine wl_len rfl _ _ rfl _ rfl ?_) | (with_reducible refine wl_range rfl _ _ rfl _ rfl ?_) | (with_reducible refine wl_next rfl _ rfl _ rfl ?_) | (with_reducible refine wl_copy rfl _ _ _ _ rfl _ _ rfl rfl ?_) | (with_reducible refine wl_max rfl _ _ _ _ rfl _ _ rfl rfl ?_) | (with_reducible refine wl_min rfl _ _ _ _ rfl _ _ rfl rfl ?_))
      have I3 := I2.no ((Keep.refl No X2).alloc (.cells #[.int .i64 1, .int .i64 2, .int .i64 2, .int .i64 2, .int .i64 3, .int .i64 4, .int .i64 5, .int .i64 6, .int .i64 1, .int .i64 2, .int .i64 3, .int .i64 4, .int .i64 6, .int .i64 2] 3))
      generalize X2.alloc (.cells #[.int .i64 1, .int .i64 2, .int .i64 2, .int .i64 2, .int .i64 3, .int .i64 4, .int .i64 5, .int .i64 6, .int .i64 1, .int .i64 2, .int .i64 3, .int .i64 4, .int .i64 6, .int .i64 2] 3) = X3 at *
      clear I2 c2 c2b ht2
      refine (create_own (nm ia) I3.own I3.hP hs (by omega) hN (by omega)).mono ?_
      rintro e X4 ⟨rfl, hO4, k4⟩
      have I4 := I3.op hO4 k4
      clear I3 hO4 k4
      have c1 := I4.B1.cell
      have f1 := I4.B1.frozen
      have c2 := I4.B2.cell
      have hcv := conv_str (Sl.keep hvb I4.keep fun j hj _ h => absurd h (Nat.not_le.2 hj))
      go_wp2_with (first | (at_builtin; refine wl_append rfl _ _ _ _ rfl _ _ rfl rfl ?_) | (at_make; refine wl_make rfl _ _ _ rfl _ _ rfl rfl ?_) | (at_mapUpdate; refine wl_mapUpdate rfl _ _ _ _ rfl _ _ _ rfl rfl rfl ?_) | (at_lookup; refine wl_lookup rfl _ _ _ _ rfl _ _ rfl rfl ?_) | (at_delete; refine wl_delete rfl _ _ _ _ rfl _ _ rfl rfl ?_) | (with_reducible refine wl_len rfl _ _ rfl _ rfl ?_) | (with_reducible refine wl_range rfl _ _ rfl _ rfl ?_) | (with_reducible refine wl_next rfl _ rfl _ rfl ?_) | (with_reducible refine wl_copy rfl _ _ _ _ rfl _ _ rfl rfl ?_) | (with_reducible refine wl_max rfl _ _ _ _ rfl _ _ rfl rfl ?_) | (with_reducible refine wl_min rfl _ _ _ _ rfl _ _ rfl rfl ?_))
      refine (rdo_all 1 (by decide) (by decide) (nm ia) (nm ib) at_ body I4.ref hs2 hf2 hn2 hN2 hn3 (by omega) hat).mono ?_
      rintro e Y ⟨u1, u2, u3, u4, u5, rfl, hDY, hkY⟩
      obtain ⟨z1, y1, z2, y2, z3, y3, z4, y4, z5, y5, rfl, rfl, rfl, rfl, rfl⟩ := hDY.shape
      have hBY := I4.B3.keep hkY fun h => h
      clear c1 f1 c2 hcv
      unfold dv
      go_wp2_with (first | (at_builtin; refine wl_append rfl _ _ _ _ rfl _ _ rfl rfl ?_) | (at_make; refine wl_make rfl _ _ _ rfl _ _ rfl rfl ?_) | (at_mapUpdate; refine wl_mapUpdate rfl _ _ _ _ rfl _ _ _ rfl rfl rfl ?_) | (at_lookup; refine wl_lookup rfl _ _ _ _ rfl _ _ rfl rfl ?_) | (at_delete; refine wl_delete rfl _ _ _ _ rfl _ _ rfl rfl ?_) | (with_reducible refine wl_len rfl _ _ rfl _ rfl ?_) | (with_reducible refine wl_range rfl _ _ rfl _ rfl ?_) | (with_reducible refine wl_next rfl _ rfl _ rfl ?_) | (with_reducible refine wl_copy rfl _ _ _ _ rfl _ _ rfl rfl ?_) | (with_reducible refine wl_max rfl _ _ _ _ rfl _ _ rfl rfl ?_) | (with_reducible refine wl_min rfl _ _ _ _ rfl _ _ rfl rfl ?_) | (with_reducible refine wl_stAgg rfl _ _ _ rfl _ _ rfl rfl ?_))
      refine rg_stAgg (I4.B1.keep hkY fun h => h) (by kernel_rfl) (by rfl) (by simp [Value.oneCell']) ?_
      intro Y2 hB2 hk2 _
      have hBY2 := hBY.keep hk2 fun e => by have e : w.heap.size + 2 = w.heap.size := e; omega
      have c1 := hB2.cell
      go_wp2_with (first | (at_builtin; refine wl_append rfl _ _ _ _ rfl _ _ rfl rfl ?_) | (at_make; refine wl_make rfl _ _ _ rfl _ _ rfl rfl ?_) | (at_mapUpdate; refine wl_mapUpdate rfl _ _ _ _ rfl _ _ _ rfl rfl rfl ?_) | (at_lookup; refine wl_lookup rfl _ _ _ _ rfl _ _ rfl rfl ?_) | (at_delete; refine wl_delete rfl _ _ _ _ rfl _ _ rfl rfl ?_) | (with_reducible refine wl_len rfl _ _ rfl _ rfl ?_) | (with_reducible refine wl_range rfl _ _ rfl _ rfl ?_) | (with_reducible refine wl_next rfl _ rfl _ rfl ?_) | (with_reducible refine wl_copy rfl _ _ _ _ rfl _ _ rfl rfl ?_) | (with_reducible refine wl_max rfl _ _ _ _ rfl _ _ rfl rfl ?_) | (with_reducible refine wl_min rfl _ _ _ _ rfl _ _ rfl rfl ?_) | (with_reducible refine wl_stAgg rfl _ _ _ rfl _ _ rfl rfl ?_))
      refine rg_stAgg hBY2 (by kernel_rfl) (by rfl) (by simp [Value.oneCell']) ?_
      intro Z hBZ hkZ _
      go_wp2_with (first | (at_builtin; refine wl_append rfl _ _ _ _ rfl _ _ rfl rfl ?_) | (at_make; refine wl_make rfl _ _ _ rfl _ _ rfl rfl ?_) | (at_mapUpdate; refine wl_mapUpdate rfl _ _ _ _ rfl _ _ _ rfl rfl rfl ?_) | (at_lookup; refine wl_lookup rfl _ _ _ _ rfl _ _ rfl rfl ?_) | (at_delete; refine wl_delete rfl _ _ _ _ rfl _ _ rfl rfl ?_) | (with_reducible refine wl_len rfl _ _ rfl _ rfl ?_) | (with_reducible refine wl_range rfl _ _ rfl _ rfl ?_) | (with_reducible refine wl_next rfl _ rfl _ rfl ?_) | (with_reducible refine wl_copy rfl _ _ _ _ rfl _ _ rfl rfl ?_) | (with_reducible refine wl_max rfl _ _ _ _ rfl _ _ rfl rfl ?_) | (with_reducible refine wl_min rfl _ _ _ _ rfl _ _ rfl rfl ?_) | (with_reducible refine wl_stAgg rfl _ _ _ rfl _ _ rfl rfl ?_))
      refine ret_blk_tmp rfl rfl hBZ Try.underlying47 rfl (by kernel_rfl) rfl ?_
      unfold DidPost
      rw [HM.out, HM.out, HE.out, HE.out, ← natbeq]
      exact ⟨_, _, _, _, _, _, _, rfl, I4.done hDY hkY ((hk2.mono fun j _ e => ⟨by have e : j = w.heap.size := e; omega, by have e : j = w.heap.size := e; omega⟩).trans hkZ fun j _ e => ⟨by have e : j = w.heap.size + 2 := e; omega, by have e : j = w.heap.size + 2 := e; omega⟩)⟩
    · skip
      have c2b := (I2.no ((Keep.refl No X2).alloc (.cells #[.int .i64 1, .int .i64 2, .int .i64 2, .int .i64 2, .int .i64 3, .int .i64 4, .int .i64 5, .int .i64 6, .int .i64 1, .int .i64 2, .int .i64 3, .int .i64 4, .int .i64 6, .int .i64 2] 3))).B2.cell
      go_wp2_with (first | (at_builtin; refine wl_append rfl _ _ _ _ rfl _ _ rfl rfl ?_) | (at_make; refine wl_make rfl _ _ _ rfl _ _ rfl rfl ?_) | (at_mapUpdate; refine wl_mapUpdate rfl _ _ _ _ rfl _ _ _ rfl rfl rfl ?_) | (at_lookup; refine wl_lookup rfl _ _ _ _ rfl _ _ rfl rfl ?_) | (at_delete; refine wl_delete rfl _ _ _ _ rfl _ _ rfl rfl ?_) | (with_reducible refine wl_len rfl _ _ rfl _ rfl ?_) | (with_reducible refine wl_range rfl _ _ rfl _ rfl ?_) | (with_reducible refine wl_next rfl _ rfl _ rfl ?_) | (with_reducible refine wl_copy rfl _ _ _ _ rfl _ _ rfl rfl ?_) | (with_reducible refine wl_max rfl _ _ _ _ rfl _ _ rfl rfl ?_) | (with_reducible refine wl_min rfl _ _ _ _ rfl _ _ rfl rfl ?_))
      have I3 := I2.no ((Keep.refl No X2).alloc (.cells #[.int .i64 1, .int .i64 2, .int .i64 2, .int .i64 2, .int .i64 3, .int .i64 4, .int .i64 5, .int .i64 6, .int .i64 1, .int .i64 2, .int .i64 3, .int .i64 4, .int .i64 6, .int .i64 2] 3))
      generalize X2.alloc (.cells #[.int .i64 1, .int .i64 2, .int .i64 2, .int .i64 2, .int .i64 3, .int .i64 4, .int .i64 5, .int .i64 6, .int .i64 1, .int .i64 2, .int .i64 3, .int .i64 4, .int .i64 6, .int .i64 2] 3) = X3 at *
      clear I2 c2 c2b ht2
      refine (write_own (P := DP w0 w U) (nm ia) body at_ I3.own (fun k hk => hk) I3.hP hs (by omega) hN (by omega) (by omega) (Sl.keep hvb I3.keep fun j hj _ h => absurd h (Nat.not_le.2 hj)) (fun k hk ha => absurd hk (Nat.not_lt.2 ha.1.1))).mono ?_
      rintro e X4 ⟨rfl, hO4, k4⟩
      have I4 := I3.op hO4 (k4.mono fun k _ hk => hk.1)
      clear I3 hO4 k4
      have c1 := I4.B1.cell
      have f1 := I4.B1.frozen
      have c2 := I4.B2.cell
      have hcv := conv_str (Sl.keep hvb I4.keep fun j hj _ h => absurd h (Nat.not_le.2 hj))
      go_wp2_with (first | (at_builtin; refine wl_append rfl _ _ _ _ rfl _ _ rfl rfl ?_) | (at_make; refine wl_make rfl _ _ _ rfl _ _ rfl rfl ?_) | (at_mapUpdate; refine wl_mapUpdate rfl _ _ _ _ rfl _ _ _ rfl rfl rfl ?_) | (at_lookup; refine wl_lookup rfl _ _ _ _ rfl _ _ rfl rfl ?_) | (at_delete; refine wl_delete rfl _ _ _ _ rfl _ _ rfl rfl ?_) | (with_reducible refine wl_len rfl _ _ rfl _ rfl ?_) | (with_reducible refine wl_range rfl _ _ rfl _ rfl ?_) | (with_reducible refine wl_next rfl _ rfl _ rfl ?_) | (with_reducible refine wl_copy rfl _ _ _ _ rfl _ _ rfl rfl ?_) | (with_reducible refine wl_max rfl _ _ _ _ rfl _ _ rfl rfl ?_) | (with_reducible refine wl_min rfl _ _ _ _ rfl _ _ rfl rfl ?_))
      refine (rdo_all 2 (by decide) (by decide) (nm ia) (nm ib) at_ body I4.ref hs2 hf2 hn2 hN2 hn3 (by omega) hat).mono ?_
      rintro e Y ⟨u1, u2, u3, u4, u5, rfl, hDY, hkY⟩
      obtain ⟨z1, y1, z2, y2, z3, y3, z4, y4, z5, y5, rfl, rfl, rfl, rfl, rfl⟩ := hDY.shape
      have hBY := I4.B3.keep hkY fun h => h
      clear c1 f1 c2 hcv
      unfold dv
      go_wp2_with (first | (at_builtin; refine wl_append rfl _ _ _ _ rfl _ _ rfl rfl ?_) | (at_make; refine wl_make rfl _ _ _ rfl _ _ rfl rfl ?_) | (at_mapUpdate; refine wl_mapUpdate rfl _ _ _ _ rfl _ _ _ rfl rfl rfl ?_) | (at_lookup; refine wl_lookup rfl _ _ _ _ rfl _ _ rfl rfl ?_) | (at_delete; refine wl_delete rfl _ _ _ _ rfl _ _ rfl rfl ?_) | (with_reducible refine wl_len rfl _ _ rfl _ rfl ?_) | (with_reducible refine wl_range rfl _ _ rfl _ rfl ?_) | (with_reducible refine wl_next rfl _ rfl _ rfl ?_) | (with_reducible refine wl_copy rfl _ _ _ _ rfl _ _ rfl rfl ?_) | (with_reducible refine wl_max rfl _ _ _ _ rfl _ _ rfl rfl ?_) | (with_reducible refine wl_min rfl _ _ _ _ rfl _ _ rfl rfl ?_) | (with_reducible refine wl_stAgg rfl _ _ _ rfl _ _ rfl rfl ?_))
      refine rg_stAgg (I4.B1.keep hkY fun h => h) (by kernel_rfl) (by rfl) (by simp [Value.oneCell']) ?_
      intro Y2 hB2 hk2 _
      have hBY2 := hBY.keep hk2 fun e => by have e : w.heap.size + 2 = w.heap.size := e; omega
      have c1 := hB2.cell
      go_wp2_with (first | (at_builtin; refine wl_append rfl _ _ _ _ rfl _ _ rfl rfl ?_) | (at_make; refine wl_make rfl _ _ _ rfl _ _ rfl rfl ?_) | (at_mapUpdate; refine wl_mapUpdate rfl _ _ _ _ rfl _ _ _ rfl rfl rfl ?_) | (at_lookup; refine wl_lookup rfl _ _ _ _ rfl _ _ rfl rfl ?_) | (at_delete; refine wl_delete rfl _ _ _ _ rfl _ _ rfl rfl ?_) | (with_reducible refine wl_len rfl _ _ rfl _ rfl ?_) | (with_reducible refine wl_range rfl _ _ rfl _ rfl ?_) | (with_reducible refine wl_next rfl _ rfl _ rfl ?_) | (with_reducible refine wl_copy rfl _ _ _ _ rfl _ _ rfl rfl ?_) | (with_reducible refine wl_max rfl _ _ _ _ rfl _ _ rfl rfl ?_) | (with_reducible refine wl_min rfl _ _ _ _ rfl _ _ rfl rfl ?_) | (with_reducible refine wl_stAgg rfl _ _ _ rfl _ _ rfl rfl ?_))
      refine rg_stAgg hBY2 (by kernel_rfl) (by rfl) (by simp [Value.oneCell']) ?_
      intro Z hBZ hkZ _
      go_wp2_with (first | (at_builtin; refine wl_append rfl _ _ _ _ rfl _ _ rfl rfl ?_) | (at_make; refine wl_make rfl _ _ _ rfl _ _ rfl rfl ?_) | (at_mapUpdate; refine wl_mapUpdate rfl _ _ _ _ rfl _ _ _ rfl rfl rfl ?_) | (at_lookup; refine wl_lookup rfl _ _ _ _ rfl _ _ rfl rfl ?_) | (at_delete; refine wl_delete rfl _ _ _ _ rfl _ _ rfl rfl ?_) | (with_reducible refine wl_len rfl _ _ rfl _ rfl ?_) | (with_reducible refine wl_range rfl _ _ rfl _ rfl ?_) | (with_reducible refine wl_next rfl _ rfl _ rfl ?_) | (with_reducible refine wl_copy rfl _ _ _ _ rfl _ _ rfl rfl ?_) | (with_reducible refine wl_max rfl _ _ _ _ rfl _ _ rfl rfl ?_) | (with_reducible refine wl_min rfl _ _ _ _ rfl _ _ rfl rfl ?_) | (with_reducible refine wl_stAgg rfl _ _ _ rfl _ _ rfl rfl ?_))
      refine ret_blk_tmp rfl rfl hBZ Try.underlying47 rfl (by kernel_rfl) rfl ?_
      unfold DidPost
      rw [HM.out, HM.out, HE.out, HE.out, ← natbeq]
      exact ⟨_, _, _, _, _, _, _, rfl, I4.done hDY hkY ((hk2.mono fun j _ e => ⟨by have e : j = w.heap.size := e; omega, by have e : j = w.heap.size := e; omega⟩).trans hkZ fun j _ e => ⟨by have e : j = w.heap.size + 2 := e; omega, by have e : j = w.heap.size + 2 := e; omega⟩)⟩
    · skip
      have c2b := (I2.no ((Keep.refl No X2).alloc (.cells #[.int .i64 1, .int .i64 2, .int .i64 2, .int .i64 2, .int .i64 3, .int .i64 4, .int .i64 5, .int .i64 6, .int .i64 1, .int .i64 2, .int .i64 3, .int .i64 4, .int .i64 6, .int .i64 2] 3))).B2.cell
      go_wp2_with (first | (at_builtin; refine wl_append rfl _ _ _ _ rfl _ _ rfl rfl ?_) | (at_make; refine wl_make rfl _ _ _ rfl _ _ rfl rfl ?_) | (at_mapUpdate; refine wl_mapUpdate rfl _ _ _ _ rfl _ _ _ rfl rfl rfl ?_) | (at_lookup; refine wl_lookup rfl _ _ _ _ rfl _ _ rfl rfl ?_) | (at_delete; refine wl_delete rfl _ _ _ _ rfl _ _ rfl rfl ?_) | (with_reducible refine wl_len rfl _ _ rfl _ rfl ?_) | (with_reducible refine wl_range rfl _ _ rfl _ rfl ?_) | (with_reducible refine wl_next rfl _ rfl _ rfl ?_) | (with_reducible refine wl_copy rfl _ _ _ _ rfl _ _ rfl rfl ?_) | (with_reducible refine wl_max rfl _ _ _ _ rfl _ _ rfl rfl ?_) | (with_reducible refine wl_min rfl _ _ _ _ rfl _ _ rfl rfl ?_))
      have I3 := I2.no ((Keep.refl No X2).alloc (.cells #[.int .i64 1, .int .i64 2, .int .i64 2, .int .i64 2, .int .i64 3, .int .i64 4, .int .i64 5, .int .i64 6, .int .i64 1, .int .i64 2, .int .i64 3, .int .i64 4, .int .i64 6, .int .i64 2] 3))
      generalize X2.alloc (.cells #[.int .i64 1, .int .i64 2, .int .i64 2, .int .i64 2, .int .i64 3, .int .i64 4, .int .i64 5, .int .i64 6, .int .i64 1, .int .i64 2, .int .i64 3, .int .i64 4, .int .i64 6, .int .i64 2] 3) = X3 at *
      clear I2 c2 c2b ht2
      refine (sync_own (nm ia) I3.own I3.hP hs (by omega) hN (by omega)).mono ?_
      rintro e X4 ⟨rfl, hO4, k4⟩
      have I4 := I3.op hO4 k4
      clear I3 hO4 k4
      have c1 := I4.B1.cell
      have f1 := I4.B1.frozen
      have c2 := I4.B2.cell
      have hcv := conv_str (Sl.keep hvb I4.keep fun j hj _ h => absurd h (Nat.not_le.2 hj))
      go_wp2_with (first | (at_builtin; refine wl_append rfl _ _ _ _ rfl _ _ rfl rfl ?_) | (at_make; refine wl_make rfl _ _ _ rfl _ _ rfl rfl ?_) | (at_mapUpdate; refine wl_mapUpdate rfl _ _ _ _ rfl _ _ _ rfl rfl rfl ?_) | (at_lookup; refine wl_lookup rfl _ _ _ _ rfl _ _ rfl rfl ?_) | (at_delete; refine wl_delete rfl _ _ _ _ rfl _ _ rfl rfl ?_) | (with_reducible refine wl_len rfl _ _ rfl _ rfl ?_) | (with_reducible refine wl_range rfl _ _ rfl _ rfl ?_) | (with_reducible refine wl_next rfl _ rfl _ rfl ?_) | (with_reducible refine wl_copy rfl _ _ _ _ rfl _ _ rfl rfl ?_) | (with_reducible refine wl_max rfl _ _ _ _ rfl _ _ rfl rfl ?_) | (with_reducible refine wl_min rfl _ _ _ _ rfl _ _ rfl rfl ?_))
      refine (rdo_all 3 (by decide) (by decide) (nm ia) (nm ib) at_ body I4.ref hs2 hf2 hn2 hN2 hn3 (by omega) hat).mono ?_
      rintro e Y ⟨u1, u2, u3, u4, u5, rfl, hDY, hkY⟩
      obtain ⟨z1, y1, z2, y2, z3, y3, z4, y4, z5, y5, rfl, rfl, rfl, rfl, rfl⟩ := hDY.shape
      have hBY := I4.B3.keep hkY fun h => h
      clear c1 f1 c2 hcv
      unfold dv
      go_wp2_with (first | (at_builtin; refine wl_append rfl _ _ _ _ rfl _ _ rfl rfl ?_) | (at_make; refine wl_make rfl _ _ _ rfl _ _ rfl rfl ?_) | (at_mapUpdate; refine wl_mapUpdate rfl _ _ _ _ rfl _ _ _ rfl rfl rfl ?_) | (at_lookup; refine wl_lookup rfl _ _ _ _ rfl _ _ rfl rfl ?_) | (at_delete; refine wl_delete rfl _ _ _ _ rfl _ _ rfl rfl ?_) | (with_reducible refine wl_len rfl _ _ rfl _ rfl ?_) | (with_reducible refine wl_range rfl _ _ rfl _ rfl ?_) | (with_reducible refine wl_next rfl _ rfl _ rfl ?_) | (with_reducible refine wl_copy rfl _ _ _ _ rfl _ _ rfl rfl ?_) | (with_reducible refine wl_max rfl _ _ _ _ rfl _ _ rfl rfl ?_) | (with_reducible refine wl_min rfl _ _ _ _ rfl _ _ rfl rfl ?_) | (with_reducible refine wl_stAgg rfl _ _ _ rfl _ _ rfl rfl ?_))
      refine rg_stAgg (I4.B1.keep hkY fun h => h) (by kernel_rfl) (by rfl) (by simp [Value.oneCell']) ?_
      intro Y2 hB2 hk2 _
      have hBY2 := hBY.keep hk2 fun e => by have e : w.heap.size + 2 = w.heap.size := e; omega
      have c1 := hB2.cell
      go_wp2_with (first | (at_builtin; refine wl_append rfl _ _ _ _ rfl _ _ rfl rfl ?_) | (at_make; refine wl_make rfl _ _ _ rfl _ _ rfl rfl ?_) | (at_mapUpdate; refine wl_mapUpdate rfl _ _ _ _ rfl _ _ _ rfl rfl rfl ?_) | (at_lookup; refine wl_lookup rfl _ _ _ _ rfl _ _ rfl rfl ?_) | (at_delete; refine wl_delete rfl _ _ _ _ rfl _ _ rfl rfl ?_) | (with_reducible refine wl_len rfl _ _ rfl _ rfl ?_) | (with_reducible refine wl_range rfl _ _ rfl _ rfl ?_) | (with_reducible refine wl_next rfl _ rfl _ rfl ?_) | (with_reducible refine wl_copy rfl _ _ _ _ rfl _ _ rfl rfl ?_) | (with_reducible refine wl_max rfl _ _ _ _ rfl _ _ rfl rfl ?_) | (with_reducible refine wl_min rfl _ _ _ _ rfl _ _ rfl rfl ?_) | (with_reducible refine wl_stAgg rfl _ _ _ rfl _ _ rfl rfl ?_))
      refine rg_stAgg hBY2 (by kernel_rfl) (by rfl) (by simp [Value.oneCell']) ?_
      intro Z hBZ hkZ _
      go_wp2_with (first | (at_builtin; refine wl_append rfl _ _ _ _ rfl _ _ rfl rfl ?_) | (at_make; refine wl_make rfl _ _ _ rfl _ _ rfl rfl ?_) | (at_mapUpdate; refine wl_mapUpdate rfl _ _ _ _ rfl _ _ _ rfl rfl rfl ?_) | (at_lookup; refine wl_lookup rfl _ _ _ _ rfl _ _ rfl rfl ?_) | (at_delete; refine wl_delete rfl _ _ _ _ rfl _ _ rfl rfl ?_) | (with_reducible refine wl_len rfl _ _ rfl _ rfl ?_) | (with_reducible refine wl_range rfl _ _ rfl _ rfl ?_) | (with_reducible refine wl_next rfl _ rfl _ rfl ?_) | (with_reducible refine wl_copy rfl _ _ _ _ rfl _ _ rfl rfl ?_) | (with_reducible refine wl_max rfl _ _ _ _ rfl _ _ rfl rfl ?_) | (with_reducible refine wl_min rfl _ _ _ _ rfl _ _ rfl rfl ?_) | (with_reducible refine wl_stAgg rfl _ _ _ rfl _ _ rfl rfl ?_))
      refine ret_blk_tmp rfl rfl hBZ Try.underlying47 rfl (by kernel_rfl) rfl ?_
      unfold DidPost
      rw [HM.out, HM.out, HE.out, HE.out, ← natbeq]
      exact ⟨_, _, _, _, _, _, _, rfl, I4.done hDY hkY ((hk2.mono fun j _ e => ⟨by have e : j = w.heap.size := e; omega, by have e : j = w.heap.size := e; omega⟩).trans hkZ fun j _ e => ⟨by have e : j = w.heap.size + 2 := e; omega, by have e : j = w.heap.size + 2 := e; omega⟩)⟩
    · skip
      have c2b := (I2.no ((Keep.refl No X2).alloc (.cells #[.int .i64 1, .int .i64 2, .int .i64 2, .int .i64 2, .int .i64 3, .int .i64 4, .int .i64 5, .int .i64 6, .int .i64 1, .int .i64 2, .int .i64 3, .int .i64 4, .int .i64 6, .int .i64 2] 3))).B2.cell
      go_wp2_with (first | (at_builtin; refine wl_append rfl _ _ _ _ rfl _ _ rfl rfl ?_) | (at_make; refine wl_make rfl _ _ _ rfl _ _ rfl rfl ?_) | (at_mapUpdate; refine wl_mapUpdate rfl _ _ _ _ rfl _ _ _ rfl rfl rfl ?_) | (at_lookup; refine wl_lookup rfl _ _ _ _ rfl _ _ rfl rfl ?_) | (at_delete; refine wl_delete rfl _ _ _ _ rfl _ _ rfl rfl ?_) | (with_reducible refine wl_len rfl _ _ rfl _ rfl ?_) | (with_reducible refine wl_range rfl _ _ rfl _ rfl ?_) | (with_reducible refine wl_next rfl _ rfl _ rfl ?_) | (with_reducible refine wl_copy rfl _ _ _ _ rfl _ _ rfl rfl ?_) | (with_reducible refine wl_max rfl _ _ _ _ rfl _ _ rfl rfl ?_) | (with_reducible refine wl_min rfl _ _ _ _ rfl _ _ rfl rfl ?_))
      have I3 := I2.no ((Keep.refl No X2).alloc (.cells #[.int .i64 1, .int .i64 2, .int .i64 2, .int .i64 2, .int .i64 3, .int .i64 4, .int .i64 5, .int .i64 6, .int .i64 1, .int .i64 2, .int .i64 3, .int .i64 4, .int .i64 6, .int .i64 2] 3))
      generalize X2.alloc (.cells #[.int .i64 1, .int .i64 2, .int .i64 2, .int .i64 2, .int .i64 3, .int .i64 4, .int .i64 5, .int .i64 6, .int .i64 1, .int .i64 2, .int .i64 3, .int .i64 4, .int .i64 6, .int .i64 2] 3) = X3 at *
      clear I2 c2 c2b ht2
      refine (rename_own (nm ia) (nm ib) I3.own I3.hP hs (by omega) hN (by omega) (by omega)).mono ?_
      rintro e X4 ⟨rfl, hO4, k4⟩
      have I4 := I3.op hO4 k4
      clear I3 hO4 k4
      have c1 := I4.B1.cell
      have f1 := I4.B1.frozen
      have c2 := I4.B2.cell
      have hcv := conv_str (Sl.keep hvb I4.keep fun j hj _ h => absurd h (Nat.not_le.2 hj))
      go_wp2_with (first | (at_builtin; refine wl_append rfl _ _ _ _ rfl _ _ rfl rfl ?_) | (at_make; refine wl_make rfl _ _ _ rfl _ _ rfl rfl ?_) | (at_mapUpdate; refine wl_mapUpdate rfl _ _ _ _ rfl _ _ _ rfl rfl rfl ?_) | (at_lookup; refine wl_lookup rfl _ _ _ _ rfl _ _ rfl rfl ?_) | (at_delete; refine wl_delete rfl _ _ _ _ rfl _ _ rfl rfl ?_) | (with_reducible refine wl_len rfl _ _ rfl _ rfl ?_) | (with_reducible refine wl_range rfl _ _ rfl _ rfl ?_) | (with_reducible refine wl_next rfl _ rfl _ rfl ?_) | (with_reducible refine wl_copy rfl _ _ _ _ rfl _ _ rfl rfl ?_) | (with_reducible refine wl_max rfl _ _ _ _ rfl _ _ rfl rfl ?_) | (with_reducible refine wl_min rfl _ _ _ _ rfl _ _ rfl rfl ?_))
      refine (rdo_all 4 (by decide) (by decide) (nm ia) (nm ib) at_ body I4.ref hs2 hf2 hn2 hN2 hn3 (by omega) hat).mono ?_
      rintro e Y ⟨u1, u2, u3, u4, u5, rfl, hDY, hkY⟩
      obtain ⟨z1, y1, z2, y2, z3, y3, z4, y4, z5, y5, rfl, rfl, rfl, rfl, rfl⟩ := hDY.shape
      have hBY := I4.B3.keep hkY fun h => h
      clear c1 f1 c2 hcv
      unfold dv
      go_wp2_with (first | (at_builtin; refine wl_append rfl _ _ _ _ rfl _ _ rfl rfl ?_) | (at_make; refine wl_make rfl _ _ _ rfl _ _ rfl rfl ?_) | (at_mapUpdate; refine wl_mapUpdate rfl _ _ _ _ rfl _ _ _ rfl rfl rfl ?_) | (at_lookup; refine wl_lookup rfl _ _ _ _ rfl _ _ rfl rfl ?_) | (at_delete; refine wl_delete rfl _ _ _ _ rfl _ _ rfl rfl ?_) | (with_reducible refine wl_len rfl _ _ rfl _ rfl ?_) | (with_reducible refine wl_range rfl _ _ rfl _ rfl ?_) | (with_reducible refine wl_next rfl _ rfl _ rfl ?_) | (with_reducible refine wl_copy rfl _ _ _ _ rfl _ _ rfl rfl ?_) | (with_reducible refine wl_max rfl _ _ _ _ rfl _ _ rfl rfl ?_) | (with_reducible refine wl_min rfl _ _ _ _ rfl _ _ rfl rfl ?_) | (with_reducible refine wl_stAgg rfl _ _ _ rfl _ _ rfl rfl ?_))
      refine rg_stAgg (I4.B1.keep hkY fun h => h) (by kernel_rfl) (by rfl) (by simp [Value.oneCell']) ?_
      intro Y2 hB2 hk2 _
      have hBY2 := hBY.keep hk2 fun e => by have e : w.heap.size + 2 = w.heap.size := e; omega
      have c1 := hB2.cell
      go_wp2_with (first | (at_builtin; refine wl_append rfl _ _ _ _ rfl _ _ rfl rfl ?_) | (at_make; refine wl_make rfl _ _ _ rfl _ _ rfl rfl ?_) | (at_mapUpdate; refine wl_mapUpdate rfl _ _ _ _ rfl _ _ _ rfl rfl rfl ?_) | (at_lookup; refine wl_lookup rfl _ _ _ _ rfl _ _ rfl rfl ?_) | (at_delete; refine wl_delete rfl _ _ _ _ rfl _ _ rfl rfl ?_) | (with_reducible refine wl_len rfl _ _ rfl _ rfl ?_) | (with_reducible refine wl_range rfl _ _ rfl _ rfl ?_) | (with_reducible refine wl_next rfl _ rfl _ rfl ?_) | (with_reducible refine wl_copy rfl _ _ _ _ rfl _ _ rfl rfl ?_) | (with_reducible refine wl_max rfl _ _ _ _ rfl _ _ rfl rfl ?_) | (with_reducible refine wl_min rfl _ _ _ _ rfl _ _ rfl rfl ?_) | (with_reducible refine wl_stAgg rfl _ _ _ rfl _ _ rfl rfl ?_))
      refine rg_stAgg hBY2 (by kernel_rfl) (by rfl) (by simp [Value.oneCell']) ?_
      intro Z hBZ hkZ _
      go_wp2_with (first | (at_builtin; refine wl_append rfl _ _ _ _ rfl _ _ rfl rfl ?_) | (at_make; refine wl_make rfl _ _ _ rfl _ _ rfl rfl ?_) | (at_mapUpdate; refine wl_mapUpdate rfl _ _ _ _ rfl _ _ _ rfl rfl rfl ?_) | (at_lookup; refine wl_lookup rfl _ _ _ _ rfl _ _ rfl rfl ?_) | (at_delete; refine wl_delete rfl _ _ _ _ rfl _ _ rfl rfl ?_) | (with_reducible refine wl_len rfl _ _ rfl _ rfl ?_) | (with_reducible refine wl_range rfl _ _ rfl _ rfl ?_) | (with_reducible refine wl_next rfl _ rfl _ rfl ?_) | (with_reducible refine wl_copy rfl _ _ _ _ rfl _ _ rfl rfl ?_) | (with_reducible refine wl_max rfl _ _ _ _ rfl _ _ rfl rfl ?_) | (with_reducible refine wl_min rfl _ _ _ _ rfl _ _ rfl rfl ?_) | (with_reducible refine wl_stAgg rfl _ _ _ rfl _ _ rfl rfl ?_))
      refine ret_blk_tmp rfl rfl hBZ Try.underlying47 rfl (by kernel_rfl) rfl ?_
      unfold DidPost
      rw [HM.out, HM.out, HE.out, HE.out, ← natbeq]
      exact ⟨_, _, _, _, _, _, _, rfl, I4.done hDY hkY ((hk2.mono fun j _ e => ⟨by have e : j = w.heap.size := e; omega, by have e : j = w.heap.size := e; omega⟩).trans hkZ fun j _ e => ⟨by have e : j = w.heap.size + 2 := e; omega, by have e : j = w.heap.size + 2 := e; omega⟩)⟩
    · skip
      have c2b := (I2.no ((Keep.refl No X2).alloc (.cells #[.int .i64 1, .int .i64 2, .int .i64 2, .int .i64 2, .int .i64 3, .int .i64 4, .int .i64 5, .int .i64 6, .int .i64 1, .int .i64 2, .int .i64 3, .int .i64 4, .int .i64 6, .int .i64 2] 3))).B2.cell
      go_wp2_with (first | (at_builtin; refine wl_append rfl _ _ _ _ rfl _ _ rfl rfl ?_) | (at_make; refine wl_make rfl _ _ _ rfl _ _ rfl rfl ?_) | (at_mapUpdate; refine wl_mapUpdate rfl _ _ _ _ rfl _ _ _ rfl rfl rfl ?_) | (at_lookup; refine wl_lookup rfl _ _ _ _ rfl _ _ rfl rfl ?_) | (at_delete; refine wl_delete rfl _ _ _ _ rfl _ _ rfl rfl ?_) | (with_reducible refine wl_len rfl _ _ rfl _ rfl ?_) | (with_reducible refine wl_range rfl _ _ rfl _ rfl ?_) | (with_reducible refine wl_next rfl _ rfl _ rfl ?_) | (with_reducible refine wl_copy rfl _ _ _ _ rfl _ _ rfl rfl ?_) | (with_reducible refine wl_max rfl _ _ _ _ rfl _ _ rfl rfl ?_) | (with_reducible refine wl_min rfl _ _ _ _ rfl _ _ rfl rfl ?_))
      have I3 := I2.no ((Keep.refl No X2).alloc (.cells #[.int .i64 1, .int .i64 2, .int .i64 2, .int .i64 2, .int .i64 3, .int .i64 4, .int .i64 5, .int .i64 6, .int .i64 1, .int .i64 2, .int .i64 3, .int .i64 4, .int .i64 6, .int .i64 2] 3))
      generalize X2.alloc (.cells #[.int .i64 1, .int .i64 2, .int .i64 2, .int .i64 2, .int .i64 3, .int .i64 4, .int .i64 5, .int .i64 6, .int .i64 1, .int .i64 2, .int .i64 3, .int .i64 4, .int .i64 6, .int .i64 2] 3) = X3 at *
      clear I2 c2 c2b ht2
      refine (remove_own (nm ia) I3.own I3.hP hs (by omega) hN (by omega)).mono ?_
      rintro e X4 ⟨rfl, hO4, k4⟩
      have I4 := I3.op hO4 k4
      clear I3 hO4 k4
      have c1 := I4.B1.cell
      have f1 := I4.B1.frozen
      have c2 := I4.B2.cell
      have hcv := conv_str (Sl.keep hvb I4.keep fun j hj _ h => absurd h (Nat.not_le.2 hj))
      go_wp2_with (first | (at_builtin; refine wl_append rfl _ _ _ _ rfl _ _ rfl rfl ?_) | (at_make; refine wl_make rfl _ _ _ rfl _ _ rfl rfl ?_) | (at_mapUpdate; refine wl_mapUpdate rfl _ _ _ _ rfl _ _ _ rfl rfl rfl ?_) | (at_lookup; refine wl_lookup rfl _ _ _ _ rfl _ _ rfl rfl ?_) | (at_delete; refine wl_delete rfl _ _ _ _ rfl _ _ rfl rfl ?_) | (with_reducible refine wl_len rfl _ _ rfl _ rfl ?_) | (with_reducible refine wl_range rfl _ _ rfl _ rfl ?_) | (with_reducible refine wl_next rfl _ rfl _ rfl ?_) | (with_reducible refine wl_copy rfl _ _ _ _ rfl _ _ rfl rfl ?_) | (with_reducible refine wl_max rfl _ _ _ _ rfl _ _ rfl rfl ?_) | (with_reducible refine wl_min rfl _ _ _ _ rfl _ _ rfl rfl ?_))
      refine (rdo_all 5 (by decide) (by decide) (nm ia) (nm ib) at_ body I4.ref hs2 hf2 hn2 hN2 hn3 (by omega) hat).mono ?_
      rintro e Y ⟨u1, u2, u3, u4, u5, rfl, hDY, hkY⟩
      obtain ⟨z1, y1, z2, y2, z3, y3, z4, y4, z5, y5, rfl, rfl, rfl, rfl, rfl⟩ := hDY.shape
      have hBY := I4.B3.keep hkY fun h => h
      clear c1 f1 c2 hcv
      unfold dv
      go_wp2_with (first | (at_builtin; refine wl_append rfl _ _ _ _ rfl _ _ rfl rfl ?_) | (at_make; refine wl_make rfl _ _ _ rfl _ _ rfl rfl ?_) | (at_mapUpdate; refine wl_mapUpdate rfl _ _ _ _ rfl _ _ _ rfl rfl rfl ?_) | (at_lookup; refine wl_lookup rfl _ _ _ _ rfl _ _ rfl rfl ?_) | (at_delete; refine wl_delete rfl _ _ _ _ rfl _ _ rfl rfl ?_) | (with_reducible refine wl_len rfl _ _ rfl _ rfl ?_) | (with_reducible refine wl_range rfl _ _ rfl _ rfl ?_) | (with_reducible refine wl_next rfl _ rfl _ rfl ?_) | (with_reducible refine wl_copy rfl _ _ _ _ rfl _ _ rfl rfl ?_) | (with_reducible refine wl_max rfl _ _ _ _ rfl _ _ rfl rfl ?_) | (with_reducible refine wl_min rfl _ _ _ _ rfl _ _ rfl rfl ?_) | (with_reducible refine wl_stAgg rfl _ _ _ rfl _ _ rfl rfl ?_))
      refine rg_stAgg (I4.B1.keep hkY fun h => h) (by kernel_rfl) (by rfl) (by simp [Value.oneCell']) ?_
      intro Y2 hB2 hk2 _
      have hBY2 := hBY.keep hk2 fun e => by have e : w.heap.size + 2 = w.heap.size := e; omega
      have c1 := hB2.cell
      go_wp2_with (first | (at_builtin; refine wl_append rfl _ _ _ _ rfl _ _ rfl rfl ?_) | (at_make; refine wl_make rfl _ _ _ rfl _ _ rfl rfl ?_) | (at_mapUpdate; refine wl_mapUpdate rfl _ _ _ _ rfl _ _ _ rfl rfl rfl ?_) | (at_lookup; refine wl_lookup rfl _ _ _ _ rfl _ _ rfl rfl ?_) | (at_delete; refine wl_delete rfl _ _ _ _ rfl _ _ rfl rfl ?_) | (with_reducible refine wl_len rfl _ _ rfl _ rfl ?_) | (with_reducible refine wl_range rfl _ _ rfl _ rfl ?_) | (with_reducible refine wl_next rfl _ rfl _ rfl ?_) | (with_reducible refine wl_copy rfl _ _ _ _ rfl _ _ rfl rfl ?_) | (with_reducible refine wl_max rfl _ _ _ _ rfl _ _ rfl rfl ?_) | (with_reducible refine wl_min rfl _ _ _ _ rfl _ _ rfl rfl ?_) | (with_reducible refine wl_stAgg rfl _ _ _ rfl _ _ rfl rfl ?_))
      refine rg_stAgg hBY2 (by kernel_rfl) (by rfl) (by simp [Value.oneCell']) ?_
      intro Z hBZ hkZ _
      go_wp2_with (first | (at_builtin; refine wl_append rfl _ _ _ _ rfl _ _ rfl rfl ?_) | (at_make; refine wl_make rfl _ _ _ rfl _ _ rfl rfl ?_) | (at_mapUpdate; refine wl_mapUpdate rfl _ _ _ _ rfl _ _ _ rfl rfl rfl ?_) | (at_lookup; refine wl_lookup rfl _ _ _ _ rfl _ _ rfl rfl ?_) | (at_delete; refine wl_delete rfl _ _ _ _ rfl _ _ rfl rfl ?_) | (with_reducible refine wl_len rfl _ _ rfl _ rfl ?_) | (with_reducible refine wl_range rfl _ _ rfl _ rfl ?_) | (with_reducible refine wl_next rfl _ rfl _ rfl ?_) | (with_reducible refine wl_copy rfl _ _ _ _ rfl _ _ rfl rfl ?_) | (with_reducible refine wl_max rfl _ _ _ _ rfl _ _ rfl rfl ?_) | (with_reducible refine wl_min rfl _ _ _ _ rfl _ _ rfl rfl ?_) | (with_reducible refine wl_stAgg rfl _ _ _ rfl _ _ rfl rfl ?_))
      refine ret_blk_tmp rfl rfl hBZ Try.underlying47 rfl (by kernel_rfl) rfl ?_
      unfold DidPost
      rw [HM.out, HM.out, HE.out, HE.out, ← natbeq]
      exact ⟨_, _, _, _, _, _, _, rfl, I4.done hDY hkY ((hk2.mono fun j _ e => ⟨by have e : j = w.heap.size := e; omega, by have e : j = w.heap.size := e; omega⟩).trans hkZ fun j _ e => ⟨by have e : j = w.heap.size + 2 := e; omega, by have e : j = w.heap.size + 2 := e; omega⟩)⟩
    · skip
      have c2b := (I2.no ((Keep.refl No X2).alloc (.cells #[.int .i64 1, .int .i64 2, .int .i64 2, .int .i64 2, .int .i64 3, .int .i64 4, .int .i64 5, .int .i64 6, .int .i64 1, .int .i64 2, .int .i64 3, .int .i64 4, .int .i64 6, .int .i64 2] 3))).B2.cell
      go_wp2_with (first | (at_builtin; refine wl_append rfl _ _ _ _ rfl _ _ rfl rfl ?_) | (at_make; refine wl_make rfl _ _ _ rfl _ _ rfl rfl ?_) | (at_mapUpdate; refine wl_mapUpdate rfl _ _ _ _ rfl _ _ _ rfl rfl rfl ?_) | (at_lookup; refine wl_lookup rfl _ _ _ _ rfl _ _ rfl rfl ?_) | (at_delete; refine wl_delete rfl _ _ _ _ rfl _ _ rfl rfl ?_) | (with_reducible refine wl_len rfl _ _ rfl _ rfl ?_) | (with_reducible refine wl_range rfl _ _ rfl _ rfl ?_) | (with_reducible refine wl_next rfl _ rfl _ rfl ?_) | (with_reducible refine wl_copy rfl _ _ _ _ rfl _ _ rfl rfl ?_) | (with_reducible refine wl_max rfl _ _ _ _ rfl _ _ rfl rfl ?_) | (with_reducible refine wl_min rfl _ _ _ _ rfl _ _ rfl rfl ?_))
      have I3 := I2.no ((Keep.refl No X2).alloc (.cells #[.int .i64 1, .int .i64 2, .int .i64 2, .int .i64 2, .int .i64 3, .int .i64 4, .int .i64 5, .int .i64 6, .int .i64 1, .int .i64 2, .int .i64 3, .int .i64 4, .int .i64 6, .int .i64 2] 3))
      generalize X2.alloc (.cells #[.int .i64 1, .int .i64 2, .int .i64 2, .int .i64 2, .int .i64 3, .int .i64 4, .int .i64 5, .int .i64 6, .int .i64 1, .int .i64 2, .int .i64 3, .int .i64 4, .int .i64 6, .int .i64 2] 3) = X3 at *
      clear I2 c2 c2b ht2
      refine (syncnames_own I3.own I3.hP hs (by omega) hN).mono ?_
      rintro e X4 ⟨rfl, hO4, k4⟩
      have I4 := I3.op hO4 k4
      clear I3 hO4 k4
      have c1 := I4.B1.cell
      have f1 := I4.B1.frozen
      have c2 := I4.B2.cell
      have hcv := conv_str (Sl.keep hvb I4.keep fun j hj _ h => absurd h (Nat.not_le.2 hj))
      go_wp2_with (first | (at_builtin; refine wl_append rfl _ _ _ _ rfl _ _ rfl rfl ?_) | (at_make; refine wl_make rfl _ _ _ rfl _ _ rfl rfl ?_) | (at_mapUpdate; refine wl_mapUpdate rfl _ _ _ _ rfl _ _ _ rfl rfl rfl ?_) | (at_lookup; refine wl_lookup rfl _ _ _ _ rfl _ _ rfl rfl ?_) | (at_delete; refine wl_delete rfl _ _ _ _ rfl _ _ rfl rfl ?_) | (with_reducible refine wl_len rfl _ _ rfl _ rfl ?_) | (with_reducible refine wl_range rfl _ _ rfl _ rfl ?_) | (with_reducible refine wl_next rfl _ rfl _ rfl ?_) | (with_reducible refine wl_copy rfl _ _ _ _ rfl _ _ rfl rfl ?_) | (with_reducible refine wl_max rfl _ _ _ _ rfl _ _ rfl rfl ?_) | (with_reducible refine wl_min rfl _ _ _ _ rfl _ _ rfl rfl ?_))
      refine (rdo_all 6 (by decide) (by decide) (nm ia) (nm ib) at_ body I4.ref hs2 hf2 hn2 hN2 hn3 (by omega) hat).mono ?_
      rintro e Y ⟨u1, u2, u3, u4, u5, rfl, hDY, hkY⟩
      obtain ⟨z1, y1, z2, y2, z3, y3, z4, y4, z5, y5, rfl, rfl, rfl, rfl, rfl⟩ := hDY.shape
      have hBY := I4.B3.keep hkY fun h => h
      clear c1 f1 c2 hcv
      unfold dv
      go_wp2_with (first | (at_builtin; refine wl_append rfl _ _ _ _ rfl _ _ rfl rfl ?_) | (at_make; refine wl_make rfl _ _ _ rfl _ _ rfl rfl ?_) | (at_mapUpdate; refine wl_mapUpdate rfl _ _ _ _ rfl _ _ _ rfl rfl rfl ?_) | (at_lookup; refine wl_lookup rfl _ _ _ _ rfl _ _ rfl rfl ?_) | (at_delete; refine wl_delete rfl _ _ _ _ rfl _ _ rfl rfl ?_) | (with_reducible refine wl_len rfl _ _ rfl _ rfl ?_) | (with_reducible refine wl_range rfl _ _ rfl _ rfl ?_) | (with_reducible refine wl_next rfl _ rfl _ rfl ?_) | (with_reducible refine wl_copy rfl _ _ _ _ rfl _ _ rfl rfl ?_) | (with_reducible refine wl_max rfl _ _ _ _ rfl _ _ rfl rfl ?_) | (with_reducible refine wl_min rfl _ _ _ _ rfl _ _ rfl rfl ?_) | (with_reducible refine wl_stAgg rfl _ _ _ rfl _ _ rfl rfl ?_))
      refine rg_stAgg (I4.B1.keep hkY fun h => h) (by kernel_rfl) (by rfl) (by simp [Value.oneCell']) ?_
      intro Y2 hB2 hk2 _
      have hBY2 := hBY.keep hk2 fun e => by have e : w.heap.size + 2 = w.heap.size := e; omega
      have c1 := hB2.cell
      go_wp2_with (first | (at_builtin; refine wl_append rfl _ _ _ _ rfl _ _ rfl rfl ?_) | (at_make; refine wl_make rfl _ _ _ rfl _ _ rfl rfl ?_) | (at_mapUpdate; refine wl_mapUpdate rfl _ _ _ _ rfl _ _ _ rfl rfl rfl ?_) | (at_lookup; refine wl_lookup rfl _ _ _ _ rfl _ _ rfl rfl ?_) | (at_delete; refine wl_delete rfl _ _ _ _ rfl _ _ rfl rfl ?_) | (with_reducible refine wl_len rfl _ _ rfl _ rfl ?_) | (with_reducible refine wl_range rfl _ _ rfl _ rfl ?_) | (with_reducible refine wl_next rfl _ rfl _ rfl ?_) | (with_reducible refine wl_copy rfl _ _ _ _ rfl _ _ rfl rfl ?_) | (with_reducible refine wl_max rfl _ _ _ _ rfl _ _ rfl rfl ?_) | (with_reducible refine wl_min rfl _ _ _ _ rfl _ _ rfl rfl ?_) | (with_reducible refine wl_stAgg rfl _ _ _ rfl _ _ rfl rfl ?_))
      refine rg_stAgg hBY2 (by kernel_rfl) (by rfl) (by simp [Value.oneCell']) ?_
      intro Z hBZ hkZ _
      go_wp2_with (first | (at_builtin; refine wl_append rfl _ _ _ _ rfl _ _ rfl rfl ?_) | (at_make; refine wl_make rfl _ _ _ rfl _ _ rfl rfl ?_) | (at_mapUpdate; refine wl_mapUpdate rfl _ _ _ _ rfl _ _ _ rfl rfl rfl ?_) | (at_lookup; refine wl_lookup rfl _ _ _ _ rfl _ _ rfl rfl ?_) | (at_delete; refine wl_delete rfl _ _ _ _ rfl _ _ rfl rfl ?_) | (with_reducible refine wl_len rfl _ _ rfl _ rfl ?_) | (with_reducible refine wl_range rfl _ _ rfl _ rfl ?_) | (with_reducible refine wl_next rfl _ rfl _ rfl ?_) | (with_reducible refine wl_copy rfl _ _ _ _ rfl _ _ rfl rfl ?_) | (with_reducible refine wl_max rfl _ _ _ _ rfl _ _ rfl rfl ?_) | (with_reducible refine wl_min rfl _ _ _ _ rfl _ _ rfl rfl ?_) | (with_reducible refine wl_stAgg rfl _ _ _ rfl _ _ rfl rfl ?_))
      refine ret_blk_tmp rfl rfl hBZ Try.underlying47 rfl (by kernel_rfl) rfl ?_
      unfold DidPost
      rw [HM.out, HM.out, HE.out, HE.out, ← natbeq]
      exact ⟨_, _, _, _, _, _, _, rfl, I4.done hDY hkY ((hk2.mono fun j _ e => ⟨by have e : j = w.heap.size := e; omega, by have e : j = w.heap.size := e; omega⟩).trans hkZ fun j _ e => ⟨by have e : j = w.heap.size + 2 := e; omega, by have e : j = w.heap.size + 2 := e; omega⟩)⟩
end Go.Proofs.Ytkmoomgmmhmaeaa
