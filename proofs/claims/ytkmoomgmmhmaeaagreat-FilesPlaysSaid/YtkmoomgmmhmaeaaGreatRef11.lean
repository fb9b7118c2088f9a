/- The reference of the files: Draft, May, Replace. No condition. -/
import Derived.Test.YtkmoomgmmhmaeaaGreatLawAwake
import Derived.Test.YtkmoomgmmhmaeaaGreatSigT
import Derived.Test.YtkmoomgmmhmaeaaGreatRef3
namespace Go.Proofs.YtkmoomgmmhmaeaaGreat
open Go.RowKit Go.Dm Go.Dm.Dk

set_option maxHeartbeats 1000000 in
theorem rdraft_any (s : List UInt8) (w : World) : Calls Tryz.prog 30 #[.string ⟨s.toArray⟩] w fun e w' => e = .returned (.bool (isDraft s)) ∧ w = w' := by
  have hx : isDraft s = Lib.hasPrefix s [110, 101, 119, 46] := rfl
  have hy : Lib.hasPrefix s [110, 101, 119, 46] = _ := (Lib.hasPrefix_of_take s [110, 101, 119, 46]).symm
  have HX := Lib.hid (hx.trans hy)
  clear hx hy
  go_enter Tryz.func30, Tryz.ntmps30
  rcases Nat.lt_or_ge s.length 4 with h | h
  · have h' : decide ((s.length : Int) ≥ 4) = false := by simp; omega
    go_wp2_with (first | (at_builtin; refine wl_append rfl _ _ _ _ rfl _ _ rfl rfl ?_) | (at_make; refine wl_make rfl _ _ _ rfl _ _ rfl rfl ?_) | (at_mapUpdate; refine wl_mapUpdate rfl _ _ _ _ rfl _ _ _ rfl rfl rfl ?_) | (at_lookup; refine wl_lookup rfl _ _ _ _ rfl _ _ rfl rfl ?_) | (at_delete; refine wl_delete rfl _ _ _ _ rfl _ _ rfl rfl ?_) | (with_reducible refine wl_len rfl _ _ rfl _ rfl ?_) | (with_reducible refine wl_range rfl _ _ rfl _ rfl ?_) | (with_reducible refine wl_next rfl _ rfl _ rfl ?_) | (with_reducible refine wl_copy rfl _ _ _ _ rfl _ _ rfl rfl ?_) | (with_reducible refine wl_max rfl _ _ _ _ rfl _ _ rfl rfl ?_) | (with_reducible refine wl_min rfl _ _ _ _ rfl _ _ rfl rfl ?_))
    go_ret
    rw [HX.out]
    exact ⟨by simp; omega, rfl⟩
  · have h' : (4 : Int) ≤ (s.length : Int) := by omega
    go_wp2_with (first | (at_builtin; refine wl_append rfl _ _ _ _ rfl _ _ rfl rfl ?_) | (at_make; refine wl_make rfl _ _ _ rfl _ _ rfl rfl ?_) | (at_mapUpdate; refine wl_mapUpdate rfl _ _ _ _ rfl _ _ _ rfl rfl rfl ?_) | (at_lookup; refine wl_lookup rfl _ _ _ _ rfl _ _ rfl rfl ?_) | (at_delete; refine wl_delete rfl _ _ _ _ rfl _ _ rfl rfl ?_) | (with_reducible refine wl_len rfl _ _ rfl _ rfl ?_) | (with_reducible refine wl_range rfl _ _ rfl _ rfl ?_) | (with_reducible refine wl_next rfl _ rfl _ rfl ?_) | (with_reducible refine wl_copy rfl _ _ _ _ rfl _ _ rfl rfl ?_) | (with_reducible refine wl_max rfl _ _ _ _ rfl _ _ rfl rfl ?_) | (with_reducible refine wl_min rfl _ _ _ _ rfl _ _ rfl rfl ?_))
    go_ret
    rw [HX.out]
    refine ⟨?_, rfl⟩
    rw [str_ext]
    simp [h]
set_option maxHeartbeats 1000000 in
theorem rmay11_any (s : List UInt8) (w : World) : Calls Tryz.prog 18 #[.string ⟨s.toArray⟩] w fun e w' => e = .returned (.bool (mayF s)) ∧ w = w' := by
  have hx : mayF s = (s != [] && !isDraft s) := rfl
  have HX := Lib.hid hx
  clear hx
  go_enter Tryz.func18, Tryz.ntmps18
  go_wp2_with (first | (at_builtin; refine wl_append rfl _ _ _ _ rfl _ _ rfl rfl ?_) | (at_make; refine wl_make rfl _ _ _ rfl _ _ rfl rfl ?_) | (at_mapUpdate; refine wl_mapUpdate rfl _ _ _ _ rfl _ _ _ rfl rfl rfl ?_) | (at_lookup; refine wl_lookup rfl _ _ _ _ rfl _ _ rfl rfl ?_) | (at_delete; refine wl_delete rfl _ _ _ _ rfl _ _ rfl rfl ?_) | (with_reducible refine wl_len rfl _ _ rfl _ rfl ?_) | (with_reducible refine wl_range rfl _ _ rfl _ rfl ?_) | (with_reducible refine wl_next rfl _ rfl _ rfl ?_) | (with_reducible refine wl_copy rfl _ _ _ _ rfl _ _ rfl rfl ?_) | (with_reducible refine wl_max rfl _ _ _ _ rfl _ _ rfl rfl ?_) | (with_reducible refine wl_min rfl _ _ _ _ rfl _ _ rfl rfl ?_))
  refine (rdraft_any s _).mono ?_
  rintro e x ⟨rfl, rfl⟩
  by_cases h : s = []
  · subst h
    go_wp2_with (first | (at_builtin; refine wl_append rfl _ _ _ _ rfl _ _ rfl rfl ?_) | (at_make; refine wl_make rfl _ _ _ rfl _ _ rfl rfl ?_) | (at_mapUpdate; refine wl_mapUpdate rfl _ _ _ _ rfl _ _ _ rfl rfl rfl ?_) | (at_lookup; refine wl_lookup rfl _ _ _ _ rfl _ _ rfl rfl ?_) | (at_delete; refine wl_delete rfl _ _ _ _ rfl _ _ rfl rfl ?_) | (with_reducible refine wl_len rfl _ _ rfl _ rfl ?_) | (with_reducible refine wl_range rfl _ _ rfl _ rfl ?_) | (with_reducible refine wl_next rfl _ rfl _ rfl ?_) | (with_reducible refine wl_copy rfl _ _ _ _ rfl _ _ rfl rfl ?_) | (with_reducible refine wl_max rfl _ _ _ _ rfl _ _ rfl rfl ?_) | (with_reducible refine wl_min rfl _ _ _ _ rfl _ _ rfl rfl ?_))
    go_ret
    rw [HX.out]
    exact ⟨rfl, rfl⟩
  · have h' : (s == []) = false := by simpa using h
    go_wp2_with (first | (at_builtin; refine wl_append rfl _ _ _ _ rfl _ _ rfl rfl ?_) | (at_make; refine wl_make rfl _ _ _ rfl _ _ rfl rfl ?_) | (at_mapUpdate; refine wl_mapUpdate rfl _ _ _ _ rfl _ _ _ rfl rfl rfl ?_) | (at_lookup; refine wl_lookup rfl _ _ _ _ rfl _ _ rfl rfl ?_) | (at_delete; refine wl_delete rfl _ _ _ _ rfl _ _ rfl rfl ?_) | (with_reducible refine wl_len rfl _ _ rfl _ rfl ?_) | (with_reducible refine wl_range rfl _ _ rfl _ rfl ?_) | (with_reducible refine wl_next rfl _ rfl _ rfl ?_) | (with_reducible refine wl_copy rfl _ _ _ _ rfl _ _ rfl rfl ?_) | (with_reducible refine wl_max rfl _ _ _ _ rfl _ _ rfl rfl ?_) | (with_reducible refine wl_min rfl _ _ _ _ rfl _ _ rfl rfl ?_))
    go_ret
    rw [HX.out]
    exact ⟨by simp [h], rfl⟩

def cel (m : M) (v1 v2 v3 v4 v5 : Value) : Array Value := #[.int .i64 m.room, v1, v2, v3, v4, v5, .bool m.off, .int .i64 m.cut]
/-- within a Replace or Tidy of the reference: the disk, its box, the result's box -/
structure RI (A : Nat → Prop) (w X : World) (b3 b6 : Nat) (mk : M) (u1 u2 u3 u4 u5 : Value) : Prop where
  D : DV (fun k => (A k ∧ k < w.heap.size) ∨ w.heap.size + 2 ≤ k) X u1 u2 u3 u4 u5 mk
  K : Keep No w X
  B3 : Blk X b3 (cel mk u1 u2 u3 u4 u5) 30
  B6 : Blk X b6 #[.int .i64 0, .slice none 0 0, .slice none 0 0, .slice none 0 0, .slice none 0 0, .slice none 0 0, .bool false, .int .i64 0] 30
  sz : w.heap.size + 2 ≤ X.heap.size
  l3 : w.heap.size ≤ b3 ∧ b3 < w.heap.size + 2
  l6 : w.heap.size ≤ b6 ∧ b6 < w.heap.size + 2
  ne : b6 ≠ b3
section
variable {A : Nat → Prop} {w X Y Z : World} {b3 b6 : Nat} {mk m' : M} {u1 u2 u3 u4 u5 z1 z2 z3 z4 z5 : Value}
theorem RI.no (h : RI A w X b3 b6 mk u1 u2 u3 u4 u5) (hk : Keep No X Y) : RI A w Y b3 b6 mk u1 u2 u3 u4 u5 :=
  ⟨h.D.no hk, h.K.trans' hk, h.B3.keep hk fun h => h, h.B6.keep hk fun h => h, Nat.le_trans h.sz hk.size, h.l3, h.l6, h.ne⟩
theorem RI.step (h : RI A w X b3 b6 mk u1 u2 u3 u4 u5) (hD : DV (Plus (fun k => (A k ∧ k < w.heap.size) ∨ w.heap.size + 2 ≤ k) X Y) Y z1 z2 z3 z4 z5 m') (hk : Keep No X Y) (hB : Blk Z b3 (cel m' z1 z2 z3 z4 z5) 30) (hkZ : Keep (fun j => j = b3) Y Z) : RI A w Z b3 b6 m' z1 z2 z3 z4 z5 := by
  have hl := h.l3
  refine ⟨?_, (h.K.trans' hk).trans hkZ fun j hj e => by have e : j = b3 := e; omega, hB, (h.B6.keep hk fun h => h).keep hkZ h.ne, Nat.le_trans (Nat.le_trans h.sz hk.size) hkZ.size, h.l3, h.l6, h.ne⟩
  refine (hD.mono (B := fun k => (A k ∧ k < w.heap.size) ∨ w.heap.size + 2 ≤ k) fun j hj ha => ?_).keep hkZ fun j _ ha e => ?_
  · rcases ha with ha | ha
    · exact ha
    · have := h.sz; exact .inr (by omega)
  · have e : j = b3 := e
    omega
theorem RI.fin {e : Value} (h : RI A w X b3 b6 mk u1 u2 u3 u4 u5) (hkZ : Keep (fun j => j = b6) X Z) : RetD2 A w mk e (.returned (.tuple #[dv mk u1 u2 u3 u4 u5, e])) Z := by
  have hl := h.l6
  exact RetD.two (RetD.fin 2 h.K h.D (hkZ.mono fun j _ e => by have e : j = b6 := e; omega))
end

theorem names_filter {m : M} (hap : m.L.Pairwise (fun p q => p.1 ≠ q.1)) (t : List UInt8) : ((namesOf m).filter fun n => n == t) = if (find m.L t).isSome then [t] else [] := by
  have hpm : (namesOf m).Perm (m.L.map (·.1)) := List.mergeSort_perm _ _
  have hnd : (namesOf m).Nodup := hpm.nodup_iff.2 (by unfold List.Nodup; rw [List.pairwise_map]; exact hap)
  have hmem : t ∈ namesOf m ↔ (find m.L t).isSome = true := by
    rw [hpm.mem_iff]
    unfold find
    rw [Option.isSome_map, List.find?_isSome]
    simp
  by_cases h : t ∈ namesOf m
  · rw [if_pos (hmem.1 h)]
    have h1 : ∀ x ∈ (namesOf m).filter fun n => n == t, x = t := fun x hx => by simpa using (List.mem_filter.1 hx).2
    have h2 : ((namesOf m).filter fun n => n == t).Nodup := hnd.filter _
    have h3 : t ∈ (namesOf m).filter fun n => n == t := List.mem_filter.2 ⟨h, by simp⟩
    cases hl : (namesOf m).filter fun n => n == t with
    | nil => rw [hl] at h3; cases h3
    | cons x r =>
      rw [hl] at h1 h2
      have hx := h1 x (by simp)
      cases r with
      | nil => rw [hx]
      | cons y r =>
        have hy := h1 y (by simp)
        rw [hx, hy] at h2
        simp at h2
  · rw [if_neg (fun e => h (hmem.2 e))]
    exact List.filter_eq_nil_iff.2 fun x hx e => h (by rw [← (by simpa using e : x = t)]; exact hx)
theorem repl_some {m : M} {s b : List UInt8} (hap : m.L.Pairwise (fun p q => p.1 ≠ q.1)) (hmay : mayF s = true) (hf : (find m.L (newS ++ s)).isSome = true) :
    replD m s b = runS m (⟨5, newS ++ s, [], 0, []⟩ :: ⟨6, [], [], 0, []⟩ :: ⟨1, newS ++ s, [], 0, []⟩ :: (writesS (newS ++ s) b ++ endS (newS ++ s) s)) := by
  unfold replD
  rw [if_pos hmay]
  unfold stepsS
  rw [names_filter hap, if_pos hf]
  simp [goneS]
theorem repl_none {m : M} {s b : List UInt8} (hap : m.L.Pairwise (fun p q => p.1 ≠ q.1)) (hmay : mayF s = true) (hf : (find m.L (newS ++ s)).isSome = false) :
    replD m s b = runS m (⟨1, newS ++ s, [], 0, []⟩ :: (writesS (newS ++ s) b ++ endS (newS ++ s) s)) := by
  unfold replD
  rw [if_pos hmay]
  unfold stepsS
  rw [names_filter hap, hf]
  simp
theorem pieces_iff' (n k : Nat) : 64 * k < n ↔ k < pieces n := by unfold pieces; omega
set_option maxRecDepth 100000 in
set_option maxHeartbeats 16000000 in
theorem rrepl_any {A B : Nat → Prop} {w : World} {v1 v2 v3 v4 v5 vb : Value} {m : M} {n N n2 : Nat} (s b : List UInt8) (h : DV A w v1 v2 v3 v4 v5 m) (hap : m.L.Pairwise (fun p q => p.1 ≠ q.1)) (hsm : Small m n N) (hfl : Files m n2)
    (hn : n + 10 + pieces b.length ≤ 15000) (hN : N + 64 * (10 + pieces b.length) ≤ 1000000) (hn2 : n2 + 10 + pieces b.length ≤ 100000) (hsl : s.length ≤ 60) (hb : Bts B w vb b) :
    Calls Tryz.prog 21 #[dv m v1 v2 v3 v4 v5, .string ⟨s.toArray⟩, vb] w (RetD2 A w (replD m s b).1 (.int .i64 ((replD m s b).2 : Nat))) := by
  obtain ⟨ab, cb, rfl, _, _⟩ := hb.shape
  have hsl6 : s.length ≤ 64 := by omega
  have hbl : b.length ≤ 1000000 := by unfold pieces at hn; omega
  replace h := h.mono (B := fun k => A k ∧ k < w.heap.size) fun j hj ha => ⟨ha, hj⟩
  obtain ⟨a1, d1, a2, d2, a3, d3, a4, d4, a5, d5, rfl, rfl, rfl, rfl, rfl⟩ := h.shape
  unfold dv
  go_enter Tryz.func21, Tryz.ntmps21
  go_wp2_with (first | (at_builtin; refine wl_append rfl _ _ _ _ rfl _ _ rfl rfl ?_) | (at_make; refine wl_make rfl _ _ _ rfl _ _ rfl rfl ?_) | (at_mapUpdate; refine wl_mapUpdate rfl _ _ _ _ rfl _ _ _ rfl rfl rfl ?_) | (at_lookup; refine wl_lookup rfl _ _ _ _ rfl _ _ rfl rfl ?_) | (at_delete; refine wl_delete rfl _ _ _ _ rfl _ _ rfl rfl ?_) | (with_reducible refine wl_len rfl _ _ rfl _ rfl ?_) | (with_reducible refine wl_range rfl _ _ rfl _ rfl ?_) | (with_reducible refine wl_next rfl _ rfl _ rfl ?_) | (with_reducible refine wl_copy rfl _ _ _ _ rfl _ _ rfl rfl ?_) | (with_reducible refine wl_max rfl _ _ _ _ rfl _ _ rfl rfl ?_) | (with_reducible refine wl_min rfl _ _ _ _ rfl _ _ rfl rfl ?_))
  have hkW1 : Keep No w (w.alloc (.cells #[.int .i64 m.room, .slice a1 m.is.length d1, .slice a2 m.sure.length d2, .slice a3 m.L.length d3, .slice a4 m.S.length d4, .slice a5 m.wait.length d5, .bool m.off, .int .i64 m.cut] 30)) := (Keep.refl _ _).alloc _
  have hBW1 : Blk (w.alloc (.cells #[.int .i64 m.room, .slice a1 m.is.length d1, .slice a2 m.sure.length d2, .slice a3 m.L.length d3, .slice a4 m.S.length d4, .slice a5 m.wait.length d5, .bool m.off, .int .i64 m.cut] 30)) w.heap.size #[.int .i64 m.room, .slice a1 m.is.length d1, .slice a2 m.sure.length d2, .slice a3 m.L.length d3, .slice a4 m.S.length d4, .slice a5 m.wait.length d5, .bool m.off, .int .i64 m.cut] 30 := Blk.new _ _ _
  have hzW1 : (w.alloc (.cells #[.int .i64 m.room, .slice a1 m.is.length d1, .slice a2 m.sure.length d2, .slice a3 m.L.length d3, .slice a4 m.S.length d4, .slice a5 m.wait.length d5, .bool m.off, .int .i64 m.cut] 30)).heap.size = w.heap.size + 1 := World.size_alloc _ _
  generalize w.alloc (.cells #[.int .i64 m.room, .slice a1 m.is.length d1, .slice a2 m.sure.length d2, .slice a3 m.L.length d3, .slice a4 m.S.length d4, .slice a5 m.wait.length d5, .bool m.off, .int .i64 m.cut] 30) = W1 at *
  have hkW : Keep No W1 (W1.alloc (.cells #[.int .i64 0, .slice none 0 0, .slice none 0 0, .slice none 0 0, .slice none 0 0, .slice none 0 0, .bool false, .int .i64 0] 30)) := (Keep.refl _ _).alloc _
  have hBW : Blk (W1.alloc (.cells #[.int .i64 0, .slice none 0 0, .slice none 0 0, .slice none 0 0, .slice none 0 0, .slice none 0 0, .bool false, .int .i64 0] 30)) W1.heap.size #[.int .i64 0, .slice none 0 0, .slice none 0 0, .slice none 0 0, .slice none 0 0, .slice none 0 0, .bool false, .int .i64 0] 30 := Blk.new _ _ _
  have hzW : (W1.alloc (.cells #[.int .i64 0, .slice none 0 0, .slice none 0 0, .slice none 0 0, .slice none 0 0, .slice none 0 0, .bool false, .int .i64 0] 30)).heap.size = W1.heap.size + 1 := World.size_alloc _ _
  generalize W1.alloc (.cells #[.int .i64 0, .slice none 0 0, .slice none 0 0, .slice none 0 0, .slice none 0 0, .slice none 0 0, .bool false, .int .i64 0] 30) = W at *
  rw [hzW1] at hBW
  replace hBW1 := hBW1.keep hkW fun h => h
  replace hkW := hkW1.trans' hkW
  have I : RI A w W w.heap.size (w.heap.size + 1) m _ _ _ _ _ := ⟨(h.no hkW).in2, hkW, hBW1, hBW, by omega, ⟨Nat.le_refl _, by omega⟩, ⟨by omega, by omega⟩, by omega⟩
  clear hBW hBW1 hkW hkW1 hzW hzW1 h
  clear W1
  refine (rmay11_any s _).mono ?_
  rintro e x ⟨rfl, rfl⟩
  have c1 := I.B3.cell
  unfold cel at c1
  cases hmay : mayF s with
  | false =>
    have HR : Hid (replD m s b = (m, 1)) := Lib.hid (by simp [replD, hmay])
    clear hmay
    go_wp2_with (first | (at_builtin; refine wl_append rfl _ _ _ _ rfl _ _ rfl rfl ?_) | (at_make; refine wl_make rfl _ _ _ rfl _ _ rfl rfl ?_) | (at_mapUpdate; refine wl_mapUpdate rfl _ _ _ _ rfl _ _ _ rfl rfl rfl ?_) | (at_lookup; refine wl_lookup rfl _ _ _ _ rfl _ _ rfl rfl ?_) | (at_delete; refine wl_delete rfl _ _ _ _ rfl _ _ rfl rfl ?_) | (with_reducible refine wl_len rfl _ _ rfl _ rfl ?_) | (with_reducible refine wl_range rfl _ _ rfl _ rfl ?_) | (with_reducible refine wl_next rfl _ rfl _ rfl ?_) | (with_reducible refine wl_copy rfl _ _ _ _ rfl _ _ rfl rfl ?_) | (with_reducible refine wl_max rfl _ _ _ _ rfl _ _ rfl rfl ?_) | (with_reducible refine wl_min rfl _ _ _ _ rfl _ _ rfl rfl ?_) | (with_reducible refine wl_stAgg rfl _ _ _ rfl _ _ rfl rfl ?_))
    refine rg_stAgg I.B6 (by kernel_rfl) (by rfl) (by simp [Value.oneCell']) ?_
    intro Z hBZ hkZ _
    go_wp2_with (first | (at_builtin; refine wl_append rfl _ _ _ _ rfl _ _ rfl rfl ?_) | (at_make; refine wl_make rfl _ _ _ rfl _ _ rfl rfl ?_) | (at_mapUpdate; refine wl_mapUpdate rfl _ _ _ _ rfl _ _ _ rfl rfl rfl ?_) | (at_lookup; refine wl_lookup rfl _ _ _ _ rfl _ _ rfl rfl ?_) | (at_delete; refine wl_delete rfl _ _ _ _ rfl _ _ rfl rfl ?_) | (with_reducible refine wl_len rfl _ _ rfl _ rfl ?_) | (with_reducible refine wl_range rfl _ _ rfl _ rfl ?_) | (with_reducible refine wl_next rfl _ rfl _ rfl ?_) | (with_reducible refine wl_copy rfl _ _ _ _ rfl _ _ rfl rfl ?_) | (with_reducible refine wl_max rfl _ _ _ _ rfl _ _ rfl rfl ?_) | (with_reducible refine wl_min rfl _ _ _ _ rfl _ _ rfl rfl ?_) | (with_reducible refine wl_stAgg rfl _ _ _ rfl _ _ rfl rfl ?_))
    refine ret_blk_tmp rfl rfl hBZ Tryz.underlying30 rfl (by kernel_rfl) rfl ?_
    rw [HR.out]
    exact I.fin hkZ
  | true =>
    have hr1 := repl_some (b := b) hap hmay
    have hr2 := repl_none (b := b) hap hmay
    clear hmay hap
    go_wp2_with (first | (at_builtin; refine wl_append rfl _ _ _ _ rfl _ _ rfl rfl ?_) | (at_make; refine wl_make rfl _ _ _ rfl _ _ rfl rfl ?_) | (at_mapUpdate; refine wl_mapUpdate rfl _ _ _ _ rfl _ _ _ rfl rfl rfl ?_) | (at_lookup; refine wl_lookup rfl _ _ _ _ rfl _ _ rfl rfl ?_) | (at_delete; refine wl_delete rfl _ _ _ _ rfl _ _ rfl rfl ?_) | (with_reducible refine wl_len rfl _ _ rfl _ rfl ?_) | (with_reducible refine wl_range rfl _ _ rfl _ rfl ?_) | (with_reducible refine wl_next rfl _ rfl _ rfl ?_) | (with_reducible refine wl_copy rfl _ _ _ _ rfl _ _ rfl rfl ?_) | (with_reducible refine wl_max rfl _ _ _ _ rfl _ _ rfl rfl ?_) | (with_reducible refine wl_min rfl _ _ _ _ rfl _ _ rfl rfl ?_))
    have et : (⟨#[110, 101, 119, 46]⟩ ++ ⟨s.toArray⟩ : ByteArray) = ⟨(newS ++ s).toArray⟩ := str_app newS s
    rw [et]
    have htl : (newS ++ s).length ≤ 64 := by rw [List.length_append]; simp [newS]; omega
    clear et
    generalize newS ++ s = t at *
    have R1 := Lib.hid hr1
    have R2 := Lib.hid hr2
    clear hr1 hr2
    refine (rfind_any t I.D.L).mono ?_
    rintro e x ⟨rfl, rfl⟩
    cases hfd : find m.L t with
    | none =>
      have hz : findZ m.L t = -1 := by simp [findZ, hfd]
      have HR := Lib.hid (R2.out (by rw [hfd]; rfl))
      clear R1 R2 hfd
      rw [hz]
      clear hz
      go_wp2_with (first | (at_builtin; refine wl_append rfl _ _ _ _ rfl _ _ rfl rfl ?_) | (at_make; refine wl_make rfl _ _ _ rfl _ _ rfl rfl ?_) | (at_mapUpdate; refine wl_mapUpdate rfl _ _ _ _ rfl _ _ _ rfl rfl rfl ?_) | (at_lookup; refine wl_lookup rfl _ _ _ _ rfl _ _ rfl rfl ?_) | (at_delete; refine wl_delete rfl _ _ _ _ rfl _ _ rfl rfl ?_) | (with_reducible refine wl_len rfl _ _ rfl _ rfl ?_) | (with_reducible refine wl_range rfl _ _ rfl _ rfl ?_) | (with_reducible refine wl_next rfl _ rfl _ rfl ?_) | (with_reducible refine wl_copy rfl _ _ _ _ rfl _ _ rfl rfl ?_) | (with_reducible refine wl_max rfl _ _ _ _ rfl _ _ rfl rfl ?_) | (with_reducible refine wl_min rfl _ _ _ _ rfl _ _ rfl rfl ?_))
      refine (rdo_cl ⟨1, t, [], 0, []⟩ ⟨by simp, by simp⟩ I.D hsm hfl (by omega) (by omega) (by omega) (by simp)).mono ?_
      rintro e Y ⟨z1, z2, z3, z4, z5, rfl, hDY, hkY⟩
      have hsm2 := on_small hsm (s := ⟨1, t, [], 0, []⟩) ⟨by first | exact htl | simp, by first | exact hsl6 | simp, by simp⟩
      have hfl2 := hfl.on (s := ⟨1, t, [], 0, []⟩)
      have he := HR.out
      rw [runS_cons] at he
      generalize Cl.on ⟨1, t, [], 0, []⟩ m = mx at *
      obtain ⟨mq, eq⟩ := mx
      simp only at *
      have HE := Lib.hid he
      clear he
      obtain ⟨y1, t1, y2, t2, y3, t3, y4, t4, y5, t5, rfl, rfl, rfl, rfl, rfl⟩ := hDY.shape
      have hB3 := I.B3.keep hkY fun h => h
      clear c1
      unfold dv
      unfold cel at hB3
      go_wp2_with (first | (at_builtin; refine wl_append rfl _ _ _ _ rfl _ _ rfl rfl ?_) | (at_make; refine wl_make rfl _ _ _ rfl _ _ rfl rfl ?_) | (at_mapUpdate; refine wl_mapUpdate rfl _ _ _ _ rfl _ _ _ rfl rfl rfl ?_) | (at_lookup; refine wl_lookup rfl _ _ _ _ rfl _ _ rfl rfl ?_) | (at_delete; refine wl_delete rfl _ _ _ _ rfl _ _ rfl rfl ?_) | (with_reducible refine wl_len rfl _ _ rfl _ rfl ?_) | (with_reducible refine wl_range rfl _ _ rfl _ rfl ?_) | (with_reducible refine wl_next rfl _ rfl _ rfl ?_) | (with_reducible refine wl_copy rfl _ _ _ _ rfl _ _ rfl rfl ?_) | (with_reducible refine wl_max rfl _ _ _ _ rfl _ _ rfl rfl ?_) | (with_reducible refine wl_min rfl _ _ _ _ rfl _ _ rfl rfl ?_) | (with_reducible refine wl_stAgg rfl _ _ _ rfl _ _ rfl rfl ?_))
      refine rg_stAgg hB3 (by kernel_rfl) (by rfl) (by simp [Value.oneCell']) ?_
      intro Z hBZ hkZ _
      replace I := I.step hDY hkY hBZ hkZ
      clear hDY hkY hBZ hkZ hB3 hsm hfl HR
      have hsm := hsm2
      have hfl := hfl2
      clear hsm2 hfl2
      have c1 := I.B3.cell
      unfold cel at c1
      have he := HE.out
      have hloop : (eq = 0 ∧ replD m s b = runS mq ((writesS t b).drop 0 ++ endS t s)) ∨ (eq ≠ 0 ∧ replD m s b = (mq, eq)) := by
        by_cases h0 : eq = 0
        · rw [if_pos h0] at he; exact .inl ⟨h0, he⟩
        · rw [if_neg h0] at he; exact .inr ⟨h0, he⟩
      clear he HE c1
      have HL := Lib.hid hloop
      clear hloop
      go_wp2_with (first | (at_builtin; refine wl_append rfl _ _ _ _ rfl _ _ rfl rfl ?_) | (at_make; refine wl_make rfl _ _ _ rfl _ _ rfl rfl ?_) | (at_mapUpdate; refine wl_mapUpdate rfl _ _ _ _ rfl _ _ _ rfl rfl rfl ?_) | (at_lookup; refine wl_lookup rfl _ _ _ _ rfl _ _ rfl rfl ?_) | (at_delete; refine wl_delete rfl _ _ _ _ rfl _ _ rfl rfl ?_) | (with_reducible refine wl_len rfl _ _ rfl _ rfl ?_) | (with_reducible refine wl_range rfl _ _ rfl _ rfl ?_) | (with_reducible refine wl_next rfl _ rfl _ rfl ?_) | (with_reducible refine wl_copy rfl _ _ _ _ rfl _ _ rfl rfl ?_) | (with_reducible refine wl_max rfl _ _ _ _ rfl _ _ rfl rfl ?_) | (with_reducible refine wl_min rfl _ _ _ _ rfl _ _ rfl rfl ?_))
      go_loopw [10, 11] (fun ev av wr => ∃ (k : Nat) (mk : M) (o1 o2 o3 o4 o5 : Value) (e : Nat), ev = .int .i64 (e : Int) ∧ av = .int .i64 ((64 * k : Nat) : Int) ∧ k ≤ pieces b.length ∧ RI A w wr w.heap.size (w.heap.size + 1) mk o1 o2 o3 o4 o5 ∧ Small mk (n + 3 + k) (N + 64 * 3 + 64 * k) ∧ Files mk (n2 + 3 + k) ∧ ((e = 0 ∧ replD m s b = runS mk ((writesS t b).drop k ++ endS t s)) ∨ (e ≠ 0 ∧ replD m s b = (mk, e)))) (fun _ av _ => 64 * pieces b.length - (intOf av).toNat)
      case atStart => exact ⟨0, mq, _, _, _, _, _, eq, rfl, rfl, Nat.zero_le _, I, hsm.mono (by omega) (by omega), hfl.mono (by omega), HL.out⟩
      case round =>
        clear I hsm hfl HL
        obtain ⟨k, mk, o1, o2, o3, o4, o5, e, rfl, rfl, hk, I, hsm, hfl, hcase⟩ := hrel
        have hpi := pieces_iff' b.length k
        obtain ⟨y1, t1, y2, t2, y3, t3, y4, t4, y5, t5, rfl, rfl, rfl, rfl, rfl⟩ := I.D.shape
        have c1 := I.B3.cell
        unfold cel at c1
        rcases hcase with ⟨rfl, HR⟩ | ⟨hne, HR⟩
        · rcases Nat.lt_or_ge (64 * k) b.length with hkl | hkl
          · have hkp := hpi.1 hkl
            have hdr : (writesS t b).drop k = writeS t b k :: (writesS t b).drop (k + 1) := by
              have hl : k < (writesS t b).length := by simp [writesS]; exact hkp
              rw [List.drop_eq_getElem_cons hl]
              simp [writesS]
            rw [hdr, List.cons_append] at HR
            have HR := Lib.hid HR
            clear hdr hpi
            have hwS : writeS t b k = ⟨2, t, [], 64 * k, (b.drop (64 * k)).take 64⟩ := rfl
            rw [hwS] at HR
            clear hwS
            have hpb : pieces b.length ≤ 16000 := by omega
            have h64 : 64 * (k + 1) = 64 * k + 64 := by omega
            generalize hat : 64 * k = at_ at *
            have hbX : Bts B wr (.slice ab b.length cb) b := Sl.keep hb I.K fun _ _ _ h => h
            have hlat : (at_ : Int) < (b.length : Int) := by omega
            have hat64 : at_ + 64 ≤ 2000000 := by omega
            rcases Nat.lt_or_ge b.length (at_ + 64) with hgt | hle
            · have hg' : (b.length : Int) < (at_ : Int) + 64 := by omega
              obtain ⟨a', cap', hrun, hsub⟩ := Bts.sub (P := Tryz.prog) (lo := at_) (hi := b.length) 46 Tryz.underlying46 (fun W => by kernel_rfl) hbX (by omega) (by omega)
              have ebody : (b.drop at_).take (b.length - at_) = (b.drop at_).take 64 := by
                rcases Nat.le_total (at_ + 64) b.length with h1 | h1
                · first | rw [Nat.add_sub_cancel_left] | (rw [List.take_of_length_le (by rw [List.length_drop]; omega), List.take_of_length_le (by rw [List.length_drop]; omega)])
                · rw [List.take_of_length_le (by rw [List.length_drop]; omega), List.take_of_length_le (by rw [List.length_drop]; omega)]
              rw [ebody] at hsub
              clear ebody
              generalize b.length - at_ = lg at *
              have hcv := conv_str hsub
              have hcast : ((at_ + 64 : Nat) : Int) = (at_ : Int) + 64 := by omega
              try rw [hcast] at hrun
              clear hcast
              have hsubd : Bts B wr.drew _ _ := Sl.keep hsub (Keep.refl No wr).drew fun _ _ _ h => h
              have hcvd := conv_str hsubd
              clear hbX hcv
              go_wp2_with (first | (at_builtin; refine wl_append rfl _ _ _ _ rfl _ _ rfl rfl ?_) | (at_make; refine wl_make rfl _ _ _ rfl _ _ rfl rfl ?_) | (at_mapUpdate; refine wl_mapUpdate rfl _ _ _ _ rfl _ _ _ rfl rfl rfl ?_) | (at_lookup; refine wl_lookup rfl _ _ _ _ rfl _ _ rfl rfl ?_) | (at_delete; refine wl_delete rfl _ _ _ _ rfl _ _ rfl rfl ?_) | (with_reducible refine wl_len rfl _ _ rfl _ rfl ?_) | (with_reducible refine wl_range rfl _ _ rfl _ rfl ?_) | (with_reducible refine wl_next rfl _ rfl _ rfl ?_) | (with_reducible refine wl_copy rfl _ _ _ _ rfl _ _ rfl rfl ?_) | (with_reducible refine wl_max rfl _ _ _ _ rfl _ _ rfl rfl ?_) | (with_reducible refine wl_min rfl _ _ _ _ rfl _ _ rfl rfl ?_))
              refine wp_region_tree (fun w' => (∀ i, w'.cell? ⟨w.heap.size, i, none⟩ = #[.int .i64 mk.room, .slice y1 mk.is.length t1, .slice y2 mk.sure.length t2, .slice y3 mk.L.length t3, .slice y4 mk.S.length t4, .slice y5 mk.wait.length t5, .bool mk.off, .int .i64 mk.cut][i]?) ∧ (convert 46 9 (.slice a' lg cap')).run Tryz.prog w' = .ok (.string ⟨((b.drop at_).take 64).toArray⟩) w') (fun j => decide (j ≤ 9)) (.st 0 (.st 1 (.st 2 (.st 3 (.st 4 (.st 5 (.st 6 (.st 7 (.ef 8 (.st 9 (.br 10 11 (.br 11 12 (.ef 12 (.ef 13 .nil)) (.ef 11 (.ef 13 .nil))) (.ef 10 (.ef 12 (.ef 13 .nil)))))))))))))) (by kernel_rfl) (by kernel_rfl) (by intro c a d v w h; cases d <;> exact h) ⟨c1, hcvd⟩ ?_
              apply tr_still (o := ⟨some 69, _, _, _, _, _⟩) rfl rfl
              · intro w' hS
                obtain ⟨q1, q2⟩ := hS
                first | (go_simp; done) | (go_simp; rfl) | rfl
              go_frame
              apply tr_still (o := ⟨some 70, _, _, _, _, _⟩) rfl rfl
              · intro w' hS
                obtain ⟨q1, q2⟩ := hS
                first | (go_simp; done) | (go_simp; rfl) | rfl
              go_frame
              apply tr_still (o := ⟨some 71, _, _, _, _, _⟩) rfl rfl
              · intro w' hS
                obtain ⟨q1, q2⟩ := hS
                first | (go_simp; done) | (go_simp; rfl) | rfl
              go_frame
              apply tr_still (o := ⟨some 72, _, _, _, _, _⟩) rfl rfl
              · intro w' hS
                obtain ⟨q1, q2⟩ := hS
                first | (go_simp; done) | (go_simp; rfl) | rfl
              go_frame
              apply tr_still (o := ⟨some 73, _, _, _, _, _⟩) rfl rfl
              · intro w' hS
                obtain ⟨q1, q2⟩ := hS
                first | (go_simp; done) | (go_simp; rfl) | rfl
              go_frame
              apply tr_still (o := ⟨some 74, _, _, _, _, _⟩) rfl rfl
              · intro w' hS
                obtain ⟨q1, q2⟩ := hS
                first | (go_simp; done) | (go_simp; rfl) | rfl
              go_frame
              apply tr_still (o := ⟨some 75, _, _, _, _, _⟩) rfl rfl
              · intro w' hS
                obtain ⟨q1, q2⟩ := hS
                first | (go_simp; done) | (go_simp; rfl) | rfl
              go_frame
              apply tr_still (o := ⟨some 76, _, _, _, _, _⟩) rfl rfl
              · intro w' hS
                obtain ⟨q1, q2⟩ := hS
                first | (go_simp; done) | (go_simp; rfl) | rfl
              go_frame
              replace I := I.no (Keep.refl No wr).drew
              refine tr_eff (o := ⟨some 77, _, _, _, _, _⟩) rfl rfl (fun K hKe => ?_)
              go_wp2_with (first | (at_builtin; refine wl_append rfl _ _ _ _ rfl _ _ rfl rfl ?_) | (at_make; refine wl_make rfl _ _ _ rfl _ _ rfl rfl ?_) | (at_mapUpdate; refine wl_mapUpdate rfl _ _ _ _ rfl _ _ _ rfl rfl rfl ?_) | (at_lookup; refine wl_lookup rfl _ _ _ _ rfl _ _ rfl rfl ?_) | (at_delete; refine wl_delete rfl _ _ _ _ rfl _ _ rfl rfl ?_) | (with_reducible refine wl_len rfl _ _ rfl _ rfl ?_) | (with_reducible refine wl_range rfl _ _ rfl _ rfl ?_) | (with_reducible refine wl_next rfl _ rfl _ rfl ?_) | (with_reducible refine wl_copy rfl _ _ _ _ rfl _ _ rfl rfl ?_) | (with_reducible refine wl_max rfl _ _ _ _ rfl _ _ rfl rfl ?_) | (with_reducible refine wl_min rfl _ _ _ _ rfl _ _ rfl rfl ?_))
              refine (rdo_cl ⟨2, t, [], at_, (b.drop at_).take 64⟩ ⟨by simp, by simp⟩ I.D hsm hfl (by omega) (by omega) (by omega) (by simp only [List.length_take]; omega)).mono ?_
              rintro e Y ⟨z1, z2, z3, z4, z5, rfl, hDY, hkY⟩
              have hsm2 := on_small hsm (s := ⟨2, t, [], at_, (b.drop at_).take 64⟩) ⟨htl, by simp, by simp only [List.length_take]; omega⟩
              have hfl2 := hfl.on (s := ⟨2, t, [], at_, (b.drop at_).take 64⟩)
              have he := HR.out
              rw [runS_cons] at he
              generalize Cl.on ⟨2, t, [], at_, (b.drop at_).take 64⟩ mk = mx at *
              obtain ⟨mq, eq⟩ := mx
              simp only at *
              have HE := Lib.hid he
              clear he
              obtain ⟨x1, s1, x2, s2, x3, s3, x4, s4, x5, s5, rfl, rfl, rfl, rfl, rfl⟩ := hDY.shape
              have hB3 := I.B3.keep hkY fun h => h
              have cY := hB3.cell
              have hcvY := conv_str (Sl.keep hsubd hkY fun _ _ _ h => h)
              unfold dv
              unfold cel at hB3 cY
              go_wp2_with (first | (at_builtin; refine wl_append rfl _ _ _ _ rfl _ _ rfl rfl ?_) | (at_make; refine wl_make rfl _ _ _ rfl _ _ rfl rfl ?_) | (at_mapUpdate; refine wl_mapUpdate rfl _ _ _ _ rfl _ _ _ rfl rfl rfl ?_) | (at_lookup; refine wl_lookup rfl _ _ _ _ rfl _ _ rfl rfl ?_) | (at_delete; refine wl_delete rfl _ _ _ _ rfl _ _ rfl rfl ?_) | (with_reducible refine wl_len rfl _ _ rfl _ rfl ?_) | (with_reducible refine wl_range rfl _ _ rfl _ rfl ?_) | (with_reducible refine wl_next rfl _ rfl _ rfl ?_) | (with_reducible refine wl_copy rfl _ _ _ _ rfl _ _ rfl rfl ?_) | (with_reducible refine wl_max rfl _ _ _ _ rfl _ _ rfl rfl ?_) | (with_reducible refine wl_min rfl _ _ _ _ rfl _ _ rfl rfl ?_))
              refine ⟨fun _ => ⟨cY, hcvY⟩, ?_⟩
              apply tr_still (o := ⟨some 68, _, _, _, _, _⟩) rfl rfl
              · intro w' hS
                obtain ⟨q1, q2⟩ := hS
                first | (go_simp; done) | (go_simp; rfl) | rfl
              go_frame
              refine tr_br (o := ⟨some 78, _, _, _, _, _⟩) (o' := ⟨some 79, _, _, _, _, _⟩) rfl rfl rfl rfl (fun K hKe => ?_) (fun K hKe => ?_)
              · go_wp2_with (first | (at_builtin; refine wl_append rfl _ _ _ _ rfl _ _ rfl rfl ?_) | (at_make; refine wl_make rfl _ _ _ rfl _ _ rfl rfl ?_) | (at_mapUpdate; refine wl_mapUpdate rfl _ _ _ _ rfl _ _ _ rfl rfl rfl ?_) | (at_lookup; refine wl_lookup rfl _ _ _ _ rfl _ _ rfl rfl ?_) | (at_delete; refine wl_delete rfl _ _ _ _ rfl _ _ rfl rfl ?_) | (with_reducible refine wl_len rfl _ _ rfl _ rfl ?_) | (with_reducible refine wl_range rfl _ _ rfl _ rfl ?_) | (with_reducible refine wl_next rfl _ rfl _ rfl ?_) | (with_reducible refine wl_copy rfl _ _ _ _ rfl _ _ rfl rfl ?_) | (with_reducible refine wl_max rfl _ _ _ _ rfl _ _ rfl rfl ?_) | (with_reducible refine wl_min rfl _ _ _ _ rfl _ _ rfl rfl ?_))
                refine ⟨fun h => by simp at h, ?_⟩
                refine tr_br (o := ⟨some 79, _, _, _, _, _⟩) (o' := ⟨none, _, _, _, _, _⟩) rfl rfl rfl rfl (fun K hKe => ?_) (fun K hKe => ?_)
                · go_wp2_with (first | (at_builtin; refine wl_append rfl _ _ _ _ rfl _ _ rfl rfl ?_) | (at_make; refine wl_make rfl _ _ _ rfl _ _ rfl rfl ?_) | (at_mapUpdate; refine wl_mapUpdate rfl _ _ _ _ rfl _ _ _ rfl rfl rfl ?_) | (at_lookup; refine wl_lookup rfl _ _ _ _ rfl _ _ rfl rfl ?_) | (at_delete; refine wl_delete rfl _ _ _ _ rfl _ _ rfl rfl ?_) | (with_reducible refine wl_len rfl _ _ rfl _ rfl ?_) | (with_reducible refine wl_range rfl _ _ rfl _ rfl ?_) | (with_reducible refine wl_next rfl _ rfl _ rfl ?_) | (with_reducible refine wl_copy rfl _ _ _ _ rfl _ _ rfl rfl ?_) | (with_reducible refine wl_max rfl _ _ _ _ rfl _ _ rfl rfl ?_) | (with_reducible refine wl_min rfl _ _ _ _ rfl _ _ rfl rfl ?_))
                  refine ⟨fun h => by simp at h, ?_⟩
                  refine tr_eff (o := ⟨none, _, _, _, _, _⟩) rfl rfl (fun K hKe => ?_)
                  refine wo_stAgg (.tmp 3) (.tmp 78) 30 rfl _ _ rfl rfl ?_
                  refine rg_stAgg hB3 (by kernel_rfl) (by rfl) (by simp [Value.oneCell']) ?_
                  intro Z hBZ hkZ _
                  replace I := I.step hDY hkY hBZ hkZ
                  refine hKe _ _ ⟨fun h => by simp at h, ?_⟩
                  clear hDY hkY hBZ hkZ hB3 hsm hfl HR c1 cY hcvY hcvd hsub hsubd
                  refine tr_eff (o := ⟨some 10, _, _, _, _, _⟩) rfl rfl (fun K hKe => ?_)
                  go_wp2_with (first | (at_builtin; refine wl_append rfl _ _ _ _ rfl _ _ rfl rfl ?_) | (at_make; refine wl_make rfl _ _ _ rfl _ _ rfl rfl ?_) | (at_mapUpdate; refine wl_mapUpdate rfl _ _ _ _ rfl _ _ _ rfl rfl rfl ?_) | (at_lookup; refine wl_lookup rfl _ _ _ _ rfl _ _ rfl rfl ?_) | (at_delete; refine wl_delete rfl _ _ _ _ rfl _ _ rfl rfl ?_) | (with_reducible refine wl_len rfl _ _ rfl _ rfl ?_) | (with_reducible refine wl_range rfl _ _ rfl _ rfl ?_) | (with_reducible refine wl_next rfl _ rfl _ rfl ?_) | (with_reducible refine wl_copy rfl _ _ _ _ rfl _ _ rfl rfl ?_) | (with_reducible refine wl_max rfl _ _ _ _ rfl _ _ rfl rfl ?_) | (with_reducible refine wl_min rfl _ _ _ _ rfl _ _ rfl rfl ?_))
                  refine ⟨fun h => by simp at h, tr_nil ?_⟩
                  go_wp2_with (first | (at_builtin; refine wl_append rfl _ _ _ _ rfl _ _ rfl rfl ?_) | (at_make; refine wl_make rfl _ _ _ rfl _ _ rfl rfl ?_) | (at_mapUpdate; refine wl_mapUpdate rfl _ _ _ _ rfl _ _ _ rfl rfl rfl ?_) | (at_lookup; refine wl_lookup rfl _ _ _ _ rfl _ _ rfl rfl ?_) | (at_delete; refine wl_delete rfl _ _ _ _ rfl _ _ rfl rfl ?_) | (with_reducible refine wl_len rfl _ _ rfl _ rfl ?_) | (with_reducible refine wl_range rfl _ _ rfl _ rfl ?_) | (with_reducible refine wl_next rfl _ rfl _ rfl ?_) | (with_reducible refine wl_copy rfl _ _ _ _ rfl _ _ rfl rfl ?_) | (with_reducible refine wl_max rfl _ _ _ _ rfl _ _ rfl rfl ?_) | (with_reducible refine wl_min rfl _ _ _ _ rfl _ _ rfl rfl ?_))
                  have he := HE.out
                  have hloop : (eq = 0 ∧ replD m s b = runS mq ((writesS t b).drop (k + 1) ++ endS t s)) ∨ (eq ≠ 0 ∧ replD m s b = (mq, eq)) := by
                    by_cases h0 : eq = 0
                    · rw [if_pos h0] at he; exact .inl ⟨h0, he⟩
                    · rw [if_neg h0] at he; exact .inr ⟨h0, he⟩
                  go_roundw
                  case rel => exact ⟨k + 1, mq, _, _, _, _, _, eq, rfl, by rw [h64]; go_num, hkp, I, hsm2.mono (by omega) (by omega), hfl2.mono (by omega), hloop⟩
                  case measure => simp only [intOf]; omega
                · skip
                  refine wo_stAgg (.tmp 3) (.tmp 78) 30 rfl _ _ rfl rfl ?_
                  refine rg_stAgg hB3 (by kernel_rfl) (by rfl) (by simp [Value.oneCell']) ?_
                  intro Z hBZ hkZ _
                  replace I := I.step hDY hkY hBZ hkZ
                  refine hKe _ _ ⟨fun h => by simp at h, ?_⟩
                  clear hDY hkY hBZ hkZ hB3 hsm hfl HR c1 cY hcvY hcvd hsub hsubd
                  refine tr_eff (o := ⟨some 79, _, _, _, _, _⟩) rfl rfl (fun K hKe => ?_)
                  go_wp2_with (first | (at_builtin; refine wl_append rfl _ _ _ _ rfl _ _ rfl rfl ?_) | (at_make; refine wl_make rfl _ _ _ rfl _ _ rfl rfl ?_) | (at_mapUpdate; refine wl_mapUpdate rfl _ _ _ _ rfl _ _ _ rfl rfl rfl ?_) | (at_lookup; refine wl_lookup rfl _ _ _ _ rfl _ _ rfl rfl ?_) | (at_delete; refine wl_delete rfl _ _ _ _ rfl _ _ rfl rfl ?_) | (with_reducible refine wl_len rfl _ _ rfl _ rfl ?_) | (with_reducible refine wl_range rfl _ _ rfl _ rfl ?_) | (with_reducible refine wl_next rfl _ rfl _ rfl ?_) | (with_reducible refine wl_copy rfl _ _ _ _ rfl _ _ rfl rfl ?_) | (with_reducible refine wl_max rfl _ _ _ _ rfl _ _ rfl rfl ?_) | (with_reducible refine wl_min rfl _ _ _ _ rfl _ _ rfl rfl ?_))
                  refine ⟨fun h => by simp at h, ?_⟩
                  refine tr_eff (o := ⟨some 10, _, _, _, _, _⟩) rfl rfl (fun K hKe => ?_)
                  go_wp2_with (first | (at_builtin; refine wl_append rfl _ _ _ _ rfl _ _ rfl rfl ?_) | (at_make; refine wl_make rfl _ _ _ rfl _ _ rfl rfl ?_) | (at_mapUpdate; refine wl_mapUpdate rfl _ _ _ _ rfl _ _ _ rfl rfl rfl ?_) | (at_lookup; refine wl_lookup rfl _ _ _ _ rfl _ _ rfl rfl ?_) | (at_delete; refine wl_delete rfl _ _ _ _ rfl _ _ rfl rfl ?_) | (with_reducible refine wl_len rfl _ _ rfl _ rfl ?_) | (with_reducible refine wl_range rfl _ _ rfl _ rfl ?_) | (with_reducible refine wl_next rfl _ rfl _ rfl ?_) | (with_reducible refine wl_copy rfl _ _ _ _ rfl _ _ rfl rfl ?_) | (with_reducible refine wl_max rfl _ _ _ _ rfl _ _ rfl rfl ?_) | (with_reducible refine wl_min rfl _ _ _ _ rfl _ _ rfl rfl ?_))
                  refine ⟨fun h => by simp at h, tr_nil ?_⟩
                  go_wp2_with (first | (at_builtin; refine wl_append rfl _ _ _ _ rfl _ _ rfl rfl ?_) | (at_make; refine wl_make rfl _ _ _ rfl _ _ rfl rfl ?_) | (at_mapUpdate; refine wl_mapUpdate rfl _ _ _ _ rfl _ _ _ rfl rfl rfl ?_) | (at_lookup; refine wl_lookup rfl _ _ _ _ rfl _ _ rfl rfl ?_) | (at_delete; refine wl_delete rfl _ _ _ _ rfl _ _ rfl rfl ?_) | (with_reducible refine wl_len rfl _ _ rfl _ rfl ?_) | (with_reducible refine wl_range rfl _ _ rfl _ rfl ?_) | (with_reducible refine wl_next rfl _ rfl _ rfl ?_) | (with_reducible refine wl_copy rfl _ _ _ _ rfl _ _ rfl rfl ?_) | (with_reducible refine wl_max rfl _ _ _ _ rfl _ _ rfl rfl ?_) | (with_reducible refine wl_min rfl _ _ _ _ rfl _ _ rfl rfl ?_))
                  have he := HE.out
                  have hloop : (eq = 0 ∧ replD m s b = runS mq ((writesS t b).drop (k + 1) ++ endS t s)) ∨ (eq ≠ 0 ∧ replD m s b = (mq, eq)) := by
                    by_cases h0 : eq = 0
                    · rw [if_pos h0] at he; exact .inl ⟨h0, he⟩
                    · rw [if_neg h0] at he; exact .inr ⟨h0, he⟩
                  go_roundw
                  case rel => exact ⟨k + 1, mq, _, _, _, _, _, eq, rfl, by rw [h64]; go_num, hkp, I, hsm2.mono (by omega) (by omega), hfl2.mono (by omega), hloop⟩
                  case measure => simp only [intOf]; omega
              · go_wp2_with (first | (at_builtin; refine wl_append rfl _ _ _ _ rfl _ _ rfl rfl ?_) | (at_make; refine wl_make rfl _ _ _ rfl _ _ rfl rfl ?_) | (at_mapUpdate; refine wl_mapUpdate rfl _ _ _ _ rfl _ _ _ rfl rfl rfl ?_) | (at_lookup; refine wl_lookup rfl _ _ _ _ rfl _ _ rfl rfl ?_) | (at_delete; refine wl_delete rfl _ _ _ _ rfl _ _ rfl rfl ?_) | (with_reducible refine wl_len rfl _ _ rfl _ rfl ?_) | (with_reducible refine wl_range rfl _ _ rfl _ rfl ?_) | (with_reducible refine wl_next rfl _ rfl _ rfl ?_) | (with_reducible refine wl_copy rfl _ _ _ _ rfl _ _ rfl rfl ?_) | (with_reducible refine wl_max rfl _ _ _ _ rfl _ _ rfl rfl ?_) | (with_reducible refine wl_min rfl _ _ _ _ rfl _ _ rfl rfl ?_))
                refine ⟨fun h => by simp at h, ?_⟩
                refine tr_eff (o := ⟨some 78, _, _, _, _, _⟩) rfl rfl (fun K hKe => ?_)
                go_wp2_with (first | (at_builtin; refine wl_append rfl _ _ _ _ rfl _ _ rfl rfl ?_) | (at_make; refine wl_make rfl _ _ _ rfl _ _ rfl rfl ?_) | (at_mapUpdate; refine wl_mapUpdate rfl _ _ _ _ rfl _ _ _ rfl rfl rfl ?_) | (at_lookup; refine wl_lookup rfl _ _ _ _ rfl _ _ rfl rfl ?_) | (at_delete; refine wl_delete rfl _ _ _ _ rfl _ _ rfl rfl ?_) | (with_reducible refine wl_len rfl _ _ rfl _ rfl ?_) | (with_reducible refine wl_range rfl _ _ rfl _ rfl ?_) | (with_reducible refine wl_next rfl _ rfl _ rfl ?_) | (with_reducible refine wl_copy rfl _ _ _ _ rfl _ _ rfl rfl ?_) | (with_reducible refine wl_max rfl _ _ _ _ rfl _ _ rfl rfl ?_) | (with_reducible refine wl_min rfl _ _ _ _ rfl _ _ rfl rfl ?_))
                refine ⟨fun h => by simp at h, ?_⟩
                refine tr_eff (o := ⟨none, _, _, _, _, _⟩) rfl rfl (fun K hKe => ?_)
                refine wo_stAgg (.tmp 3) (.tmp 78) 30 rfl _ _ rfl rfl ?_
                refine rg_stAgg hB3 (by kernel_rfl) (by rfl) (by simp [Value.oneCell']) ?_
                intro Z hBZ hkZ _
                replace I := I.step hDY hkY hBZ hkZ
                refine hKe _ _ ⟨fun h => by simp at h, ?_⟩
                clear hDY hkY hBZ hkZ hB3 hsm hfl HR c1 cY hcvY hcvd hsub hsubd
                refine tr_eff (o := ⟨some 10, _, _, _, _, _⟩) rfl rfl (fun K hKe => ?_)
                go_wp2_with (first | (at_builtin; refine wl_append rfl _ _ _ _ rfl _ _ rfl rfl ?_) | (at_make; refine wl_make rfl _ _ _ rfl _ _ rfl rfl ?_) | (at_mapUpdate; refine wl_mapUpdate rfl _ _ _ _ rfl _ _ _ rfl rfl rfl ?_) | (at_lookup; refine wl_lookup rfl _ _ _ _ rfl _ _ rfl rfl ?_) | (at_delete; refine wl_delete rfl _ _ _ _ rfl _ _ rfl rfl ?_) | (with_reducible refine wl_len rfl _ _ rfl _ rfl ?_) | (with_reducible refine wl_range rfl _ _ rfl _ rfl ?_) | (with_reducible refine wl_next rfl _ rfl _ rfl ?_) | (with_reducible refine wl_copy rfl _ _ _ _ rfl _ _ rfl rfl ?_) | (with_reducible refine wl_max rfl _ _ _ _ rfl _ _ rfl rfl ?_) | (with_reducible refine wl_min rfl _ _ _ _ rfl _ _ rfl rfl ?_))
                refine ⟨fun h => by simp at h, tr_nil ?_⟩
                go_wp2_with (first | (at_builtin; refine wl_append rfl _ _ _ _ rfl _ _ rfl rfl ?_) | (at_make; refine wl_make rfl _ _ _ rfl _ _ rfl rfl ?_) | (at_mapUpdate; refine wl_mapUpdate rfl _ _ _ _ rfl _ _ _ rfl rfl rfl ?_) | (at_lookup; refine wl_lookup rfl _ _ _ _ rfl _ _ rfl rfl ?_) | (at_delete; refine wl_delete rfl _ _ _ _ rfl _ _ rfl rfl ?_) | (with_reducible refine wl_len rfl _ _ rfl _ rfl ?_) | (with_reducible refine wl_range rfl _ _ rfl _ rfl ?_) | (with_reducible refine wl_next rfl _ rfl _ rfl ?_) | (with_reducible refine wl_copy rfl _ _ _ _ rfl _ _ rfl rfl ?_) | (with_reducible refine wl_max rfl _ _ _ _ rfl _ _ rfl rfl ?_) | (with_reducible refine wl_min rfl _ _ _ _ rfl _ _ rfl rfl ?_))
                have he := HE.out
                have hloop : (eq = 0 ∧ replD m s b = runS mq ((writesS t b).drop (k + 1) ++ endS t s)) ∨ (eq ≠ 0 ∧ replD m s b = (mq, eq)) := by
                  by_cases h0 : eq = 0
                  · rw [if_pos h0] at he; exact .inl ⟨h0, he⟩
                  · rw [if_neg h0] at he; exact .inr ⟨h0, he⟩
                go_roundw
                case rel => exact ⟨k + 1, mq, _, _, _, _, _, eq, rfl, by rw [h64]; go_num, hkp, I, hsm2.mono (by omega) (by omega), hfl2.mono (by omega), hloop⟩
                case measure => simp only [intOf]; omega
            · have hg' : (at_ : Int) + 64 ≤ (b.length : Int) := by omega
              obtain ⟨a', cap', hrun, hsub⟩ := Bts.sub (P := Tryz.prog) (lo := at_) (hi := (at_ + 64)) 46 Tryz.underlying46 (fun W => by kernel_rfl) hbX (by omega) (by omega)
              have ebody : (b.drop at_).take ((at_ + 64) - at_) = (b.drop at_).take 64 := by
                rcases Nat.le_total (at_ + 64) b.length with h1 | h1
                · first | rw [Nat.add_sub_cancel_left] | (rw [List.take_of_length_le (by rw [List.length_drop]; omega), List.take_of_length_le (by rw [List.length_drop]; omega)])
                · rw [List.take_of_length_le (by rw [List.length_drop]; omega), List.take_of_length_le (by rw [List.length_drop]; omega)]
              rw [ebody] at hsub
              clear ebody
              generalize (at_ + 64) - at_ = lg at *
              have hcv := conv_str hsub
              have hcast : ((at_ + 64 : Nat) : Int) = (at_ : Int) + 64 := by omega
              try rw [hcast] at hrun
              clear hcast
              have hsubd : Bts B wr.drew _ _ := Sl.keep hsub (Keep.refl No wr).drew fun _ _ _ h => h
              have hcvd := conv_str hsubd
              clear hbX hcv
              go_wp2_with (first | (at_builtin; refine wl_append rfl _ _ _ _ rfl _ _ rfl rfl ?_) | (at_make; refine wl_make rfl _ _ _ rfl _ _ rfl rfl ?_) | (at_mapUpdate; refine wl_mapUpdate rfl _ _ _ _ rfl _ _ _ rfl rfl rfl ?_) | (at_lookup; refine wl_lookup rfl _ _ _ _ rfl _ _ rfl rfl ?_) | (at_delete; refine wl_delete rfl _ _ _ _ rfl _ _ rfl rfl ?_) | (with_reducible refine wl_len rfl _ _ rfl _ rfl ?_) | (with_reducible refine wl_range rfl _ _ rfl _ rfl ?_) | (with_reducible refine wl_next rfl _ rfl _ rfl ?_) | (with_reducible refine wl_copy rfl _ _ _ _ rfl _ _ rfl rfl ?_) | (with_reducible refine wl_max rfl _ _ _ _ rfl _ _ rfl rfl ?_) | (with_reducible refine wl_min rfl _ _ _ _ rfl _ _ rfl rfl ?_))
              refine wp_region_tree (fun w' => (∀ i, w'.cell? ⟨w.heap.size, i, none⟩ = #[.int .i64 mk.room, .slice y1 mk.is.length t1, .slice y2 mk.sure.length t2, .slice y3 mk.L.length t3, .slice y4 mk.S.length t4, .slice y5 mk.wait.length t5, .bool mk.off, .int .i64 mk.cut][i]?) ∧ (convert 46 9 (.slice a' lg cap')).run Tryz.prog w' = .ok (.string ⟨((b.drop at_).take 64).toArray⟩) w') (fun j => decide (j ≤ 9)) (.st 0 (.st 1 (.st 2 (.st 3 (.st 4 (.st 5 (.st 6 (.st 7 (.ef 8 (.st 9 (.br 10 11 (.br 11 12 (.ef 12 (.ef 13 .nil)) (.ef 11 (.ef 13 .nil))) (.ef 10 (.ef 12 (.ef 13 .nil)))))))))))))) (by kernel_rfl) (by kernel_rfl) (by intro c a d v w h; cases d <;> exact h) ⟨c1, hcvd⟩ ?_
              apply tr_still (o := ⟨some 69, _, _, _, _, _⟩) rfl rfl
              · intro w' hS
                obtain ⟨q1, q2⟩ := hS
                first | (go_simp; done) | (go_simp; rfl) | rfl
              go_frame
              apply tr_still (o := ⟨some 70, _, _, _, _, _⟩) rfl rfl
              · intro w' hS
                obtain ⟨q1, q2⟩ := hS
                first | (go_simp; done) | (go_simp; rfl) | rfl
              go_frame
              apply tr_still (o := ⟨some 71, _, _, _, _, _⟩) rfl rfl
              · intro w' hS
                obtain ⟨q1, q2⟩ := hS
                first | (go_simp; done) | (go_simp; rfl) | rfl
              go_frame
              apply tr_still (o := ⟨some 72, _, _, _, _, _⟩) rfl rfl
              · intro w' hS
                obtain ⟨q1, q2⟩ := hS
                first | (go_simp; done) | (go_simp; rfl) | rfl
              go_frame
              apply tr_still (o := ⟨some 73, _, _, _, _, _⟩) rfl rfl
              · intro w' hS
                obtain ⟨q1, q2⟩ := hS
                first | (go_simp; done) | (go_simp; rfl) | rfl
              go_frame
              apply tr_still (o := ⟨some 74, _, _, _, _, _⟩) rfl rfl
              · intro w' hS
                obtain ⟨q1, q2⟩ := hS
                first | (go_simp; done) | (go_simp; rfl) | rfl
              go_frame
              apply tr_still (o := ⟨some 75, _, _, _, _, _⟩) rfl rfl
              · intro w' hS
                obtain ⟨q1, q2⟩ := hS
                first | (go_simp; done) | (go_simp; rfl) | rfl
              go_frame
              apply tr_still (o := ⟨some 76, _, _, _, _, _⟩) rfl rfl
              · intro w' hS
                obtain ⟨q1, q2⟩ := hS
                first | (go_simp; done) | (go_simp; rfl) | rfl
              go_frame
              replace I := I.no (Keep.refl No wr).drew
              refine tr_eff (o := ⟨some 77, _, _, _, _, _⟩) rfl rfl (fun K hKe => ?_)
              go_wp2_with (first | (at_builtin; refine wl_append rfl _ _ _ _ rfl _ _ rfl rfl ?_) | (at_make; refine wl_make rfl _ _ _ rfl _ _ rfl rfl ?_) | (at_mapUpdate; refine wl_mapUpdate rfl _ _ _ _ rfl _ _ _ rfl rfl rfl ?_) | (at_lookup; refine wl_lookup rfl _ _ _ _ rfl _ _ rfl rfl ?_) | (at_delete; refine wl_delete rfl _ _ _ _ rfl _ _ rfl rfl ?_) | (with_reducible refine wl_len rfl _ _ rfl _ rfl ?_) | (with_reducible refine wl_range rfl _ _ rfl _ rfl ?_) | (with_reducible refine wl_next rfl _ rfl _ rfl ?_) | (with_reducible refine wl_copy rfl _ _ _ _ rfl _ _ rfl rfl ?_) | (with_reducible refine wl_max rfl _ _ _ _ rfl _ _ rfl rfl ?_) | (with_reducible refine wl_min rfl _ _ _ _ rfl _ _ rfl rfl ?_))
              refine (rdo_cl ⟨2, t, [], at_, (b.drop at_).take 64⟩ ⟨by simp, by simp⟩ I.D hsm hfl (by omega) (by omega) (by omega) (by simp only [List.length_take]; omega)).mono ?_
              rintro e Y ⟨z1, z2, z3, z4, z5, rfl, hDY, hkY⟩
              have hsm2 := on_small hsm (s := ⟨2, t, [], at_, (b.drop at_).take 64⟩) ⟨htl, by simp, by simp only [List.length_take]; omega⟩
              have hfl2 := hfl.on (s := ⟨2, t, [], at_, (b.drop at_).take 64⟩)
              have he := HR.out
              rw [runS_cons] at he
              generalize Cl.on ⟨2, t, [], at_, (b.drop at_).take 64⟩ mk = mx at *
              obtain ⟨mq, eq⟩ := mx
              simp only at *
              have HE := Lib.hid he
              clear he
              obtain ⟨x1, s1, x2, s2, x3, s3, x4, s4, x5, s5, rfl, rfl, rfl, rfl, rfl⟩ := hDY.shape
              have hB3 := I.B3.keep hkY fun h => h
              have cY := hB3.cell
              have hcvY := conv_str (Sl.keep hsubd hkY fun _ _ _ h => h)
              unfold dv
              unfold cel at hB3 cY
              go_wp2_with (first | (at_builtin; refine wl_append rfl _ _ _ _ rfl _ _ rfl rfl ?_) | (at_make; refine wl_make rfl _ _ _ rfl _ _ rfl rfl ?_) | (at_mapUpdate; refine wl_mapUpdate rfl _ _ _ _ rfl _ _ _ rfl rfl rfl ?_) | (at_lookup; refine wl_lookup rfl _ _ _ _ rfl _ _ rfl rfl ?_) | (at_delete; refine wl_delete rfl _ _ _ _ rfl _ _ rfl rfl ?_) | (with_reducible refine wl_len rfl _ _ rfl _ rfl ?_) | (with_reducible refine wl_range rfl _ _ rfl _ rfl ?_) | (with_reducible refine wl_next rfl _ rfl _ rfl ?_) | (with_reducible refine wl_copy rfl _ _ _ _ rfl _ _ rfl rfl ?_) | (with_reducible refine wl_max rfl _ _ _ _ rfl _ _ rfl rfl ?_) | (with_reducible refine wl_min rfl _ _ _ _ rfl _ _ rfl rfl ?_))
              refine ⟨fun _ => ⟨cY, hcvY⟩, ?_⟩
              apply tr_still (o := ⟨some 68, _, _, _, _, _⟩) rfl rfl
              · intro w' hS
                obtain ⟨q1, q2⟩ := hS
                first | (go_simp; done) | (go_simp; rfl) | rfl
              go_frame
              refine tr_br (o := ⟨some 78, _, _, _, _, _⟩) (o' := ⟨some 79, _, _, _, _, _⟩) rfl rfl rfl rfl (fun K hKe => ?_) (fun K hKe => ?_)
              · go_wp2_with (first | (at_builtin; refine wl_append rfl _ _ _ _ rfl _ _ rfl rfl ?_) | (at_make; refine wl_make rfl _ _ _ rfl _ _ rfl rfl ?_) | (at_mapUpdate; refine wl_mapUpdate rfl _ _ _ _ rfl _ _ _ rfl rfl rfl ?_) | (at_lookup; refine wl_lookup rfl _ _ _ _ rfl _ _ rfl rfl ?_) | (at_delete; refine wl_delete rfl _ _ _ _ rfl _ _ rfl rfl ?_) | (with_reducible refine wl_len rfl _ _ rfl _ rfl ?_) | (with_reducible refine wl_range rfl _ _ rfl _ rfl ?_) | (with_reducible refine wl_next rfl _ rfl _ rfl ?_) | (with_reducible refine wl_copy rfl _ _ _ _ rfl _ _ rfl rfl ?_) | (with_reducible refine wl_max rfl _ _ _ _ rfl _ _ rfl rfl ?_) | (with_reducible refine wl_min rfl _ _ _ _ rfl _ _ rfl rfl ?_))
                refine ⟨fun h => by simp at h, ?_⟩
                refine tr_br (o := ⟨some 79, _, _, _, _, _⟩) (o' := ⟨none, _, _, _, _, _⟩) rfl rfl rfl rfl (fun K hKe => ?_) (fun K hKe => ?_)
                · go_wp2_with (first | (at_builtin; refine wl_append rfl _ _ _ _ rfl _ _ rfl rfl ?_) | (at_make; refine wl_make rfl _ _ _ rfl _ _ rfl rfl ?_) | (at_mapUpdate; refine wl_mapUpdate rfl _ _ _ _ rfl _ _ _ rfl rfl rfl ?_) | (at_lookup; refine wl_lookup rfl _ _ _ _ rfl _ _ rfl rfl ?_) | (at_delete; refine wl_delete rfl _ _ _ _ rfl _ _ rfl rfl ?_) | (with_reducible refine wl_len rfl _ _ rfl _ rfl ?_) | (with_reducible refine wl_range rfl _ _ rfl _ rfl ?_) | (with_reducible refine wl_next rfl _ rfl _ rfl ?_) | (with_reducible refine wl_copy rfl _ _ _ _ rfl _ _ rfl rfl ?_) | (with_reducible refine wl_max rfl _ _ _ _ rfl _ _ rfl rfl ?_) | (with_reducible refine wl_min rfl _ _ _ _ rfl _ _ rfl rfl ?_))
                  refine ⟨fun h => by simp at h, ?_⟩
                  refine tr_eff (o := ⟨none, _, _, _, _, _⟩) rfl rfl (fun K hKe => ?_)
                  refine wo_stAgg (.tmp 3) (.tmp 78) 30 rfl _ _ rfl rfl ?_
                  refine rg_stAgg hB3 (by kernel_rfl) (by rfl) (by simp [Value.oneCell']) ?_
                  intro Z hBZ hkZ _
                  replace I := I.step hDY hkY hBZ hkZ
                  refine hKe _ _ ⟨fun h => by simp at h, ?_⟩
                  clear hDY hkY hBZ hkZ hB3 hsm hfl HR c1 cY hcvY hcvd hsub hsubd
                  refine tr_eff (o := ⟨some 10, _, _, _, _, _⟩) rfl rfl (fun K hKe => ?_)
                  go_wp2_with (first | (at_builtin; refine wl_append rfl _ _ _ _ rfl _ _ rfl rfl ?_) | (at_make; refine wl_make rfl _ _ _ rfl _ _ rfl rfl ?_) | (at_mapUpdate; refine wl_mapUpdate rfl _ _ _ _ rfl _ _ _ rfl rfl rfl ?_) | (at_lookup; refine wl_lookup rfl _ _ _ _ rfl _ _ rfl rfl ?_) | (at_delete; refine wl_delete rfl _ _ _ _ rfl _ _ rfl rfl ?_) | (with_reducible refine wl_len rfl _ _ rfl _ rfl ?_) | (with_reducible refine wl_range rfl _ _ rfl _ rfl ?_) | (with_reducible refine wl_next rfl _ rfl _ rfl ?_) | (with_reducible refine wl_copy rfl _ _ _ _ rfl _ _ rfl rfl ?_) | (with_reducible refine wl_max rfl _ _ _ _ rfl _ _ rfl rfl ?_) | (with_reducible refine wl_min rfl _ _ _ _ rfl _ _ rfl rfl ?_))
                  refine ⟨fun h => by simp at h, tr_nil ?_⟩
                  go_wp2_with (first | (at_builtin; refine wl_append rfl _ _ _ _ rfl _ _ rfl rfl ?_) | (at_make; refine wl_make rfl _ _ _ rfl _ _ rfl rfl ?_) | (at_mapUpdate; refine wl_mapUpdate rfl _ _ _ _ rfl _ _ _ rfl rfl rfl ?_) | (at_lookup; refine wl_lookup rfl _ _ _ _ rfl _ _ rfl rfl ?_) | (at_delete; refine wl_delete rfl _ _ _ _ rfl _ _ rfl rfl ?_) | (with_reducible refine wl_len rfl _ _ rfl _ rfl ?_) | (with_reducible refine wl_range rfl _ _ rfl _ rfl ?_) | (with_reducible refine wl_next rfl _ rfl _ rfl ?_) | (with_reducible refine wl_copy rfl _ _ _ _ rfl _ _ rfl rfl ?_) | (with_reducible refine wl_max rfl _ _ _ _ rfl _ _ rfl rfl ?_) | (with_reducible refine wl_min rfl _ _ _ _ rfl _ _ rfl rfl ?_))
                  have he := HE.out
                  have hloop : (eq = 0 ∧ replD m s b = runS mq ((writesS t b).drop (k + 1) ++ endS t s)) ∨ (eq ≠ 0 ∧ replD m s b = (mq, eq)) := by
                    by_cases h0 : eq = 0
                    · rw [if_pos h0] at he; exact .inl ⟨h0, he⟩
                    · rw [if_neg h0] at he; exact .inr ⟨h0, he⟩
                  go_roundw
                  case rel => exact ⟨k + 1, mq, _, _, _, _, _, eq, rfl, by rw [h64]; go_num, hkp, I, hsm2.mono (by omega) (by omega), hfl2.mono (by omega), hloop⟩
                  case measure => simp only [intOf]; omega
                · skip
                  refine wo_stAgg (.tmp 3) (.tmp 78) 30 rfl _ _ rfl rfl ?_
                  refine rg_stAgg hB3 (by kernel_rfl) (by rfl) (by simp [Value.oneCell']) ?_
                  intro Z hBZ hkZ _
                  replace I := I.step hDY hkY hBZ hkZ
                  refine hKe _ _ ⟨fun h => by simp at h, ?_⟩
                  clear hDY hkY hBZ hkZ hB3 hsm hfl HR c1 cY hcvY hcvd hsub hsubd
                  refine tr_eff (o := ⟨some 79, _, _, _, _, _⟩) rfl rfl (fun K hKe => ?_)
                  go_wp2_with (first | (at_builtin; refine wl_append rfl _ _ _ _ rfl _ _ rfl rfl ?_) | (at_make; refine wl_make rfl _ _ _ rfl _ _ rfl rfl ?_) | (at_mapUpdate; refine wl_mapUpdate rfl _ _ _ _ rfl _ _ _ rfl rfl rfl ?_) | (at_lookup; refine wl_lookup rfl _ _ _ _ rfl _ _ rfl rfl ?_) | (at_delete; refine wl_delete rfl _ _ _ _ rfl _ _ rfl rfl ?_) | (with_reducible refine wl_len rfl _ _ rfl _ rfl ?_) | (with_reducible refine wl_range rfl _ _ rfl _ rfl ?_) | (with_reducible refine wl_next rfl _ rfl _ rfl ?_) | (with_reducible refine wl_copy rfl _ _ _ _ rfl _ _ rfl rfl ?_) | (with_reducible refine wl_max rfl _ _ _ _ rfl _ _ rfl rfl ?_) | (with_reducible refine wl_min rfl _ _ _ _ rfl _ _ rfl rfl ?_))
                  refine ⟨fun h => by simp at h, ?_⟩
                  refine tr_eff (o := ⟨some 10, _, _, _, _, _⟩) rfl rfl (fun K hKe => ?_)
                  go_wp2_with (first | (at_builtin; refine wl_append rfl _ _ _ _ rfl _ _ rfl rfl ?_) | (at_make; refine wl_make rfl _ _ _ rfl _ _ rfl rfl ?_) | (at_mapUpdate; refine wl_mapUpdate rfl _ _ _ _ rfl _ _ _ rfl rfl rfl ?_) | (at_lookup; refine wl_lookup rfl _ _ _ _ rfl _ _ rfl rfl ?_) | (at_delete; refine wl_delete rfl _ _ _ _ rfl _ _ rfl rfl ?_) | (with_reducible refine wl_len rfl _ _ rfl _ rfl ?_) | (with_reducible refine wl_range rfl _ _ rfl _ rfl ?_) | (with_reducible refine wl_next rfl _ rfl _ rfl ?_) | (with_reducible refine wl_copy rfl _ _ _ _ rfl _ _ rfl rfl ?_) | (with_reducible refine wl_max rfl _ _ _ _ rfl _ _ rfl rfl ?_) | (with_reducible refine wl_min rfl _ _ _ _ rfl _ _ rfl rfl ?_))
                  refine ⟨fun h => by simp at h, tr_nil ?_⟩
                  go_wp2_with (first | (at_builtin; refine wl_append rfl _ _ _ _ rfl _ _ rfl rfl ?_) | (at_make; refine wl_make rfl _ _ _ rfl _ _ rfl rfl ?_) | (at_mapUpdate; refine wl_mapUpdate rfl _ _ _ _ rfl _ _ _ rfl rfl rfl ?_) | (at_lookup; refine wl_lookup rfl _ _ _ _ rfl _ _ rfl rfl ?_) | (at_delete; refine wl_delete rfl _ _ _ _ rfl _ _ rfl rfl ?_) | (with_reducible refine wl_len rfl _ _ rfl _ rfl ?_) | (with_reducible refine wl_range rfl _ _ rfl _ rfl ?_) | (with_reducible refine wl_next rfl _ rfl _ rfl ?_) | (with_reducible refine wl_copy rfl _ _ _ _ rfl _ _ rfl rfl ?_) | (with_reducible refine wl_max rfl _ _ _ _ rfl _ _ rfl rfl ?_) | (with_reducible refine wl_min rfl _ _ _ _ rfl _ _ rfl rfl ?_))
                  have he := HE.out
                  have hloop : (eq = 0 ∧ replD m s b = runS mq ((writesS t b).drop (k + 1) ++ endS t s)) ∨ (eq ≠ 0 ∧ replD m s b = (mq, eq)) := by
                    by_cases h0 : eq = 0
                    · rw [if_pos h0] at he; exact .inl ⟨h0, he⟩
                    · rw [if_neg h0] at he; exact .inr ⟨h0, he⟩
                  go_roundw
                  case rel => exact ⟨k + 1, mq, _, _, _, _, _, eq, rfl, by rw [h64]; go_num, hkp, I, hsm2.mono (by omega) (by omega), hfl2.mono (by omega), hloop⟩
                  case measure => simp only [intOf]; omega
              · go_wp2_with (first | (at_builtin; refine wl_append rfl _ _ _ _ rfl _ _ rfl rfl ?_) | (at_make; refine wl_make rfl _ _ _ rfl _ _ rfl rfl ?_) | (at_mapUpdate; refine wl_mapUpdate rfl _ _ _ _ rfl _ _ _ rfl rfl rfl ?_) | (at_lookup; refine wl_lookup rfl _ _ _ _ rfl _ _ rfl rfl ?_) | (at_delete; refine wl_delete rfl _ _ _ _ rfl _ _ rfl rfl ?_) | (with_reducible refine wl_len rfl _ _ rfl _ rfl ?_) | (with_reducible refine wl_range rfl _ _ rfl _ rfl ?_) | (with_reducible refine wl_next rfl _ rfl _ rfl ?_) | (with_reducible refine wl_copy rfl _ _ _ _ rfl _ _ rfl rfl ?_) | (with_reducible refine wl_max rfl _ _ _ _ rfl _ _ rfl rfl ?_) | (with_reducible refine wl_min rfl _ _ _ _ rfl _ _ rfl rfl ?_))
                refine ⟨fun h => by simp at h, ?_⟩
                refine tr_eff (o := ⟨some 78, _, _, _, _, _⟩) rfl rfl (fun K hKe => ?_)
                go_wp2_with (first | (at_builtin; refine wl_append rfl _ _ _ _ rfl _ _ rfl rfl ?_) | (at_make; refine wl_make rfl _ _ _ rfl _ _ rfl rfl ?_) | (at_mapUpdate; refine wl_mapUpdate rfl _ _ _ _ rfl _ _ _ rfl rfl rfl ?_) | (at_lookup; refine wl_lookup rfl _ _ _ _ rfl _ _ rfl rfl ?_) | (at_delete; refine wl_delete rfl _ _ _ _ rfl _ _ rfl rfl ?_) | (with_reducible refine wl_len rfl _ _ rfl _ rfl ?_) | (with_reducible refine wl_range rfl _ _ rfl _ rfl ?_) | (with_reducible refine wl_next rfl _ rfl _ rfl ?_) | (with_reducible refine wl_copy rfl _ _ _ _ rfl _ _ rfl rfl ?_) | (with_reducible refine wl_max rfl _ _ _ _ rfl _ _ rfl rfl ?_) | (with_reducible refine wl_min rfl _ _ _ _ rfl _ _ rfl rfl ?_))
                refine ⟨fun h => by simp at h, ?_⟩
                refine tr_eff (o := ⟨none, _, _, _, _, _⟩) rfl rfl (fun K hKe => ?_)
                refine wo_stAgg (.tmp 3) (.tmp 78) 30 rfl _ _ rfl rfl ?_
                refine rg_stAgg hB3 (by kernel_rfl) (by rfl) (by simp [Value.oneCell']) ?_
                intro Z hBZ hkZ _
                replace I := I.step hDY hkY hBZ hkZ
                refine hKe _ _ ⟨fun h => by simp at h, ?_⟩
                clear hDY hkY hBZ hkZ hB3 hsm hfl HR c1 cY hcvY hcvd hsub hsubd
                refine tr_eff (o := ⟨some 10, _, _, _, _, _⟩) rfl rfl (fun K hKe => ?_)
                go_wp2_with (first | (at_builtin; refine wl_append rfl _ _ _ _ rfl _ _ rfl rfl ?_) | (at_make; refine wl_make rfl _ _ _ rfl _ _ rfl rfl ?_) | (at_mapUpdate; refine wl_mapUpdate rfl _ _ _ _ rfl _ _ _ rfl rfl rfl ?_) | (at_lookup; refine wl_lookup rfl _ _ _ _ rfl _ _ rfl rfl ?_) | (at_delete; refine wl_delete rfl _ _ _ _ rfl _ _ rfl rfl ?_) | (with_reducible refine wl_len rfl _ _ rfl _ rfl ?_) | (with_reducible refine wl_range rfl _ _ rfl _ rfl ?_) | (with_reducible refine wl_next rfl _ rfl _ rfl ?_) | (with_reducible refine wl_copy rfl _ _ _ _ rfl _ _ rfl rfl ?_) | (with_reducible refine wl_max rfl _ _ _ _ rfl _ _ rfl rfl ?_) | (with_reducible refine wl_min rfl _ _ _ _ rfl _ _ rfl rfl ?_))
                refine ⟨fun h => by simp at h, tr_nil ?_⟩
                go_wp2_with (first | (at_builtin; refine wl_append rfl _ _ _ _ rfl _ _ rfl rfl ?_) | (at_make; refine wl_make rfl _ _ _ rfl _ _ rfl rfl ?_) | (at_mapUpdate; refine wl_mapUpdate rfl _ _ _ _ rfl _ _ _ rfl rfl rfl ?_) | (at_lookup; refine wl_lookup rfl _ _ _ _ rfl _ _ rfl rfl ?_) | (at_delete; refine wl_delete rfl _ _ _ _ rfl _ _ rfl rfl ?_) | (with_reducible refine wl_len rfl _ _ rfl _ rfl ?_) | (with_reducible refine wl_range rfl _ _ rfl _ rfl ?_) | (with_reducible refine wl_next rfl _ rfl _ rfl ?_) | (with_reducible refine wl_copy rfl _ _ _ _ rfl _ _ rfl rfl ?_) | (with_reducible refine wl_max rfl _ _ _ _ rfl _ _ rfl rfl ?_) | (with_reducible refine wl_min rfl _ _ _ _ rfl _ _ rfl rfl ?_))
                have he := HE.out
                have hloop : (eq = 0 ∧ replD m s b = runS mq ((writesS t b).drop (k + 1) ++ endS t s)) ∨ (eq ≠ 0 ∧ replD m s b = (mq, eq)) := by
                  by_cases h0 : eq = 0
                  · rw [if_pos h0] at he; exact .inl ⟨h0, he⟩
                  · rw [if_neg h0] at he; exact .inr ⟨h0, he⟩
                go_roundw
                case rel => exact ⟨k + 1, mq, _, _, _, _, _, eq, rfl, by rw [h64]; go_num, hkp, I, hsm2.mono (by omega) (by omega), hfl2.mono (by omega), hloop⟩
                case measure => simp only [intOf]; omega
          · have hkp : k = pieces b.length := Nat.le_antisymm hk (by unfold pieces; omega)
            subst hkp
            rw [List.drop_of_length_le (by simp [writesS]), List.nil_append] at HR
            have HR := Lib.hid HR
            have hkl' : (b.length : Int) ≤ ((64 * pieces b.length : Nat) : Int) := by omega
            generalize hat : 64 * pieces b.length = at_ at *
            unfold endS at HR
            go_wp2_with (first | (at_builtin; refine wl_append rfl _ _ _ _ rfl _ _ rfl rfl ?_) | (at_make; refine wl_make rfl _ _ _ rfl _ _ rfl rfl ?_) | (at_mapUpdate; refine wl_mapUpdate rfl _ _ _ _ rfl _ _ _ rfl rfl rfl ?_) | (at_lookup; refine wl_lookup rfl _ _ _ _ rfl _ _ rfl rfl ?_) | (at_delete; refine wl_delete rfl _ _ _ _ rfl _ _ rfl rfl ?_) | (with_reducible refine wl_len rfl _ _ rfl _ rfl ?_) | (with_reducible refine wl_range rfl _ _ rfl _ rfl ?_) | (with_reducible refine wl_next rfl _ rfl _ rfl ?_) | (with_reducible refine wl_copy rfl _ _ _ _ rfl _ _ rfl rfl ?_) | (with_reducible refine wl_max rfl _ _ _ _ rfl _ _ rfl rfl ?_) | (with_reducible refine wl_min rfl _ _ _ _ rfl _ _ rfl rfl ?_))
            refine (rdo_cl ⟨3, t, [], 0, []⟩ ⟨by simp, by simp⟩ I.D hsm hfl (by omega) (by omega) (by omega) (by simp)).mono ?_
            rintro e Y ⟨z1, z2, z3, z4, z5, rfl, hDY, hkY⟩
            have hsm2 := on_small hsm (s := ⟨3, t, [], 0, []⟩) ⟨by first | exact htl | simp, by first | exact hsl6 | simp, by simp⟩
            have hfl2 := hfl.on (s := ⟨3, t, [], 0, []⟩)
            have he := HR.out
            rw [runS_cons] at he
            generalize Cl.on ⟨3, t, [], 0, []⟩ mk = mx at *
            obtain ⟨mq, eq⟩ := mx
            simp only at *
            have HE := Lib.hid he
            clear he
            obtain ⟨y1, t1, y2, t2, y3, t3, y4, t4, y5, t5, rfl, rfl, rfl, rfl, rfl⟩ := hDY.shape
            have hB3 := I.B3.keep hkY fun h => h
            clear c1
            unfold dv
            unfold cel at hB3
            go_wp2_with (first | (at_builtin; refine wl_append rfl _ _ _ _ rfl _ _ rfl rfl ?_) | (at_make; refine wl_make rfl _ _ _ rfl _ _ rfl rfl ?_) | (at_mapUpdate; refine wl_mapUpdate rfl _ _ _ _ rfl _ _ _ rfl rfl rfl ?_) | (at_lookup; refine wl_lookup rfl _ _ _ _ rfl _ _ rfl rfl ?_) | (at_delete; refine wl_delete rfl _ _ _ _ rfl _ _ rfl rfl ?_) | (with_reducible refine wl_len rfl _ _ rfl _ rfl ?_) | (with_reducible refine wl_range rfl _ _ rfl _ rfl ?_) | (with_reducible refine wl_next rfl _ rfl _ rfl ?_) | (with_reducible refine wl_copy rfl _ _ _ _ rfl _ _ rfl rfl ?_) | (with_reducible refine wl_max rfl _ _ _ _ rfl _ _ rfl rfl ?_) | (with_reducible refine wl_min rfl _ _ _ _ rfl _ _ rfl rfl ?_) | (with_reducible refine wl_stAgg rfl _ _ _ rfl _ _ rfl rfl ?_))
            refine rg_stAgg hB3 (by kernel_rfl) (by rfl) (by simp [Value.oneCell']) ?_
            intro Z hBZ hkZ _
            replace I := I.step hDY hkY hBZ hkZ
            clear hDY hkY hBZ hkZ hB3 hsm hfl HR
            have hsm := hsm2
            have hfl := hfl2
            clear hsm2 hfl2
            have c1 := I.B3.cell
            unfold cel at c1
            by_cases h0 : eq = 0
            rotate_left
            · have he := HE.out
              rw [if_neg h0] at he
              have HR := Lib.hid he
              have h0' : ((eq : Int) == 0) = false := by simpa using h0
              clear he HE h0
              go_wp2_with (first | (at_builtin; refine wl_append rfl _ _ _ _ rfl _ _ rfl rfl ?_) | (at_make; refine wl_make rfl _ _ _ rfl _ _ rfl rfl ?_) | (at_mapUpdate; refine wl_mapUpdate rfl _ _ _ _ rfl _ _ _ rfl rfl rfl ?_) | (at_lookup; refine wl_lookup rfl _ _ _ _ rfl _ _ rfl rfl ?_) | (at_delete; refine wl_delete rfl _ _ _ _ rfl _ _ rfl rfl ?_) | (with_reducible refine wl_len rfl _ _ rfl _ rfl ?_) | (with_reducible refine wl_range rfl _ _ rfl _ rfl ?_) | (with_reducible refine wl_next rfl _ rfl _ rfl ?_) | (with_reducible refine wl_copy rfl _ _ _ _ rfl _ _ rfl rfl ?_) | (with_reducible refine wl_max rfl _ _ _ _ rfl _ _ rfl rfl ?_) | (with_reducible refine wl_min rfl _ _ _ _ rfl _ _ rfl rfl ?_) | (with_reducible refine wl_stAgg rfl _ _ _ rfl _ _ rfl rfl ?_))
              refine rg_stAgg I.B6 (by kernel_rfl) (by rfl) (by simp [Value.oneCell']) ?_
              intro Z hBZ hkZ _
              go_wp2_with (first | (at_builtin; refine wl_append rfl _ _ _ _ rfl _ _ rfl rfl ?_) | (at_make; refine wl_make rfl _ _ _ rfl _ _ rfl rfl ?_) | (at_mapUpdate; refine wl_mapUpdate rfl _ _ _ _ rfl _ _ _ rfl rfl rfl ?_) | (at_lookup; refine wl_lookup rfl _ _ _ _ rfl _ _ rfl rfl ?_) | (at_delete; refine wl_delete rfl _ _ _ _ rfl _ _ rfl rfl ?_) | (with_reducible refine wl_len rfl _ _ rfl _ rfl ?_) | (with_reducible refine wl_range rfl _ _ rfl _ rfl ?_) | (with_reducible refine wl_next rfl _ rfl _ rfl ?_) | (with_reducible refine wl_copy rfl _ _ _ _ rfl _ _ rfl rfl ?_) | (with_reducible refine wl_max rfl _ _ _ _ rfl _ _ rfl rfl ?_) | (with_reducible refine wl_min rfl _ _ _ _ rfl _ _ rfl rfl ?_) | (with_reducible refine wl_stAgg rfl _ _ _ rfl _ _ rfl rfl ?_))
              refine ret_blk_tmp rfl rfl hBZ Tryz.underlying30 rfl (by kernel_rfl) rfl ?_
              rw [HR.out]
              exact I.fin hkZ
            have he := HE.out
            rw [if_pos h0] at he
            have HR := Lib.hid he
            subst h0
            clear he HE
            go_wp2_with (first | (at_builtin; refine wl_append rfl _ _ _ _ rfl _ _ rfl rfl ?_) | (at_make; refine wl_make rfl _ _ _ rfl _ _ rfl rfl ?_) | (at_mapUpdate; refine wl_mapUpdate rfl _ _ _ _ rfl _ _ _ rfl rfl rfl ?_) | (at_lookup; refine wl_lookup rfl _ _ _ _ rfl _ _ rfl rfl ?_) | (at_delete; refine wl_delete rfl _ _ _ _ rfl _ _ rfl rfl ?_) | (with_reducible refine wl_len rfl _ _ rfl _ rfl ?_) | (with_reducible refine wl_range rfl _ _ rfl _ rfl ?_) | (with_reducible refine wl_next rfl _ rfl _ rfl ?_) | (with_reducible refine wl_copy rfl _ _ _ _ rfl _ _ rfl rfl ?_) | (with_reducible refine wl_max rfl _ _ _ _ rfl _ _ rfl rfl ?_) | (with_reducible refine wl_min rfl _ _ _ _ rfl _ _ rfl rfl ?_))
            refine (rdo_cl ⟨4, t, s, 0, []⟩ ⟨by simp, by simp⟩ I.D hsm hfl (by omega) (by omega) (by omega) (by simp)).mono ?_
            rintro e Y ⟨z1, z2, z3, z4, z5, rfl, hDY, hkY⟩
            have hsm2 := on_small hsm (s := ⟨4, t, s, 0, []⟩) ⟨by first | exact htl | simp, by first | exact hsl6 | simp, by simp⟩
            have hfl2 := hfl.on (s := ⟨4, t, s, 0, []⟩)
            have he := HR.out
            rw [runS_cons] at he
            generalize Cl.on ⟨4, t, s, 0, []⟩ mq = mx at *
            obtain ⟨mq, eq⟩ := mx
            simp only at *
            have HE := Lib.hid he
            clear he
            obtain ⟨y1, t1, y2, t2, y3, t3, y4, t4, y5, t5, rfl, rfl, rfl, rfl, rfl⟩ := hDY.shape
            have hB3 := I.B3.keep hkY fun h => h
            clear c1
            unfold dv
            unfold cel at hB3
            go_wp2_with (first | (at_builtin; refine wl_append rfl _ _ _ _ rfl _ _ rfl rfl ?_) | (at_make; refine wl_make rfl _ _ _ rfl _ _ rfl rfl ?_) | (at_mapUpdate; refine wl_mapUpdate rfl _ _ _ _ rfl _ _ _ rfl rfl rfl ?_) | (at_lookup; refine wl_lookup rfl _ _ _ _ rfl _ _ rfl rfl ?_) | (at_delete; refine wl_delete rfl _ _ _ _ rfl _ _ rfl rfl ?_) | (with_reducible refine wl_len rfl _ _ rfl _ rfl ?_) | (with_reducible refine wl_range rfl _ _ rfl _ rfl ?_) | (with_reducible refine wl_next rfl _ rfl _ rfl ?_) | (with_reducible refine wl_copy rfl _ _ _ _ rfl _ _ rfl rfl ?_) | (with_reducible refine wl_max rfl _ _ _ _ rfl _ _ rfl rfl ?_) | (with_reducible refine wl_min rfl _ _ _ _ rfl _ _ rfl rfl ?_) | (with_reducible refine wl_stAgg rfl _ _ _ rfl _ _ rfl rfl ?_))
            refine rg_stAgg hB3 (by kernel_rfl) (by rfl) (by simp [Value.oneCell']) ?_
            intro Z hBZ hkZ _
            replace I := I.step hDY hkY hBZ hkZ
            clear hDY hkY hBZ hkZ hB3 hsm hfl HR
            have hsm := hsm2
            have hfl := hfl2
            clear hsm2 hfl2
            have c1 := I.B3.cell
            unfold cel at c1
            by_cases h0 : eq = 0
            rotate_left
            · have he := HE.out
              rw [if_neg h0] at he
              have HR := Lib.hid he
              have h0' : ((eq : Int) == 0) = false := by simpa using h0
              clear he HE h0
              go_wp2_with (first | (at_builtin; refine wl_append rfl _ _ _ _ rfl _ _ rfl rfl ?_) | (at_make; refine wl_make rfl _ _ _ rfl _ _ rfl rfl ?_) | (at_mapUpdate; refine wl_mapUpdate rfl _ _ _ _ rfl _ _ _ rfl rfl rfl ?_) | (at_lookup; refine wl_lookup rfl _ _ _ _ rfl _ _ rfl rfl ?_) | (at_delete; refine wl_delete rfl _ _ _ _ rfl _ _ rfl rfl ?_) | (with_reducible refine wl_len rfl _ _ rfl _ rfl ?_) | (with_reducible refine wl_range rfl _ _ rfl _ rfl ?_) | (with_reducible refine wl_next rfl _ rfl _ rfl ?_) | (with_reducible refine wl_copy rfl _ _ _ _ rfl _ _ rfl rfl ?_) | (with_reducible refine wl_max rfl _ _ _ _ rfl _ _ rfl rfl ?_) | (with_reducible refine wl_min rfl _ _ _ _ rfl _ _ rfl rfl ?_) | (with_reducible refine wl_stAgg rfl _ _ _ rfl _ _ rfl rfl ?_))
              refine rg_stAgg I.B6 (by kernel_rfl) (by rfl) (by simp [Value.oneCell']) ?_
              intro Z hBZ hkZ _
              go_wp2_with (first | (at_builtin; refine wl_append rfl _ _ _ _ rfl _ _ rfl rfl ?_) | (at_make; refine wl_make rfl _ _ _ rfl _ _ rfl rfl ?_) | (at_mapUpdate; refine wl_mapUpdate rfl _ _ _ _ rfl _ _ _ rfl rfl rfl ?_) | (at_lookup; refine wl_lookup rfl _ _ _ _ rfl _ _ rfl rfl ?_) | (at_delete; refine wl_delete rfl _ _ _ _ rfl _ _ rfl rfl ?_) | (with_reducible refine wl_len rfl _ _ rfl _ rfl ?_) | (with_reducible refine wl_range rfl _ _ rfl _ rfl ?_) | (with_reducible refine wl_next rfl _ rfl _ rfl ?_) | (with_reducible refine wl_copy rfl _ _ _ _ rfl _ _ rfl rfl ?_) | (with_reducible refine wl_max rfl _ _ _ _ rfl _ _ rfl rfl ?_) | (with_reducible refine wl_min rfl _ _ _ _ rfl _ _ rfl rfl ?_) | (with_reducible refine wl_stAgg rfl _ _ _ rfl _ _ rfl rfl ?_))
              refine ret_blk_tmp rfl rfl hBZ Tryz.underlying30 rfl (by kernel_rfl) rfl ?_
              rw [HR.out]
              exact I.fin hkZ
            have he := HE.out
            rw [if_pos h0] at he
            have HR := Lib.hid he
            subst h0
            clear he HE
            go_wp2_with (first | (at_builtin; refine wl_append rfl _ _ _ _ rfl _ _ rfl rfl ?_) | (at_make; refine wl_make rfl _ _ _ rfl _ _ rfl rfl ?_) | (at_mapUpdate; refine wl_mapUpdate rfl _ _ _ _ rfl _ _ _ rfl rfl rfl ?_) | (at_lookup; refine wl_lookup rfl _ _ _ _ rfl _ _ rfl rfl ?_) | (at_delete; refine wl_delete rfl _ _ _ _ rfl _ _ rfl rfl ?_) | (with_reducible refine wl_len rfl _ _ rfl _ rfl ?_) | (with_reducible refine wl_range rfl _ _ rfl _ rfl ?_) | (with_reducible refine wl_next rfl _ rfl _ rfl ?_) | (with_reducible refine wl_copy rfl _ _ _ _ rfl _ _ rfl rfl ?_) | (with_reducible refine wl_max rfl _ _ _ _ rfl _ _ rfl rfl ?_) | (with_reducible refine wl_min rfl _ _ _ _ rfl _ _ rfl rfl ?_))
            refine (rdo_cl ⟨6, [], [], 0, []⟩ ⟨by simp, by simp⟩ I.D hsm hfl (by omega) (by omega) (by omega) (by simp)).mono ?_
            rintro e Y ⟨z1, z2, z3, z4, z5, rfl, hDY, hkY⟩
            have hsm2 := on_small hsm (s := ⟨6, [], [], 0, []⟩) ⟨by first | exact htl | simp, by first | exact hsl6 | simp, by simp⟩
            have hfl2 := hfl.on (s := ⟨6, [], [], 0, []⟩)
            have he := HR.out
            rw [runS_cons] at he
            generalize Cl.on ⟨6, [], [], 0, []⟩ mq = mx at *
            obtain ⟨mq, eq⟩ := mx
            simp only at *
            have HE := Lib.hid he
            clear he
            obtain ⟨y1, t1, y2, t2, y3, t3, y4, t4, y5, t5, rfl, rfl, rfl, rfl, rfl⟩ := hDY.shape
            have hB3 := I.B3.keep hkY fun h => h
            clear c1
            unfold dv
            unfold cel at hB3
            go_wp2_with (first | (at_builtin; refine wl_append rfl _ _ _ _ rfl _ _ rfl rfl ?_) | (at_make; refine wl_make rfl _ _ _ rfl _ _ rfl rfl ?_) | (at_mapUpdate; refine wl_mapUpdate rfl _ _ _ _ rfl _ _ _ rfl rfl rfl ?_) | (at_lookup; refine wl_lookup rfl _ _ _ _ rfl _ _ rfl rfl ?_) | (at_delete; refine wl_delete rfl _ _ _ _ rfl _ _ rfl rfl ?_) | (with_reducible refine wl_len rfl _ _ rfl _ rfl ?_) | (with_reducible refine wl_range rfl _ _ rfl _ rfl ?_) | (with_reducible refine wl_next rfl _ rfl _ rfl ?_) | (with_reducible refine wl_copy rfl _ _ _ _ rfl _ _ rfl rfl ?_) | (with_reducible refine wl_max rfl _ _ _ _ rfl _ _ rfl rfl ?_) | (with_reducible refine wl_min rfl _ _ _ _ rfl _ _ rfl rfl ?_) | (with_reducible refine wl_stAgg rfl _ _ _ rfl _ _ rfl rfl ?_))
            refine rg_stAgg hB3 (by kernel_rfl) (by rfl) (by simp [Value.oneCell']) ?_
            intro Z hBZ hkZ _
            replace I := I.step hDY hkY hBZ hkZ
            clear hDY hkY hBZ hkZ hB3 hsm hfl HR
            have hsm := hsm2
            have hfl := hfl2
            clear hsm2 hfl2
            have c1 := I.B3.cell
            unfold cel at c1
            have he := HE.out
            have HR : Hid (replD m s b = (mq, eq)) := Lib.hid (by
              rw [he]
              by_cases h0 : eq = 0
              · subst h0; rfl
              · rw [if_neg h0])
            clear he HE
            go_wp2_with (first | (at_builtin; refine wl_append rfl _ _ _ _ rfl _ _ rfl rfl ?_) | (at_make; refine wl_make rfl _ _ _ rfl _ _ rfl rfl ?_) | (at_mapUpdate; refine wl_mapUpdate rfl _ _ _ _ rfl _ _ _ rfl rfl rfl ?_) | (at_lookup; refine wl_lookup rfl _ _ _ _ rfl _ _ rfl rfl ?_) | (at_delete; refine wl_delete rfl _ _ _ _ rfl _ _ rfl rfl ?_) | (with_reducible refine wl_len rfl _ _ rfl _ rfl ?_) | (with_reducible refine wl_range rfl _ _ rfl _ rfl ?_) | (with_reducible refine wl_next rfl _ rfl _ rfl ?_) | (with_reducible refine wl_copy rfl _ _ _ _ rfl _ _ rfl rfl ?_) | (with_reducible refine wl_max rfl _ _ _ _ rfl _ _ rfl rfl ?_) | (with_reducible refine wl_min rfl _ _ _ _ rfl _ _ rfl rfl ?_) | (with_reducible refine wl_stAgg rfl _ _ _ rfl _ _ rfl rfl ?_))
            refine rg_stAgg I.B6 (by kernel_rfl) (by rfl) (by simp [Value.oneCell']) ?_
            intro Z hBZ hkZ _
            go_wp2_with (first | (at_builtin; refine wl_append rfl _ _ _ _ rfl _ _ rfl rfl ?_) | (at_make; refine wl_make rfl _ _ _ rfl _ _ rfl rfl ?_) | (at_mapUpdate; refine wl_mapUpdate rfl _ _ _ _ rfl _ _ _ rfl rfl rfl ?_) | (at_lookup; refine wl_lookup rfl _ _ _ _ rfl _ _ rfl rfl ?_) | (at_delete; refine wl_delete rfl _ _ _ _ rfl _ _ rfl rfl ?_) | (with_reducible refine wl_len rfl _ _ rfl _ rfl ?_) | (with_reducible refine wl_range rfl _ _ rfl _ rfl ?_) | (with_reducible refine wl_next rfl _ rfl _ rfl ?_) | (with_reducible refine wl_copy rfl _ _ _ _ rfl _ _ rfl rfl ?_) | (with_reducible refine wl_max rfl _ _ _ _ rfl _ _ rfl rfl ?_) | (with_reducible refine wl_min rfl _ _ _ _ rfl _ _ rfl rfl ?_) | (with_reducible refine wl_stAgg rfl _ _ _ rfl _ _ rfl rfl ?_))
            refine ret_blk_tmp rfl rfl hBZ Tryz.underlying30 rfl (by kernel_rfl) rfl ?_
            rw [HR.out]
            exact I.fin hkZ
        · have HR := Lib.hid HR
          have h0' : ((e : Int) == 0) = false := by simpa using hne
          go_wp2_with (first | (at_builtin; refine wl_append rfl _ _ _ _ rfl _ _ rfl rfl ?_) | (at_make; refine wl_make rfl _ _ _ rfl _ _ rfl rfl ?_) | (at_mapUpdate; refine wl_mapUpdate rfl _ _ _ _ rfl _ _ _ rfl rfl rfl ?_) | (at_lookup; refine wl_lookup rfl _ _ _ _ rfl _ _ rfl rfl ?_) | (at_delete; refine wl_delete rfl _ _ _ _ rfl _ _ rfl rfl ?_) | (with_reducible refine wl_len rfl _ _ rfl _ rfl ?_) | (with_reducible refine wl_range rfl _ _ rfl _ rfl ?_) | (with_reducible refine wl_next rfl _ rfl _ rfl ?_) | (with_reducible refine wl_copy rfl _ _ _ _ rfl _ _ rfl rfl ?_) | (with_reducible refine wl_max rfl _ _ _ _ rfl _ _ rfl rfl ?_) | (with_reducible refine wl_min rfl _ _ _ _ rfl _ _ rfl rfl ?_) | (with_reducible refine wl_stAgg rfl _ _ _ rfl _ _ rfl rfl ?_))
          refine rg_stAgg I.B6 (by kernel_rfl) (by rfl) (by simp [Value.oneCell']) ?_
          intro Z hBZ hkZ _
          go_wp2_with (first | (at_builtin; refine wl_append rfl _ _ _ _ rfl _ _ rfl rfl ?_) | (at_make; refine wl_make rfl _ _ _ rfl _ _ rfl rfl ?_) | (at_mapUpdate; refine wl_mapUpdate rfl _ _ _ _ rfl _ _ _ rfl rfl rfl ?_) | (at_lookup; refine wl_lookup rfl _ _ _ _ rfl _ _ rfl rfl ?_) | (at_delete; refine wl_delete rfl _ _ _ _ rfl _ _ rfl rfl ?_) | (with_reducible refine wl_len rfl _ _ rfl _ rfl ?_) | (with_reducible refine wl_range rfl _ _ rfl _ rfl ?_) | (with_reducible refine wl_next rfl _ rfl _ rfl ?_) | (with_reducible refine wl_copy rfl _ _ _ _ rfl _ _ rfl rfl ?_) | (with_reducible refine wl_max rfl _ _ _ _ rfl _ _ rfl rfl ?_) | (with_reducible refine wl_min rfl _ _ _ _ rfl _ _ rfl rfl ?_) | (with_reducible refine wl_stAgg rfl _ _ _ rfl _ _ rfl rfl ?_))
          refine ret_blk_tmp rfl rfl hBZ Tryz.underlying30 rfl (by kernel_rfl) rfl ?_
          rw [HR.out]
          exact I.fin hkZ
    | some f =>
      have hz : findZ m.L t = (f : Int) := by simp [findZ, hfd]
      have HR := Lib.hid (R1.out (by rw [hfd]; rfl))
      have hf0 : (0 : Int) ≤ (f : Int) := by omega
      clear R1 R2 hfd
      rw [hz]
      clear hz
      go_wp2_with (first | (at_builtin; refine wl_append rfl _ _ _ _ rfl _ _ rfl rfl ?_) | (at_make; refine wl_make rfl _ _ _ rfl _ _ rfl rfl ?_) | (at_mapUpdate; refine wl_mapUpdate rfl _ _ _ _ rfl _ _ _ rfl rfl rfl ?_) | (at_lookup; refine wl_lookup rfl _ _ _ _ rfl _ _ rfl rfl ?_) | (at_delete; refine wl_delete rfl _ _ _ _ rfl _ _ rfl rfl ?_) | (with_reducible refine wl_len rfl _ _ rfl _ rfl ?_) | (with_reducible refine wl_range rfl _ _ rfl _ rfl ?_) | (with_reducible refine wl_next rfl _ rfl _ rfl ?_) | (with_reducible refine wl_copy rfl _ _ _ _ rfl _ _ rfl rfl ?_) | (with_reducible refine wl_max rfl _ _ _ _ rfl _ _ rfl rfl ?_) | (with_reducible refine wl_min rfl _ _ _ _ rfl _ _ rfl rfl ?_))
      refine (rdo_cl ⟨5, t, [], 0, []⟩ ⟨by simp, by simp⟩ I.D hsm hfl (by omega) (by omega) (by omega) (by simp)).mono ?_
      rintro e Y ⟨z1, z2, z3, z4, z5, rfl, hDY, hkY⟩
      have hsm2 := on_small hsm (s := ⟨5, t, [], 0, []⟩) ⟨by first | exact htl | simp, by first | exact hsl6 | simp, by simp⟩
      have hfl2 := hfl.on (s := ⟨5, t, [], 0, []⟩)
      have he := HR.out
      rw [runS_cons] at he
      generalize Cl.on ⟨5, t, [], 0, []⟩ m = mx at *
      obtain ⟨mq, eq⟩ := mx
      simp only at *
      have HE := Lib.hid he
      clear he
      obtain ⟨y1, t1, y2, t2, y3, t3, y4, t4, y5, t5, rfl, rfl, rfl, rfl, rfl⟩ := hDY.shape
      have hB3 := I.B3.keep hkY fun h => h
      clear c1
      unfold dv
      unfold cel at hB3
      go_wp2_with (first | (at_builtin; refine wl_append rfl _ _ _ _ rfl _ _ rfl rfl ?_) | (at_make; refine wl_make rfl _ _ _ rfl _ _ rfl rfl ?_) | (at_mapUpdate; refine wl_mapUpdate rfl _ _ _ _ rfl _ _ _ rfl rfl rfl ?_) | (at_lookup; refine wl_lookup rfl _ _ _ _ rfl _ _ rfl rfl ?_) | (at_delete; refine wl_delete rfl _ _ _ _ rfl _ _ rfl rfl ?_) | (with_reducible refine wl_len rfl _ _ rfl _ rfl ?_) | (with_reducible refine wl_range rfl _ _ rfl _ rfl ?_) | (with_reducible refine wl_next rfl _ rfl _ rfl ?_) | (with_reducible refine wl_copy rfl _ _ _ _ rfl _ _ rfl rfl ?_) | (with_reducible refine wl_max rfl _ _ _ _ rfl _ _ rfl rfl ?_) | (with_reducible refine wl_min rfl _ _ _ _ rfl _ _ rfl rfl ?_) | (with_reducible refine wl_stAgg rfl _ _ _ rfl _ _ rfl rfl ?_))
      refine rg_stAgg hB3 (by kernel_rfl) (by rfl) (by simp [Value.oneCell']) ?_
      intro Z hBZ hkZ _
      replace I := I.step hDY hkY hBZ hkZ
      clear hDY hkY hBZ hkZ hB3 hsm hfl HR
      have hsm := hsm2
      have hfl := hfl2
      clear hsm2 hfl2
      have c1 := I.B3.cell
      unfold cel at c1
      by_cases h0 : eq = 0
      rotate_left
      · have he := HE.out
        rw [if_neg h0] at he
        have HR := Lib.hid he
        have h0' : ((eq : Int) == 0) = false := by simpa using h0
        clear he HE h0
        go_wp2_with (first | (at_builtin; refine wl_append rfl _ _ _ _ rfl _ _ rfl rfl ?_) | (at_make; refine wl_make rfl _ _ _ rfl _ _ rfl rfl ?_) | (at_mapUpdate; refine wl_mapUpdate rfl _ _ _ _ rfl _ _ _ rfl rfl rfl ?_) | (at_lookup; refine wl_lookup rfl _ _ _ _ rfl _ _ rfl rfl ?_) | (at_delete; refine wl_delete rfl _ _ _ _ rfl _ _ rfl rfl ?_) | (with_reducible refine wl_len rfl _ _ rfl _ rfl ?_) | (with_reducible refine wl_range rfl _ _ rfl _ rfl ?_) | (with_reducible refine wl_next rfl _ rfl _ rfl ?_) | (with_reducible refine wl_copy rfl _ _ _ _ rfl _ _ rfl rfl ?_) | (with_reducible refine wl_max rfl _ _ _ _ rfl _ _ rfl rfl ?_) | (with_reducible refine wl_min rfl _ _ _ _ rfl _ _ rfl rfl ?_) | (with_reducible refine wl_stAgg rfl _ _ _ rfl _ _ rfl rfl ?_))
        refine rg_stAgg I.B6 (by kernel_rfl) (by rfl) (by simp [Value.oneCell']) ?_
        intro Z hBZ hkZ _
        go_wp2_with (first | (at_builtin; refine wl_append rfl _ _ _ _ rfl _ _ rfl rfl ?_) | (at_make; refine wl_make rfl _ _ _ rfl _ _ rfl rfl ?_) | (at_mapUpdate; refine wl_mapUpdate rfl _ _ _ _ rfl _ _ _ rfl rfl rfl ?_) | (at_lookup; refine wl_lookup rfl _ _ _ _ rfl _ _ rfl rfl ?_) | (at_delete; refine wl_delete rfl _ _ _ _ rfl _ _ rfl rfl ?_) | (with_reducible refine wl_len rfl _ _ rfl _ rfl ?_) | (with_reducible refine wl_range rfl _ _ rfl _ rfl ?_) | (with_reducible refine wl_next rfl _ rfl _ rfl ?_) | (with_reducible refine wl_copy rfl _ _ _ _ rfl _ _ rfl rfl ?_) | (with_reducible refine wl_max rfl _ _ _ _ rfl _ _ rfl rfl ?_) | (with_reducible refine wl_min rfl _ _ _ _ rfl _ _ rfl rfl ?_) | (with_reducible refine wl_stAgg rfl _ _ _ rfl _ _ rfl rfl ?_))
        refine ret_blk_tmp rfl rfl hBZ Tryz.underlying30 rfl (by kernel_rfl) rfl ?_
        rw [HR.out]
        exact I.fin hkZ
      have he := HE.out
      rw [if_pos h0] at he
      have HR := Lib.hid he
      subst h0
      clear he HE
      go_wp2_with (first | (at_builtin; refine wl_append rfl _ _ _ _ rfl _ _ rfl rfl ?_) | (at_make; refine wl_make rfl _ _ _ rfl _ _ rfl rfl ?_) | (at_mapUpdate; refine wl_mapUpdate rfl _ _ _ _ rfl _ _ _ rfl rfl rfl ?_) | (at_lookup; refine wl_lookup rfl _ _ _ _ rfl _ _ rfl rfl ?_) | (at_delete; refine wl_delete rfl _ _ _ _ rfl _ _ rfl rfl ?_) | (with_reducible refine wl_len rfl _ _ rfl _ rfl ?_) | (with_reducible refine wl_range rfl _ _ rfl _ rfl ?_) | (with_reducible refine wl_next rfl _ rfl _ rfl ?_) | (with_reducible refine wl_copy rfl _ _ _ _ rfl _ _ rfl rfl ?_) | (with_reducible refine wl_max rfl _ _ _ _ rfl _ _ rfl rfl ?_) | (with_reducible refine wl_min rfl _ _ _ _ rfl _ _ rfl rfl ?_))
      refine (rdo_cl ⟨6, [], [], 0, []⟩ ⟨by simp, by simp⟩ I.D hsm hfl (by omega) (by omega) (by omega) (by simp)).mono ?_
      rintro e Y ⟨z1, z2, z3, z4, z5, rfl, hDY, hkY⟩
      have hsm2 := on_small hsm (s := ⟨6, [], [], 0, []⟩) ⟨by first | exact htl | simp, by first | exact hsl6 | simp, by simp⟩
      have hfl2 := hfl.on (s := ⟨6, [], [], 0, []⟩)
      have he := HR.out
      rw [runS_cons] at he
      generalize Cl.on ⟨6, [], [], 0, []⟩ mq = mx at *
      obtain ⟨mq, eq⟩ := mx
      simp only at *
      have HE := Lib.hid he
      clear he
      obtain ⟨y1, t1, y2, t2, y3, t3, y4, t4, y5, t5, rfl, rfl, rfl, rfl, rfl⟩ := hDY.shape
      have hB3 := I.B3.keep hkY fun h => h
      clear c1
      unfold dv
      unfold cel at hB3
      go_wp2_with (first | (at_builtin; refine wl_append rfl _ _ _ _ rfl _ _ rfl rfl ?_) | (at_make; refine wl_make rfl _ _ _ rfl _ _ rfl rfl ?_) | (at_mapUpdate; refine wl_mapUpdate rfl _ _ _ _ rfl _ _ _ rfl rfl rfl ?_) | (at_lookup; refine wl_lookup rfl _ _ _ _ rfl _ _ rfl rfl ?_) | (at_delete; refine wl_delete rfl _ _ _ _ rfl _ _ rfl rfl ?_) | (with_reducible refine wl_len rfl _ _ rfl _ rfl ?_) | (with_reducible refine wl_range rfl _ _ rfl _ rfl ?_) | (with_reducible refine wl_next rfl _ rfl _ rfl ?_) | (with_reducible refine wl_copy rfl _ _ _ _ rfl _ _ rfl rfl ?_) | (with_reducible refine wl_max rfl _ _ _ _ rfl _ _ rfl rfl ?_) | (with_reducible refine wl_min rfl _ _ _ _ rfl _ _ rfl rfl ?_) | (with_reducible refine wl_stAgg rfl _ _ _ rfl _ _ rfl rfl ?_))
      refine rg_stAgg hB3 (by kernel_rfl) (by rfl) (by simp [Value.oneCell']) ?_
      intro Z hBZ hkZ _
      replace I := I.step hDY hkY hBZ hkZ
      clear hDY hkY hBZ hkZ hB3 hsm hfl HR
      have hsm := hsm2
      have hfl := hfl2
      clear hsm2 hfl2
      have c1 := I.B3.cell
      unfold cel at c1
      by_cases h0 : eq = 0
      rotate_left
      · have he := HE.out
        rw [if_neg h0] at he
        have HR := Lib.hid he
        have h0' : ((eq : Int) == 0) = false := by simpa using h0
        clear he HE h0
        go_wp2_with (first | (at_builtin; refine wl_append rfl _ _ _ _ rfl _ _ rfl rfl ?_) | (at_make; refine wl_make rfl _ _ _ rfl _ _ rfl rfl ?_) | (at_mapUpdate; refine wl_mapUpdate rfl _ _ _ _ rfl _ _ _ rfl rfl rfl ?_) | (at_lookup; refine wl_lookup rfl _ _ _ _ rfl _ _ rfl rfl ?_) | (at_delete; refine wl_delete rfl _ _ _ _ rfl _ _ rfl rfl ?_) | (with_reducible refine wl_len rfl _ _ rfl _ rfl ?_) | (with_reducible refine wl_range rfl _ _ rfl _ rfl ?_) | (with_reducible refine wl_next rfl _ rfl _ rfl ?_) | (with_reducible refine wl_copy rfl _ _ _ _ rfl _ _ rfl rfl ?_) | (with_reducible refine wl_max rfl _ _ _ _ rfl _ _ rfl rfl ?_) | (with_reducible refine wl_min rfl _ _ _ _ rfl _ _ rfl rfl ?_) | (with_reducible refine wl_stAgg rfl _ _ _ rfl _ _ rfl rfl ?_))
        refine rg_stAgg I.B6 (by kernel_rfl) (by rfl) (by simp [Value.oneCell']) ?_
        intro Z hBZ hkZ _
        go_wp2_with (first | (at_builtin; refine wl_append rfl _ _ _ _ rfl _ _ rfl rfl ?_) | (at_make; refine wl_make rfl _ _ _ rfl _ _ rfl rfl ?_) | (at_mapUpdate; refine wl_mapUpdate rfl _ _ _ _ rfl _ _ _ rfl rfl rfl ?_) | (at_lookup; refine wl_lookup rfl _ _ _ _ rfl _ _ rfl rfl ?_) | (at_delete; refine wl_delete rfl _ _ _ _ rfl _ _ rfl rfl ?_) | (with_reducible refine wl_len rfl _ _ rfl _ rfl ?_) | (with_reducible refine wl_range rfl _ _ rfl _ rfl ?_) | (with_reducible refine wl_next rfl _ rfl _ rfl ?_) | (with_reducible refine wl_copy rfl _ _ _ _ rfl _ _ rfl rfl ?_) | (with_reducible refine wl_max rfl _ _ _ _ rfl _ _ rfl rfl ?_) | (with_reducible refine wl_min rfl _ _ _ _ rfl _ _ rfl rfl ?_) | (with_reducible refine wl_stAgg rfl _ _ _ rfl _ _ rfl rfl ?_))
        refine ret_blk_tmp rfl rfl hBZ Tryz.underlying30 rfl (by kernel_rfl) rfl ?_
        rw [HR.out]
        exact I.fin hkZ
      have he := HE.out
      rw [if_pos h0] at he
      have HR := Lib.hid he
      subst h0
      clear he HE
      go_wp2_with (first | (at_builtin; refine wl_append rfl _ _ _ _ rfl _ _ rfl rfl ?_) | (at_make; refine wl_make rfl _ _ _ rfl _ _ rfl rfl ?_) | (at_mapUpdate; refine wl_mapUpdate rfl _ _ _ _ rfl _ _ _ rfl rfl rfl ?_) | (at_lookup; refine wl_lookup rfl _ _ _ _ rfl _ _ rfl rfl ?_) | (at_delete; refine wl_delete rfl _ _ _ _ rfl _ _ rfl rfl ?_) | (with_reducible refine wl_len rfl _ _ rfl _ rfl ?_) | (with_reducible refine wl_range rfl _ _ rfl _ rfl ?_) | (with_reducible refine wl_next rfl _ rfl _ rfl ?_) | (with_reducible refine wl_copy rfl _ _ _ _ rfl _ _ rfl rfl ?_) | (with_reducible refine wl_max rfl _ _ _ _ rfl _ _ rfl rfl ?_) | (with_reducible refine wl_min rfl _ _ _ _ rfl _ _ rfl rfl ?_))
      refine (rdo_cl ⟨1, t, [], 0, []⟩ ⟨by simp, by simp⟩ I.D hsm hfl (by omega) (by omega) (by omega) (by simp)).mono ?_
      rintro e Y ⟨z1, z2, z3, z4, z5, rfl, hDY, hkY⟩
      have hsm2 := on_small hsm (s := ⟨1, t, [], 0, []⟩) ⟨by first | exact htl | simp, by first | exact hsl6 | simp, by simp⟩
      have hfl2 := hfl.on (s := ⟨1, t, [], 0, []⟩)
      have he := HR.out
      rw [runS_cons] at he
      generalize Cl.on ⟨1, t, [], 0, []⟩ mq = mx at *
      obtain ⟨mq, eq⟩ := mx
      simp only at *
      have HE := Lib.hid he
      clear he
      obtain ⟨y1, t1, y2, t2, y3, t3, y4, t4, y5, t5, rfl, rfl, rfl, rfl, rfl⟩ := hDY.shape
      have hB3 := I.B3.keep hkY fun h => h
      clear c1
      unfold dv
      unfold cel at hB3
      go_wp2_with (first | (at_builtin; refine wl_append rfl _ _ _ _ rfl _ _ rfl rfl ?_) | (at_make; refine wl_make rfl _ _ _ rfl _ _ rfl rfl ?_) | (at_mapUpdate; refine wl_mapUpdate rfl _ _ _ _ rfl _ _ _ rfl rfl rfl ?_) | (at_lookup; refine wl_lookup rfl _ _ _ _ rfl _ _ rfl rfl ?_) | (at_delete; refine wl_delete rfl _ _ _ _ rfl _ _ rfl rfl ?_) | (with_reducible refine wl_len rfl _ _ rfl _ rfl ?_) | (with_reducible refine wl_range rfl _ _ rfl _ rfl ?_) | (with_reducible refine wl_next rfl _ rfl _ rfl ?_) | (with_reducible refine wl_copy rfl _ _ _ _ rfl _ _ rfl rfl ?_) | (with_reducible refine wl_max rfl _ _ _ _ rfl _ _ rfl rfl ?_) | (with_reducible refine wl_min rfl _ _ _ _ rfl _ _ rfl rfl ?_) | (with_reducible refine wl_stAgg rfl _ _ _ rfl _ _ rfl rfl ?_))
      refine rg_stAgg hB3 (by kernel_rfl) (by rfl) (by simp [Value.oneCell']) ?_
      intro Z hBZ hkZ _
      replace I := I.step hDY hkY hBZ hkZ
      clear hDY hkY hBZ hkZ hB3 hsm hfl HR
      have hsm := hsm2
      have hfl := hfl2
      clear hsm2 hfl2
      have c1 := I.B3.cell
      unfold cel at c1
      have he := HE.out
      have hloop : (eq = 0 ∧ replD m s b = runS mq ((writesS t b).drop 0 ++ endS t s)) ∨ (eq ≠ 0 ∧ replD m s b = (mq, eq)) := by
        by_cases h0 : eq = 0
        · rw [if_pos h0] at he; exact .inl ⟨h0, he⟩
        · rw [if_neg h0] at he; exact .inr ⟨h0, he⟩
      clear he HE c1
      have HL := Lib.hid hloop
      clear hloop
      go_wp2_with (first | (at_builtin; refine wl_append rfl _ _ _ _ rfl _ _ rfl rfl ?_) | (at_make; refine wl_make rfl _ _ _ rfl _ _ rfl rfl ?_) | (at_mapUpdate; refine wl_mapUpdate rfl _ _ _ _ rfl _ _ _ rfl rfl rfl ?_) | (at_lookup; refine wl_lookup rfl _ _ _ _ rfl _ _ rfl rfl ?_) | (at_delete; refine wl_delete rfl _ _ _ _ rfl _ _ rfl rfl ?_) | (with_reducible refine wl_len rfl _ _ rfl _ rfl ?_) | (with_reducible refine wl_range rfl _ _ rfl _ rfl ?_) | (with_reducible refine wl_next rfl _ rfl _ rfl ?_) | (with_reducible refine wl_copy rfl _ _ _ _ rfl _ _ rfl rfl ?_) | (with_reducible refine wl_max rfl _ _ _ _ rfl _ _ rfl rfl ?_) | (with_reducible refine wl_min rfl _ _ _ _ rfl _ _ rfl rfl ?_))
      go_loopw [10, 11] (fun ev av wr => ∃ (k : Nat) (mk : M) (o1 o2 o3 o4 o5 : Value) (e : Nat), ev = .int .i64 (e : Int) ∧ av = .int .i64 ((64 * k : Nat) : Int) ∧ k ≤ pieces b.length ∧ RI A w wr w.heap.size (w.heap.size + 1) mk o1 o2 o3 o4 o5 ∧ Small mk (n + 3 + k) (N + 64 * 3 + 64 * k) ∧ Files mk (n2 + 3 + k) ∧ ((e = 0 ∧ replD m s b = runS mk ((writesS t b).drop k ++ endS t s)) ∨ (e ≠ 0 ∧ replD m s b = (mk, e)))) (fun _ av _ => 64 * pieces b.length - (intOf av).toNat)
      case atStart => exact ⟨0, mq, _, _, _, _, _, eq, rfl, rfl, Nat.zero_le _, I, hsm.mono (by omega) (by omega), hfl.mono (by omega), HL.out⟩
      case round =>
        clear I hsm hfl HL
        obtain ⟨k, mk, o1, o2, o3, o4, o5, e, rfl, rfl, hk, I, hsm, hfl, hcase⟩ := hrel
        have hpi := pieces_iff' b.length k
        obtain ⟨y1, t1, y2, t2, y3, t3, y4, t4, y5, t5, rfl, rfl, rfl, rfl, rfl⟩ := I.D.shape
        have c1 := I.B3.cell
        unfold cel at c1
        rcases hcase with ⟨rfl, HR⟩ | ⟨hne, HR⟩
        · rcases Nat.lt_or_ge (64 * k) b.length with hkl | hkl
          · have hkp := hpi.1 hkl
            have hdr : (writesS t b).drop k = writeS t b k :: (writesS t b).drop (k + 1) := by
              have hl : k < (writesS t b).length := by simp [writesS]; exact hkp
              rw [List.drop_eq_getElem_cons hl]
              simp [writesS]
            rw [hdr, List.cons_append] at HR
            have HR := Lib.hid HR
            clear hdr hpi
            have hwS : writeS t b k = ⟨2, t, [], 64 * k, (b.drop (64 * k)).take 64⟩ := rfl
            rw [hwS] at HR
            clear hwS
            have hpb : pieces b.length ≤ 16000 := by omega
            have h64 : 64 * (k + 1) = 64 * k + 64 := by omega
            generalize hat : 64 * k = at_ at *
            have hbX : Bts B wr (.slice ab b.length cb) b := Sl.keep hb I.K fun _ _ _ h => h
            have hlat : (at_ : Int) < (b.length : Int) := by omega
            have hat64 : at_ + 64 ≤ 2000000 := by omega
            rcases Nat.lt_or_ge b.length (at_ + 64) with hgt | hle
            · have hg' : (b.length : Int) < (at_ : Int) + 64 := by omega
              obtain ⟨a', cap', hrun, hsub⟩ := Bts.sub (P := Tryz.prog) (lo := at_) (hi := b.length) 46 Tryz.underlying46 (fun W => by kernel_rfl) hbX (by omega) (by omega)
              have ebody : (b.drop at_).take (b.length - at_) = (b.drop at_).take 64 := by
                rcases Nat.le_total (at_ + 64) b.length with h1 | h1
                · first | rw [Nat.add_sub_cancel_left] | (rw [List.take_of_length_le (by rw [List.length_drop]; omega), List.take_of_length_le (by rw [List.length_drop]; omega)])
                · rw [List.take_of_length_le (by rw [List.length_drop]; omega), List.take_of_length_le (by rw [List.length_drop]; omega)]
              rw [ebody] at hsub
              clear ebody
              generalize b.length - at_ = lg at *
              have hcv := conv_str hsub
              have hcast : ((at_ + 64 : Nat) : Int) = (at_ : Int) + 64 := by omega
              try rw [hcast] at hrun
              clear hcast
              have hsubd : Bts B wr.drew _ _ := Sl.keep hsub (Keep.refl No wr).drew fun _ _ _ h => h
              have hcvd := conv_str hsubd
              clear hbX hcv
              go_wp2_with (first | (at_builtin; refine wl_append rfl _ _ _ _ rfl _ _ rfl rfl ?_) | (at_make; refine wl_make rfl _ _ _ rfl _ _ rfl rfl ?_) | (at_mapUpdate; refine wl_mapUpdate rfl _ _ _ _ rfl _ _ _ rfl rfl rfl ?_) | (at_lookup; refine wl_lookup rfl _ _ _ _ rfl _ _ rfl rfl ?_) | (at_delete; refine wl_delete rfl _ _ _ _ rfl _ _ rfl rfl ?_) | (with_reducible refine wl_len rfl _ _ rfl _ rfl ?_) | (with_reducible refine wl_range rfl _ _ rfl _ rfl ?_) | (with_reducible refine wl_next rfl _ rfl _ rfl ?_) | (with_reducible refine wl_copy rfl _ _ _ _ rfl _ _ rfl rfl ?_) | (with_reducible refine wl_max rfl _ _ _ _ rfl _ _ rfl rfl ?_) | (with_reducible refine wl_min rfl _ _ _ _ rfl _ _ rfl rfl ?_))
              refine wp_region_tree (fun w' => (∀ i, w'.cell? ⟨w.heap.size, i, none⟩ = #[.int .i64 mk.room, .slice y1 mk.is.length t1, .slice y2 mk.sure.length t2, .slice y3 mk.L.length t3, .slice y4 mk.S.length t4, .slice y5 mk.wait.length t5, .bool mk.off, .int .i64 mk.cut][i]?) ∧ (convert 46 9 (.slice a' lg cap')).run Tryz.prog w' = .ok (.string ⟨((b.drop at_).take 64).toArray⟩) w') (fun j => decide (j ≤ 9)) (.st 0 (.st 1 (.st 2 (.st 3 (.st 4 (.st 5 (.st 6 (.st 7 (.ef 8 (.st 9 (.br 10 11 (.br 11 12 (.ef 12 (.ef 13 .nil)) (.ef 11 (.ef 13 .nil))) (.ef 10 (.ef 12 (.ef 13 .nil)))))))))))))) (by kernel_rfl) (by kernel_rfl) (by intro c a d v w h; cases d <;> exact h) ⟨c1, hcvd⟩ ?_
              apply tr_still (o := ⟨some 69, _, _, _, _, _⟩) rfl rfl
              · intro w' hS
                obtain ⟨q1, q2⟩ := hS
                first | (go_simp; done) | (go_simp; rfl) | rfl
              go_frame
              apply tr_still (o := ⟨some 70, _, _, _, _, _⟩) rfl rfl
              · intro w' hS
                obtain ⟨q1, q2⟩ := hS
                first | (go_simp; done) | (go_simp; rfl) | rfl
              go_frame
              apply tr_still (o := ⟨some 71, _, _, _, _, _⟩) rfl rfl
              · intro w' hS
                obtain ⟨q1, q2⟩ := hS
                first | (go_simp; done) | (go_simp; rfl) | rfl
              go_frame
              apply tr_still (o := ⟨some 72, _, _, _, _, _⟩) rfl rfl
              · intro w' hS
                obtain ⟨q1, q2⟩ := hS
                first | (go_simp; done) | (go_simp; rfl) | rfl
              go_frame
              apply tr_still (o := ⟨some 73, _, _, _, _, _⟩) rfl rfl
              · intro w' hS
                obtain ⟨q1, q2⟩ := hS
                first | (go_simp; done) | (go_simp; rfl) | rfl
              go_frame
              apply tr_still (o := ⟨some 74, _, _, _, _, _⟩) rfl rfl
              · intro w' hS
                obtain ⟨q1, q2⟩ := hS
                first | (go_simp; done) | (go_simp; rfl) | rfl
              go_frame
              apply tr_still (o := ⟨some 75, _, _, _, _, _⟩) rfl rfl
              · intro w' hS
                obtain ⟨q1, q2⟩ := hS
                first | (go_simp; done) | (go_simp; rfl) | rfl
              go_frame
              apply tr_still (o := ⟨some 76, _, _, _, _, _⟩) rfl rfl
              · intro w' hS
                obtain ⟨q1, q2⟩ := hS
                first | (go_simp; done) | (go_simp; rfl) | rfl
              go_frame
              replace I := I.no (Keep.refl No wr).drew
              refine tr_eff (o := ⟨some 77, _, _, _, _, _⟩) rfl rfl (fun K hKe => ?_)
              go_wp2_with (first | (at_builtin; refine wl_append rfl _ _ _ _ rfl _ _ rfl rfl ?_) | (at_make; refine wl_make rfl _ _ _ rfl _ _ rfl rfl ?_) | (at_mapUpdate; refine wl_mapUpdate rfl _ _ _ _ rfl _ _ _ rfl rfl rfl ?_) | (at_lookup; refine wl_lookup rfl _ _ _ _ rfl _ _ rfl rfl ?_) | (at_delete; refine wl_delete rfl _ _ _ _ rfl _ _ rfl rfl ?_) | (with_reducible refine wl_len rfl _ _ rfl _ rfl ?_) | (with_reducible refine wl_range rfl _ _ rfl _ rfl ?_) | (with_reducible refine wl_next rfl _ rfl _ rfl ?_) | (with_reducible refine wl_copy rfl _ _ _ _ rfl _ _ rfl rfl ?_) | (with_reducible refine wl_max rfl _ _ _ _ rfl _ _ rfl rfl ?_) | (with_reducible refine wl_min rfl _ _ _ _ rfl _ _ rfl rfl ?_))
              refine (rdo_cl ⟨2, t, [], at_, (b.drop at_).take 64⟩ ⟨by simp, by simp⟩ I.D hsm hfl (by omega) (by omega) (by omega) (by simp only [List.length_take]; omega)).mono ?_
              rintro e Y ⟨z1, z2, z3, z4, z5, rfl, hDY, hkY⟩
              have hsm2 := on_small hsm (s := ⟨2, t, [], at_, (b.drop at_).take 64⟩) ⟨htl, by simp, by simp only [List.length_take]; omega⟩
              have hfl2 := hfl.on (s := ⟨2, t, [], at_, (b.drop at_).take 64⟩)
              have he := HR.out
              rw [runS_cons] at he
              generalize Cl.on ⟨2, t, [], at_, (b.drop at_).take 64⟩ mk = mx at *
              obtain ⟨mq, eq⟩ := mx
              simp only at *
              have HE := Lib.hid he
              clear he
              obtain ⟨x1, s1, x2, s2, x3, s3, x4, s4, x5, s5, rfl, rfl, rfl, rfl, rfl⟩ := hDY.shape
              have hB3 := I.B3.keep hkY fun h => h
              have cY := hB3.cell
              have hcvY := conv_str (Sl.keep hsubd hkY fun _ _ _ h => h)
              unfold dv
              unfold cel at hB3 cY
              go_wp2_with (first | (at_builtin; refine wl_append rfl _ _ _ _ rfl _ _ rfl rfl ?_) | (at_make; refine wl_make rfl _ _ _ rfl _ _ rfl rfl ?_) | (at_mapUpdate; refine wl_mapUpdate rfl _ _ _ _ rfl _ _ _ rfl rfl rfl ?_) | (at_lookup; refine wl_lookup rfl _ _ _ _ rfl _ _ rfl rfl ?_) | (at_delete; refine wl_delete rfl _ _ _ _ rfl _ _ rfl rfl ?_) | (with_reducible refine wl_len rfl _ _ rfl _ rfl ?_) | (with_reducible refine wl_range rfl _ _ rfl _ rfl ?_) | (with_reducible refine wl_next rfl _ rfl _ rfl ?_) | (with_reducible refine wl_copy rfl _ _ _ _ rfl _ _ rfl rfl ?_) | (with_reducible refine wl_max rfl _ _ _ _ rfl _ _ rfl rfl ?_) | (with_reducible refine wl_min rfl _ _ _ _ rfl _ _ rfl rfl ?_))
              refine ⟨fun _ => ⟨cY, hcvY⟩, ?_⟩
              apply tr_still (o := ⟨some 68, _, _, _, _, _⟩) rfl rfl
              · intro w' hS
                obtain ⟨q1, q2⟩ := hS
                first | (go_simp; done) | (go_simp; rfl) | rfl
              go_frame
              refine tr_br (o := ⟨some 78, _, _, _, _, _⟩) (o' := ⟨some 79, _, _, _, _, _⟩) rfl rfl rfl rfl (fun K hKe => ?_) (fun K hKe => ?_)
              · go_wp2_with (first | (at_builtin; refine wl_append rfl _ _ _ _ rfl _ _ rfl rfl ?_) | (at_make; refine wl_make rfl _ _ _ rfl _ _ rfl rfl ?_) | (at_mapUpdate; refine wl_mapUpdate rfl _ _ _ _ rfl _ _ _ rfl rfl rfl ?_) | (at_lookup; refine wl_lookup rfl _ _ _ _ rfl _ _ rfl rfl ?_) | (at_delete; refine wl_delete rfl _ _ _ _ rfl _ _ rfl rfl ?_) | (with_reducible refine wl_len rfl _ _ rfl _ rfl ?_) | (with_reducible refine wl_range rfl _ _ rfl _ rfl ?_) | (with_reducible refine wl_next rfl _ rfl _ rfl ?_) | (with_reducible refine wl_copy rfl _ _ _ _ rfl _ _ rfl rfl ?_) | (with_reducible refine wl_max rfl _ _ _ _ rfl _ _ rfl rfl ?_) | (with_reducible refine wl_min rfl _ _ _ _ rfl _ _ rfl rfl ?_))
                refine ⟨fun h => by simp at h, ?_⟩
                refine tr_br (o := ⟨some 79, _, _, _, _, _⟩) (o' := ⟨none, _, _, _, _, _⟩) rfl rfl rfl rfl (fun K hKe => ?_) (fun K hKe => ?_)
                · go_wp2_with (first | (at_builtin; refine wl_append rfl _ _ _ _ rfl _ _ rfl rfl ?_) | (at_make; refine wl_make rfl _ _ _ rfl _ _ rfl rfl ?_) | (at_mapUpdate; refine wl_mapUpdate rfl _ _ _ _ rfl _ _ _ rfl rfl rfl ?_) | (at_lookup; refine wl_lookup rfl _ _ _ _ rfl _ _ rfl rfl ?_) | (at_delete; refine wl_delete rfl _ _ _ _ rfl _ _ rfl rfl ?_) | (with_reducible refine wl_len rfl _ _ rfl _ rfl ?_) | (with_reducible refine wl_range rfl _ _ rfl _ rfl ?_) | (with_reducible refine wl_next rfl _ rfl _ rfl ?_) | (with_reducible refine wl_copy rfl _ _ _ _ rfl _ _ rfl rfl ?_) | (with_reducible refine wl_max rfl _ _ _ _ rfl _ _ rfl rfl ?_) | (with_reducible refine wl_min rfl _ _ _ _ rfl _ _ rfl rfl ?_))
                  refine ⟨fun h => by simp at h, ?_⟩
                  refine tr_eff (o := ⟨none, _, _, _, _, _⟩) rfl rfl (fun K hKe => ?_)
                  refine wo_stAgg (.tmp 3) (.tmp 78) 30 rfl _ _ rfl rfl ?_
                  refine rg_stAgg hB3 (by kernel_rfl) (by rfl) (by simp [Value.oneCell']) ?_
                  intro Z hBZ hkZ _
                  replace I := I.step hDY hkY hBZ hkZ
                  refine hKe _ _ ⟨fun h => by simp at h, ?_⟩
                  clear hDY hkY hBZ hkZ hB3 hsm hfl HR c1 cY hcvY hcvd hsub hsubd
                  refine tr_eff (o := ⟨some 10, _, _, _, _, _⟩) rfl rfl (fun K hKe => ?_)
                  go_wp2_with (first | (at_builtin; refine wl_append rfl _ _ _ _ rfl _ _ rfl rfl ?_) | (at_make; refine wl_make rfl _ _ _ rfl _ _ rfl rfl ?_) | (at_mapUpdate; refine wl_mapUpdate rfl _ _ _ _ rfl _ _ _ rfl rfl rfl ?_) | (at_lookup; refine wl_lookup rfl _ _ _ _ rfl _ _ rfl rfl ?_) | (at_delete; refine wl_delete rfl _ _ _ _ rfl _ _ rfl rfl ?_) | (with_reducible refine wl_len rfl _ _ rfl _ rfl ?_) | (with_reducible refine wl_range rfl _ _ rfl _ rfl ?_) | (with_reducible refine wl_next rfl _ rfl _ rfl ?_) | (with_reducible refine wl_copy rfl _ _ _ _ rfl _ _ rfl rfl ?_) | (with_reducible refine wl_max rfl _ _ _ _ rfl _ _ rfl rfl ?_) | (with_reducible refine wl_min rfl _ _ _ _ rfl _ _ rfl rfl ?_))
                  refine ⟨fun h => by simp at h, tr_nil ?_⟩
                  go_wp2_with (first | (at_builtin; refine wl_append rfl _ _ _ _ rfl _ _ rfl rfl ?_) | (at_make; refine wl_make rfl _ _ _ rfl _ _ rfl rfl ?_) | (at_mapUpdate; refine wl_mapUpdate rfl _ _ _ _ rfl _ _ _ rfl rfl rfl ?_) | (at_lookup; refine wl_lookup rfl _ _ _ _ rfl _ _ rfl rfl ?_) | (at_delete; refine wl_delete rfl _ _ _ _ rfl _ _ rfl rfl ?_) | (with_reducible refine wl_len rfl _ _ rfl _ rfl ?_) | (with_reducible refine wl_range rfl _ _ rfl _ rfl ?_) | (with_reducible refine wl_next rfl _ rfl _ rfl ?_) | (with_reducible refine wl_copy rfl _ _ _ _ rfl _ _ rfl rfl ?_) | (with_reducible refine wl_max rfl _ _ _ _ rfl _ _ rfl rfl ?_) | (with_reducible refine wl_min rfl _ _ _ _ rfl _ _ rfl rfl ?_))
                  have he := HE.out
                  have hloop : (eq = 0 ∧ replD m s b = runS mq ((writesS t b).drop (k + 1) ++ endS t s)) ∨ (eq ≠ 0 ∧ replD m s b = (mq, eq)) := by
                    by_cases h0 : eq = 0
                    · rw [if_pos h0] at he; exact .inl ⟨h0, he⟩
                    · rw [if_neg h0] at he; exact .inr ⟨h0, he⟩
                  go_roundw
                  case rel => exact ⟨k + 1, mq, _, _, _, _, _, eq, rfl, by rw [h64]; go_num, hkp, I, hsm2.mono (by omega) (by omega), hfl2.mono (by omega), hloop⟩
                  case measure => simp only [intOf]; omega
                · skip
                  refine wo_stAgg (.tmp 3) (.tmp 78) 30 rfl _ _ rfl rfl ?_
                  refine rg_stAgg hB3 (by kernel_rfl) (by rfl) (by simp [Value.oneCell']) ?_
                  intro Z hBZ hkZ _
                  replace I := I.step hDY hkY hBZ hkZ
                  refine hKe _ _ ⟨fun h => by simp at h, ?_⟩
                  clear hDY hkY hBZ hkZ hB3 hsm hfl HR c1 cY hcvY hcvd hsub hsubd
                  refine tr_eff (o := ⟨some 79, _, _, _, _, _⟩) rfl rfl (fun K hKe => ?_)
                  go_wp2_with (first | (at_builtin; refine wl_append rfl _ _ _ _ rfl _ _ rfl rfl ?_) | (at_make; refine wl_make rfl _ _ _ rfl _ _ rfl rfl ?_) | (at_mapUpdate; refine wl_mapUpdate rfl _ _ _ _ rfl _ _ _ rfl rfl rfl ?_) | (at_lookup; refine wl_lookup rfl _ _ _ _ rfl _ _ rfl rfl ?_) | (at_delete; refine wl_delete rfl _ _ _ _ rfl _ _ rfl rfl ?_) | (with_reducible refine wl_len rfl _ _ rfl _ rfl ?_) | (with_reducible refine wl_range rfl _ _ rfl _ rfl ?_) | (with_reducible refine wl_next rfl _ rfl _ rfl ?_) | (with_reducible refine wl_copy rfl _ _ _ _ rfl _ _ rfl rfl ?_) | (with_reducible refine wl_max rfl _ _ _ _ rfl _ _ rfl rfl ?_) | (with_reducible refine wl_min rfl _ _ _ _ rfl _ _ rfl rfl ?_))
                  refine ⟨fun h => by simp at h, ?_⟩
                  refine tr_eff (o := ⟨some 10, _, _, _, _, _⟩) rfl rfl (fun K hKe => ?_)
                  go_wp2_with (first | (at_builtin; refine wl_append rfl _ _ _ _ rfl _ _ rfl rfl ?_) | (at_make; refine wl_make rfl _ _ _ rfl _ _ rfl rfl ?_) | (at_mapUpdate; refine wl_mapUpdate rfl _ _ _ _ rfl _ _ _ rfl rfl rfl ?_) | (at_lookup; refine wl_lookup rfl _ _ _ _ rfl _ _ rfl rfl ?_) | (at_delete; refine wl_delete rfl _ _ _ _ rfl _ _ rfl rfl ?_) | (with_reducible refine wl_len rfl _ _ rfl _ rfl ?_) | (with_reducible refine wl_range rfl _ _ rfl _ rfl ?_) | (with_reducible refine wl_next rfl _ rfl _ rfl ?_) | (with_reducible refine wl_copy rfl _ _ _ _ rfl _ _ rfl rfl ?_) | (with_reducible refine wl_max rfl _ _ _ _ rfl _ _ rfl rfl ?_) | (with_reducible refine wl_min rfl _ _ _ _ rfl _ _ rfl rfl ?_))
                  refine ⟨fun h => by simp at h, tr_nil ?_⟩
                  go_wp2_with (first | (at_builtin; refine wl_append rfl _ _ _ _ rfl _ _ rfl rfl ?_) | (at_make; refine wl_make rfl _ _ _ rfl _ _ rfl rfl ?_) | (at_mapUpdate; refine wl_mapUpdate rfl _ _ _ _ rfl _ _ _ rfl rfl rfl ?_) | (at_lookup; refine wl_lookup rfl _ _ _ _ rfl _ _ rfl rfl ?_) | (at_delete; refine wl_delete rfl _ _ _ _ rfl _ _ rfl rfl ?_) | (with_reducible refine wl_len rfl _ _ rfl _ rfl ?_) | (with_reducible refine wl_range rfl _ _ rfl _ rfl ?_) | (with_reducible refine wl_next rfl _ rfl _ rfl ?_) | (with_reducible refine wl_copy rfl _ _ _ _ rfl _ _ rfl rfl ?_) | (with_reducible refine wl_max rfl _ _ _ _ rfl _ _ rfl rfl ?_) | (with_reducible refine wl_min rfl _ _ _ _ rfl _ _ rfl rfl ?_))
                  have he := HE.out
                  have hloop : (eq = 0 ∧ replD m s b = runS mq ((writesS t b).drop (k + 1) ++ endS t s)) ∨ (eq ≠ 0 ∧ replD m s b = (mq, eq)) := by
                    by_cases h0 : eq = 0
                    · rw [if_pos h0] at he; exact .inl ⟨h0, he⟩
                    · rw [if_neg h0] at he; exact .inr ⟨h0, he⟩
                  go_roundw
                  case rel => exact ⟨k + 1, mq, _, _, _, _, _, eq, rfl, by rw [h64]; go_num, hkp, I, hsm2.mono (by omega) (by omega), hfl2.mono (by omega), hloop⟩
                  case measure => simp only [intOf]; omega
              · go_wp2_with (first | (at_builtin; refine wl_append rfl _ _ _ _ rfl _ _ rfl rfl ?_) | (at_make; refine wl_make rfl _ _ _ rfl _ _ rfl rfl ?_) | (at_mapUpdate; refine wl_mapUpdate rfl _ _ _ _ rfl _ _ _ rfl rfl rfl ?_) | (at_lookup; refine wl_lookup rfl _ _ _ _ rfl _ _ rfl rfl ?_) | (at_delete; refine wl_delete rfl _ _ _ _ rfl _ _ rfl rfl ?_) | (with_reducible refine wl_len rfl _ _ rfl _ rfl ?_) | (with_reducible refine wl_range rfl _ _ rfl _ rfl ?_) | (with_reducible refine wl_next rfl _ rfl _ rfl ?_) | (with_reducible refine wl_copy rfl _ _ _ _ rfl _ _ rfl rfl ?_) | (with_reducible refine wl_max rfl _ _ _ _ rfl _ _ rfl rfl ?_) | (with_reducible refine wl_min rfl _ _ _ _ rfl _ _ rfl rfl ?_))
                refine ⟨fun h => by simp at h, ?_⟩
                refine tr_eff (o := ⟨some 78, _, _, _, _, _⟩) rfl rfl (fun K hKe => ?_)
                go_wp2_with (first | (at_builtin; refine wl_append rfl _ _ _ _ rfl _ _ rfl rfl ?_) | (at_make; refine wl_make rfl _ _ _ rfl _ _ rfl rfl ?_) | (at_mapUpdate; refine wl_mapUpdate rfl _ _ _ _ rfl _ _ _ rfl rfl rfl ?_) | (at_lookup; refine wl_lookup rfl _ _ _ _ rfl _ _ rfl rfl ?_) | (at_delete; refine wl_delete rfl _ _ _ _ rfl _ _ rfl rfl ?_) | (with_reducible refine wl_len rfl _ _ rfl _ rfl ?_) | (with_reducible refine wl_range rfl _ _ rfl _ rfl ?_) | (with_reducible refine wl_next rfl _ rfl _ rfl ?_) | (with_reducible refine wl_copy rfl _ _ _ _ rfl _ _ rfl rfl ?_) | (with_reducible refine wl_max rfl _ _ _ _ rfl _ _ rfl rfl ?_) | (with_reducible refine wl_min rfl _ _ _ _ rfl _ _ rfl rfl ?_))
                refine ⟨fun h => by simp at h, ?_⟩
                refine tr_eff (o := ⟨none, _, _, _, _, _⟩) rfl rfl (fun K hKe => ?_)
                refine wo_stAgg (.tmp 3) (.tmp 78) 30 rfl _ _ rfl rfl ?_
                refine rg_stAgg hB3 (by kernel_rfl) (by rfl) (by simp [Value.oneCell']) ?_
                intro Z hBZ hkZ _
                replace I := I.step hDY hkY hBZ hkZ
                refine hKe _ _ ⟨fun h => by simp at h, ?_⟩
                clear hDY hkY hBZ hkZ hB3 hsm hfl HR c1 cY hcvY hcvd hsub hsubd
                refine tr_eff (o := ⟨some 10, _, _, _, _, _⟩) rfl rfl (fun K hKe => ?_)
                go_wp2_with (first | (at_builtin; refine wl_append rfl _ _ _ _ rfl _ _ rfl rfl ?_) | (at_make; refine wl_make rfl _ _ _ rfl _ _ rfl rfl ?_) | (at_mapUpdate; refine wl_mapUpdate rfl _ _ _ _ rfl _ _ _ rfl rfl rfl ?_) | (at_lookup; refine wl_lookup rfl _ _ _ _ rfl _ _ rfl rfl ?_) | (at_delete; refine wl_delete rfl _ _ _ _ rfl _ _ rfl rfl ?_) | (with_reducible refine wl_len rfl _ _ rfl _ rfl ?_) | (with_reducible refine wl_range rfl _ _ rfl _ rfl ?_) | (with_reducible refine wl_next rfl _ rfl _ rfl ?_) | (with_reducible refine wl_copy rfl _ _ _ _ rfl _ _ rfl rfl ?_) | (with_reducible refine wl_max rfl _ _ _ _ rfl _ _ rfl rfl ?_) | (with_reducible refine wl_min rfl _ _ _ _ rfl _ _ rfl rfl ?_))
                refine ⟨fun h => by simp at h, tr_nil ?_⟩
                go_wp2_with (first | (at_builtin; refine wl_append rfl _ _ _ _ rfl _ _ rfl rfl ?_) | (at_make; refine wl_make rfl _ _ _ rfl _ _ rfl rfl ?_) | (at_mapUpdate; refine wl_mapUpdate rfl _ _ _ _ rfl _ _ _ rfl rfl rfl ?_) | (at_lookup; refine wl_lookup rfl _ _ _ _ rfl _ _ rfl rfl ?_) | (at_delete; refine wl_delete rfl _ _ _ _ rfl _ _ rfl rfl ?_) | (with_reducible refine wl_len rfl _ _ rfl _ rfl ?_) | (with_reducible refine wl_range rfl _ _ rfl _ rfl ?_) | (with_reducible refine wl_next rfl _ rfl _ rfl ?_) | (with_reducible refine wl_copy rfl _ _ _ _ rfl _ _ rfl rfl ?_) | (with_reducible refine wl_max rfl _ _ _ _ rfl _ _ rfl rfl ?_) | (with_reducible refine wl_min rfl _ _ _ _ rfl _ _ rfl rfl ?_))
                have he := HE.out
                have hloop : (eq = 0 ∧ replD m s b = runS mq ((writesS t b).drop (k + 1) ++ endS t s)) ∨ (eq ≠ 0 ∧ replD m s b = (mq, eq)) := by
                  by_cases h0 : eq = 0
                  · rw [if_pos h0] at he; exact .inl ⟨h0, he⟩
                  · rw [if_neg h0] at he; exact .inr ⟨h0, he⟩
                go_roundw
                case rel => exact ⟨k + 1, mq, _, _, _, _, _, eq, rfl, by rw [h64]; go_num, hkp, I, hsm2.mono (by omega) (by omega), hfl2.mono (by omega), hloop⟩
                case measure => simp only [intOf]; omega
            · have hg' : (at_ : Int) + 64 ≤ (b.length : Int) := by omega
              obtain ⟨a', cap', hrun, hsub⟩ := Bts.sub (P := Tryz.prog) (lo := at_) (hi := (at_ + 64)) 46 Tryz.underlying46 (fun W => by kernel_rfl) hbX (by omega) (by omega)
              have ebody : (b.drop at_).take ((at_ + 64) - at_) = (b.drop at_).take 64 := by
                rcases Nat.le_total (at_ + 64) b.length with h1 | h1
                · first | rw [Nat.add_sub_cancel_left] | (rw [List.take_of_length_le (by rw [List.length_drop]; omega), List.take_of_length_le (by rw [List.length_drop]; omega)])
                · rw [List.take_of_length_le (by rw [List.length_drop]; omega), List.take_of_length_le (by rw [List.length_drop]; omega)]
              rw [ebody] at hsub
              clear ebody
              generalize (at_ + 64) - at_ = lg at *
              have hcv := conv_str hsub
              have hcast : ((at_ + 64 : Nat) : Int) = (at_ : Int) + 64 := by omega
              try rw [hcast] at hrun
              clear hcast
              have hsubd : Bts B wr.drew _ _ := Sl.keep hsub (Keep.refl No wr).drew fun _ _ _ h => h
              have hcvd := conv_str hsubd
              clear hbX hcv
              go_wp2_with (first | (at_builtin; refine wl_append rfl _ _ _ _ rfl _ _ rfl rfl ?_) | (at_make; refine wl_make rfl _ _ _ rfl _ _ rfl rfl ?_) | (at_mapUpdate; refine wl_mapUpdate rfl _ _ _ _ rfl _ _ _ rfl rfl rfl ?_) | (at_lookup; refine wl_lookup rfl _ _ _ _ rfl _ _ rfl rfl ?_) | (at_delete; refine wl_delete rfl _ _ _ _ rfl _ _ rfl rfl ?_) | (with_reducible refine wl_len rfl _ _ rfl _ rfl ?_) | (with_reducible refine wl_range rfl _ _ rfl _ rfl ?_) | (with_reducible refine wl_next rfl _ rfl _ rfl ?_) | (with_reducible refine wl_copy rfl _ _ _ _ rfl _ _ rfl rfl ?_) | (with_reducible refine wl_max rfl _ _ _ _ rfl _ _ rfl rfl ?_) | (with_reducible refine wl_min rfl _ _ _ _ rfl _ _ rfl rfl ?_))
              refine wp_region_tree (fun w' => (∀ i, w'.cell? ⟨w.heap.size, i, none⟩ = #[.int .i64 mk.room, .slice y1 mk.is.length t1, .slice y2 mk.sure.length t2, .slice y3 mk.L.length t3, .slice y4 mk.S.length t4, .slice y5 mk.wait.length t5, .bool mk.off, .int .i64 mk.cut][i]?) ∧ (convert 46 9 (.slice a' lg cap')).run Tryz.prog w' = .ok (.string ⟨((b.drop at_).take 64).toArray⟩) w') (fun j => decide (j ≤ 9)) (.st 0 (.st 1 (.st 2 (.st 3 (.st 4 (.st 5 (.st 6 (.st 7 (.ef 8 (.st 9 (.br 10 11 (.br 11 12 (.ef 12 (.ef 13 .nil)) (.ef 11 (.ef 13 .nil))) (.ef 10 (.ef 12 (.ef 13 .nil)))))))))))))) (by kernel_rfl) (by kernel_rfl) (by intro c a d v w h; cases d <;> exact h) ⟨c1, hcvd⟩ ?_
              apply tr_still (o := ⟨some 69, _, _, _, _, _⟩) rfl rfl
              · intro w' hS
                obtain ⟨q1, q2⟩ := hS
                first | (go_simp; done) | (go_simp; rfl) | rfl
              go_frame
              apply tr_still (o := ⟨some 70, _, _, _, _, _⟩) rfl rfl
              · intro w' hS
                obtain ⟨q1, q2⟩ := hS
                first | (go_simp; done) | (go_simp; rfl) | rfl
              go_frame
              apply tr_still (o := ⟨some 71, _, _, _, _, _⟩) rfl rfl
              · intro w' hS
                obtain ⟨q1, q2⟩ := hS
                first | (go_simp; done) | (go_simp; rfl) | rfl
              go_frame
              apply tr_still (o := ⟨some 72, _, _, _, _, _⟩) rfl rfl
              · intro w' hS
                obtain ⟨q1, q2⟩ := hS
                first | (go_simp; done) | (go_simp; rfl) | rfl
              go_frame
              apply tr_still (o := ⟨some 73, _, _, _, _, _⟩) rfl rfl
              · intro w' hS
                obtain ⟨q1, q2⟩ := hS
                first | (go_simp; done) | (go_simp; rfl) | rfl
              go_frame
              apply tr_still (o := ⟨some 74, _, _, _, _, _⟩) rfl rfl
              · intro w' hS
                obtain ⟨q1, q2⟩ := hS
                first | (go_simp; done) | (go_simp; rfl) | rfl
              go_frame
              apply tr_still (o := ⟨some 75, _, _, _, _, _⟩) rfl rfl
              · intro w' hS
                obtain ⟨q1, q2⟩ := hS
                first | (go_simp; done) | (go_simp; rfl) | rfl
              go_frame
              apply tr_still (o := ⟨some 76, _, _, _, _, _⟩) rfl rfl
              · intro w' hS
                obtain ⟨q1, q2⟩ := hS
                first | (go_simp; done) | (go_simp; rfl) | rfl
              go_frame
              replace I := I.no (Keep.refl No wr).drew
              refine tr_eff (o := ⟨some 77, _, _, _, _, _⟩) rfl rfl (fun K hKe => ?_)
              go_wp2_with (first | (at_builtin; refine wl_append rfl _ _ _ _ rfl _ _ rfl rfl ?_) | (at_make; refine wl_make rfl _ _ _ rfl _ _ rfl rfl ?_) | (at_mapUpdate; refine wl_mapUpdate rfl _ _ _ _ rfl _ _ _ rfl rfl rfl ?_) | (at_lookup; refine wl_lookup rfl _ _ _ _ rfl _ _ rfl rfl ?_) | (at_delete; refine wl_delete rfl _ _ _ _ rfl _ _ rfl rfl ?_) | (with_reducible refine wl_len rfl _ _ rfl _ rfl ?_) | (with_reducible refine wl_range rfl _ _ rfl _ rfl ?_) | (with_reducible refine wl_next rfl _ rfl _ rfl ?_) | (with_reducible refine wl_copy rfl _ _ _ _ rfl _ _ rfl rfl ?_) | (with_reducible refine wl_max rfl _ _ _ _ rfl _ _ rfl rfl ?_) | (with_reducible refine wl_min rfl _ _ _ _ rfl _ _ rfl rfl ?_))
              refine (rdo_cl ⟨2, t, [], at_, (b.drop at_).take 64⟩ ⟨by simp, by simp⟩ I.D hsm hfl (by omega) (by omega) (by omega) (by simp only [List.length_take]; omega)).mono ?_
              rintro e Y ⟨z1, z2, z3, z4, z5, rfl, hDY, hkY⟩
              have hsm2 := on_small hsm (s := ⟨2, t, [], at_, (b.drop at_).take 64⟩) ⟨htl, by simp, by simp only [List.length_take]; omega⟩
              have hfl2 := hfl.on (s := ⟨2, t, [], at_, (b.drop at_).take 64⟩)
              have he := HR.out
              rw [runS_cons] at he
              generalize Cl.on ⟨2, t, [], at_, (b.drop at_).take 64⟩ mk = mx at *
              obtain ⟨mq, eq⟩ := mx
              simp only at *
              have HE := Lib.hid he
              clear he
              obtain ⟨x1, s1, x2, s2, x3, s3, x4, s4, x5, s5, rfl, rfl, rfl, rfl, rfl⟩ := hDY.shape
              have hB3 := I.B3.keep hkY fun h => h
              have cY := hB3.cell
              have hcvY := conv_str (Sl.keep hsubd hkY fun _ _ _ h => h)
              unfold dv
              unfold cel at hB3 cY
              go_wp2_with (first | (at_builtin; refine wl_append rfl _ _ _ _ rfl _ _ rfl rfl ?_) | (at_make; refine wl_make rfl _ _ _ rfl _ _ rfl rfl ?_) | (at_mapUpdate; refine wl_mapUpdate rfl _ _ _ _ rfl _ _ _ rfl rfl rfl ?_) | (at_lookup; refine wl_lookup rfl _ _ _ _ rfl _ _ rfl rfl ?_) | (at_delete; refine wl_delete rfl _ _ _ _ rfl _ _ rfl rfl ?_) | (with_reducible refine wl_len rfl _ _ rfl _ rfl ?_) | (with_reducible refine wl_range rfl _ _ rfl _ rfl ?_) | (with_reducible refine wl_next rfl _ rfl _ rfl ?_) | (with_reducible refine wl_copy rfl _ _ _ _ rfl _ _ rfl rfl ?_) | (with_reducible refine wl_max rfl _ _ _ _ rfl _ _ rfl rfl ?_) | (with_reducible refine wl_min rfl _ _ _ _ rfl _ _ rfl rfl ?_))
              refine ⟨fun _ => ⟨cY, hcvY⟩, ?_⟩
              apply tr_still (o := ⟨some 68, _, _, _, _, _⟩) rfl rfl
              · intro w' hS
                obtain ⟨q1, q2⟩ := hS
                first | (go_simp; done) | (go_simp; rfl) | rfl
              go_frame
              refine tr_br (o := ⟨some 78, _, _, _, _, _⟩) (o' := ⟨some 79, _, _, _, _, _⟩) rfl rfl rfl rfl (fun K hKe => ?_) (fun K hKe => ?_)
              · go_wp2_with (first | (at_builtin; refine wl_append rfl _ _ _ _ rfl _ _ rfl rfl ?_) | (at_make; refine wl_make rfl _ _ _ rfl _ _ rfl rfl ?_) | (at_mapUpdate; refine wl_mapUpdate rfl _ _ _ _ rfl _ _ _ rfl rfl rfl ?_) | (at_lookup; refine wl_lookup rfl _ _ _ _ rfl _ _ rfl rfl ?_) | (at_delete; refine wl_delete rfl _ _ _ _ rfl _ _ rfl rfl ?_) | (with_reducible refine wl_len rfl _ _ rfl _ rfl ?_) | (with_reducible refine wl_range rfl _ _ rfl _ rfl ?_) | (with_reducible refine wl_next rfl _ rfl _ rfl ?_) | (with_reducible refine wl_copy rfl _ _ _ _ rfl _ _ rfl rfl ?_) | (with_reducible refine wl_max rfl _ _ _ _ rfl _ _ rfl rfl ?_) | (with_reducible refine wl_min rfl _ _ _ _ rfl _ _ rfl rfl ?_))
                refine ⟨fun h => by simp at h, ?_⟩
                refine tr_br (o := ⟨some 79, _, _, _, _, _⟩) (o' := ⟨none, _, _, _, _, _⟩) rfl rfl rfl rfl (fun K hKe => ?_) (fun K hKe => ?_)
                · go_wp2_with (first | (at_builtin; refine wl_append rfl _ _ _ _ rfl _ _ rfl rfl ?_) | (at_make; refine wl_make rfl _ _ _ rfl _ _ rfl rfl ?_) | (at_mapUpdate; refine wl_mapUpdate rfl _ _ _ _ rfl _ _ _ rfl rfl rfl ?_) | (at_lookup; refine wl_lookup rfl _ _ _ _ rfl _ _ rfl rfl ?_) | (at_delete; refine wl_delete rfl _ _ _ _ rfl _ _ rfl rfl ?_) | (with_reducible refine wl_len rfl _ _ rfl _ rfl ?_) | (with_reducible refine wl_range rfl _ _ rfl _ rfl ?_) | (with_reducible refine wl_next rfl _ rfl _ rfl ?_) | (with_reducible refine wl_copy rfl _ _ _ _ rfl _ _ rfl rfl ?_) | (with_reducible refine wl_max rfl _ _ _ _ rfl _ _ rfl rfl ?_) | (with_reducible refine wl_min rfl _ _ _ _ rfl _ _ rfl rfl ?_))
                  refine ⟨fun h => by simp at h, ?_⟩
                  refine tr_eff (o := ⟨none, _, _, _, _, _⟩) rfl rfl (fun K hKe => ?_)
                  refine wo_stAgg (.tmp 3) (.tmp 78) 30 rfl _ _ rfl rfl ?_
                  refine rg_stAgg hB3 (by kernel_rfl) (by rfl) (by simp [Value.oneCell']) ?_
                  intro Z hBZ hkZ _
                  replace I := I.step hDY hkY hBZ hkZ
                  refine hKe _ _ ⟨fun h => by simp at h, ?_⟩
                  clear hDY hkY hBZ hkZ hB3 hsm hfl HR c1 cY hcvY hcvd hsub hsubd
                  refine tr_eff (o := ⟨some 10, _, _, _, _, _⟩) rfl rfl (fun K hKe => ?_)
                  go_wp2_with (first | (at_builtin; refine wl_append rfl _ _ _ _ rfl _ _ rfl rfl ?_) | (at_make; refine wl_make rfl _ _ _ rfl _ _ rfl rfl ?_) | (at_mapUpdate; refine wl_mapUpdate rfl _ _ _ _ rfl _ _ _ rfl rfl rfl ?_) | (at_lookup; refine wl_lookup rfl _ _ _ _ rfl _ _ rfl rfl ?_) | (at_delete; refine wl_delete rfl _ _ _ _ rfl _ _ rfl rfl ?_) | (with_reducible refine wl_len rfl _ _ rfl _ rfl ?_) | (with_reducible refine wl_range rfl _ _ rfl _ rfl ?_) | (with_reducible refine wl_next rfl _ rfl _ rfl ?_) | (with_reducible refine wl_copy rfl _ _ _ _ rfl _ _ rfl rfl ?_) | (with_reducible refine wl_max rfl _ _ _ _ rfl _ _ rfl rfl ?_) | (with_reducible refine wl_min rfl _ _ _ _ rfl _ _ rfl rfl ?_))
                  refine ⟨fun h => by simp at h, tr_nil ?_⟩
                  go_wp2_with (first | (at_builtin; refine wl_append rfl _ _ _ _ rfl _ _ rfl rfl ?_) | (at_make; refine wl_make rfl _ _ _ rfl _ _ rfl rfl ?_) | (at_mapUpdate; refine wl_mapUpdate rfl _ _ _ _ rfl _ _ _ rfl rfl rfl ?_) | (at_lookup; refine wl_lookup rfl _ _ _ _ rfl _ _ rfl rfl ?_) | (at_delete; refine wl_delete rfl _ _ _ _ rfl _ _ rfl rfl ?_) | (with_reducible refine wl_len rfl _ _ rfl _ rfl ?_) | (with_reducible refine wl_range rfl _ _ rfl _ rfl ?_) | (with_reducible refine wl_next rfl _ rfl _ rfl ?_) | (with_reducible refine wl_copy rfl _ _ _ _ rfl _ _ rfl rfl ?_) | (with_reducible refine wl_max rfl _ _ _ _ rfl _ _ rfl rfl ?_) | (with_reducible refine wl_min rfl _ _ _ _ rfl _ _ rfl rfl ?_))
                  have he := HE.out
                  have hloop : (eq = 0 ∧ replD m s b = runS mq ((writesS t b).drop (k + 1) ++ endS t s)) ∨ (eq ≠ 0 ∧ replD m s b = (mq, eq)) := by
                    by_cases h0 : eq = 0
                    · rw [if_pos h0] at he; exact .inl ⟨h0, he⟩
                    · rw [if_neg h0] at he; exact .inr ⟨h0, he⟩
                  go_roundw
                  case rel => exact ⟨k + 1, mq, _, _, _, _, _, eq, rfl, by rw [h64]; go_num, hkp, I, hsm2.mono (by omega) (by omega), hfl2.mono (by omega), hloop⟩
                  case measure => simp only [intOf]; omega
                · skip
                  refine wo_stAgg (.tmp 3) (.tmp 78) 30 rfl _ _ rfl rfl ?_
                  refine rg_stAgg hB3 (by kernel_rfl) (by rfl) (by simp [Value.oneCell']) ?_
                  intro Z hBZ hkZ _
                  replace I := I.step hDY hkY hBZ hkZ
                  refine hKe _ _ ⟨fun h => by simp at h, ?_⟩
                  clear hDY hkY hBZ hkZ hB3 hsm hfl HR c1 cY hcvY hcvd hsub hsubd
                  refine tr_eff (o := ⟨some 79, _, _, _, _, _⟩) rfl rfl (fun K hKe => ?_)
                  go_wp2_with (first | (at_builtin; refine wl_append rfl _ _ _ _ rfl _ _ rfl rfl ?_) | (at_make; refine wl_make rfl _ _ _ rfl _ _ rfl rfl ?_) | (at_mapUpdate; refine wl_mapUpdate rfl _ _ _ _ rfl _ _ _ rfl rfl rfl ?_) | (at_lookup; refine wl_lookup rfl _ _ _ _ rfl _ _ rfl rfl ?_) | (at_delete; refine wl_delete rfl _ _ _ _ rfl _ _ rfl rfl ?_) | (with_reducible refine wl_len rfl _ _ rfl _ rfl ?_) | (with_reducible refine wl_range rfl _ _ rfl _ rfl ?_) | (with_reducible refine wl_next rfl _ rfl _ rfl ?_) | (with_reducible refine wl_copy rfl _ _ _ _ rfl _ _ rfl rfl ?_) | (with_reducible refine wl_max rfl _ _ _ _ rfl _ _ rfl rfl ?_) | (with_reducible refine wl_min rfl _ _ _ _ rfl _ _ rfl rfl ?_))
                  refine ⟨fun h => by simp at h, ?_⟩
                  refine tr_eff (o := ⟨some 10, _, _, _, _, _⟩) rfl rfl (fun K hKe => ?_)
                  go_wp2_with (first | (at_builtin; refine wl_append rfl _ _ _ _ rfl _ _ rfl rfl ?_) | (at_make; refine wl_make rfl _ _ _ rfl _ _ rfl rfl ?_) | (at_mapUpdate; refine wl_mapUpdate rfl _ _ _ _ rfl _ _ _ rfl rfl rfl ?_) | (at_lookup; refine wl_lookup rfl _ _ _ _ rfl _ _ rfl rfl ?_) | (at_delete; refine wl_delete rfl _ _ _ _ rfl _ _ rfl rfl ?_) | (with_reducible refine wl_len rfl _ _ rfl _ rfl ?_) | (with_reducible refine wl_range rfl _ _ rfl _ rfl ?_) | (with_reducible refine wl_next rfl _ rfl _ rfl ?_) | (with_reducible refine wl_copy rfl _ _ _ _ rfl _ _ rfl rfl ?_) | (with_reducible refine wl_max rfl _ _ _ _ rfl _ _ rfl rfl ?_) | (with_reducible refine wl_min rfl _ _ _ _ rfl _ _ rfl rfl ?_))
                  refine ⟨fun h => by simp at h, tr_nil ?_⟩
                  go_wp2_with (first | (at_builtin; refine wl_append rfl _ _ _ _ rfl _ _ rfl rfl ?_) | (at_make; refine wl_make rfl _ _ _ rfl _ _ rfl rfl ?_) | (at_mapUpdate; refine wl_mapUpdate rfl _ _ _ _ rfl _ _ _ rfl rfl rfl ?_) | (at_lookup; refine wl_lookup rfl _ _ _ _ rfl _ _ rfl rfl ?_) | (at_delete; refine wl_delete rfl _ _ _ _ rfl _ _ rfl rfl ?_) | (with_reducible refine wl_len rfl _ _ rfl _ rfl ?_) | (with_reducible refine wl_range rfl _ _ rfl _ rfl ?_) | (with_reducible refine wl_next rfl _ rfl _ rfl ?_) | (with_reducible refine wl_copy rfl _ _ _ _ rfl _ _ rfl rfl ?_) | (with_reducible refine wl_max rfl _ _ _ _ rfl _ _ rfl rfl ?_) | (with_reducible refine wl_min rfl _ _ _ _ rfl _ _ rfl rfl ?_))
                  have he := HE.out
                  have hloop : (eq = 0 ∧ replD m s b = runS mq ((writesS t b).drop (k + 1) ++ endS t s)) ∨ (eq ≠ 0 ∧ replD m s b = (mq, eq)) := by
                    by_cases h0 : eq = 0
                    · rw [if_pos h0] at he; exact .inl ⟨h0, he⟩
                    · rw [if_neg h0] at he; exact .inr ⟨h0, he⟩
                  go_roundw
                  case rel => exact ⟨k + 1, mq, _, _, _, _, _, eq, rfl, by rw [h64]; go_num, hkp, I, hsm2.mono (by omega) (by omega), hfl2.mono (by omega), hloop⟩
                  case measure => simp only [intOf]; omega
              · go_wp2_with (first | (at_builtin; refine wl_append rfl _ _ _ _ rfl _ _ rfl rfl ?_) | (at_make; refine wl_make rfl _ _ _ rfl _ _ rfl rfl ?_) | (at_mapUpdate; refine wl_mapUpdate rfl _ _ _ _ rfl _ _ _ rfl rfl rfl ?_) | (at_lookup; refine wl_lookup rfl _ _ _ _ rfl _ _ rfl rfl ?_) | (at_delete; refine wl_delete rfl _ _ _ _ rfl _ _ rfl rfl ?_) | (with_reducible refine wl_len rfl _ _ rfl _ rfl ?_) | (with_reducible refine wl_range rfl _ _ rfl _ rfl ?_) | (with_reducible refine wl_next rfl _ rfl _ rfl ?_) | (with_reducible refine wl_copy rfl _ _ _ _ rfl _ _ rfl rfl ?_) | (with_reducible refine wl_max rfl _ _ _ _ rfl _ _ rfl rfl ?_) | (with_reducible refine wl_min rfl _ _ _ _ rfl _ _ rfl rfl ?_))
                refine ⟨fun h => by simp at h, ?_⟩
                refine tr_eff (o := ⟨some 78, _, _, _, _, _⟩) rfl rfl (fun K hKe => ?_)
                go_wp2_with (first | (at_builtin; refine wl_append rfl _ _ _ _ rfl _ _ rfl rfl ?_) | (at_make; refine wl_make rfl _ _ _ rfl _ _ rfl rfl ?_) | (at_mapUpdate; refine wl_mapUpdate rfl _ _ _ _ rfl _ _ _ rfl rfl rfl ?_) | (at_lookup; refine wl_lookup rfl _ _ _ _ rfl _ _ rfl rfl ?_) | (at_delete; refine wl_delete rfl _ _ _ _ rfl _ _ rfl rfl ?_) | (with_reducible refine wl_len rfl _ _ rfl _ rfl ?_) | (with_reducible refine wl_range rfl _ _ rfl _ rfl ?_) | (with_reducible refine wl_next rfl _ rfl _ rfl ?_) | (with_reducible refine wl_copy rfl _ _ _ _ rfl _ _ rfl rfl ?_) | (with_reducible refine wl_max rfl _ _ _ _ rfl _ _ rfl rfl ?_) | (with_reducible refine wl_min rfl _ _ _ _ rfl _ _ rfl rfl ?_))
                refine ⟨fun h => by simp at h, ?_⟩
                refine tr_eff (o := ⟨none, _, _, _, _, _⟩) rfl rfl (fun K hKe => ?_)
                refine wo_stAgg (.tmp 3) (.tmp 78) 30 rfl _ _ rfl rfl ?_
                refine rg_stAgg hB3 (by kernel_rfl) (by rfl) (by simp [Value.oneCell']) ?_
                intro Z hBZ hkZ _
                replace I := I.step hDY hkY hBZ hkZ
                refine hKe _ _ ⟨fun h => by simp at h, ?_⟩
                clear hDY hkY hBZ hkZ hB3 hsm hfl HR c1 cY hcvY hcvd hsub hsubd
                refine tr_eff (o := ⟨some 10, _, _, _, _, _⟩) rfl rfl (fun K hKe => ?_)
                go_wp2_with (first | (at_builtin; refine wl_append rfl _ _ _ _ rfl _ _ rfl rfl ?_) | (at_make; refine wl_make rfl _ _ _ rfl _ _ rfl rfl ?_) | (at_mapUpdate; refine wl_mapUpdate rfl _ _ _ _ rfl _ _ _ rfl rfl rfl ?_) | (at_lookup; refine wl_lookup rfl _ _ _ _ rfl _ _ rfl rfl ?_) | (at_delete; refine wl_delete rfl _ _ _ _ rfl _ _ rfl rfl ?_) | (with_reducible refine wl_len rfl _ _ rfl _ rfl ?_) | (with_reducible refine wl_range rfl _ _ rfl _ rfl ?_) | (with_reducible refine wl_next rfl _ rfl _ rfl ?_) | (with_reducible refine wl_copy rfl _ _ _ _ rfl _ _ rfl rfl ?_) | (with_reducible refine wl_max rfl _ _ _ _ rfl _ _ rfl rfl ?_) | (with_reducible refine wl_min rfl _ _ _ _ rfl _ _ rfl rfl ?_))
                refine ⟨fun h => by simp at h, tr_nil ?_⟩
                go_wp2_with (first | (at_builtin; refine wl_append rfl _ _ _ _ rfl _ _ rfl rfl ?_) | (at_make; refine wl_make rfl _ _ _ rfl _ _ rfl rfl ?_) | (at_mapUpdate; refine wl_mapUpdate rfl _ _ _ _ rfl _ _ _ rfl rfl rfl ?_) | (at_lookup; refine wl_lookup rfl _ _ _ _ rfl _ _ rfl rfl ?_) | (at_delete; refine wl_delete rfl _ _ _ _ rfl _ _ rfl rfl ?_) | (with_reducible refine wl_len rfl _ _ rfl _ rfl ?_) | (with_reducible refine wl_range rfl _ _ rfl _ rfl ?_) | (with_reducible refine wl_next rfl _ rfl _ rfl ?_) | (with_reducible refine wl_copy rfl _ _ _ _ rfl _ _ rfl rfl ?_) | (with_reducible refine wl_max rfl _ _ _ _ rfl _ _ rfl rfl ?_) | (with_reducible refine wl_min rfl _ _ _ _ rfl _ _ rfl rfl ?_))
                have he := HE.out
                have hloop : (eq = 0 ∧ replD m s b = runS mq ((writesS t b).drop (k + 1) ++ endS t s)) ∨ (eq ≠ 0 ∧ replD m s b = (mq, eq)) := by
                  by_cases h0 : eq = 0
                  · rw [if_pos h0] at he; exact .inl ⟨h0, he⟩
                  · rw [if_neg h0] at he; exact .inr ⟨h0, he⟩
                go_roundw
                case rel => exact ⟨k + 1, mq, _, _, _, _, _, eq, rfl, by rw [h64]; go_num, hkp, I, hsm2.mono (by omega) (by omega), hfl2.mono (by omega), hloop⟩
                case measure => simp only [intOf]; omega
          · have hkp : k = pieces b.length := Nat.le_antisymm hk (by unfold pieces; omega)
            subst hkp
            rw [List.drop_of_length_le (by simp [writesS]), List.nil_append] at HR
            have HR := Lib.hid HR
            have hkl' : (b.length : Int) ≤ ((64 * pieces b.length : Nat) : Int) := by omega
            generalize hat : 64 * pieces b.length = at_ at *
            unfold endS at HR
            go_wp2_with (first | (at_builtin; refine wl_append rfl _ _ _ _ rfl _ _ rfl rfl ?_) | (at_make; refine wl_make rfl _ _ _ rfl _ _ rfl rfl ?_) | (at_mapUpdate; refine wl_mapUpdate rfl _ _ _ _ rfl _ _ _ rfl rfl rfl ?_) | (at_lookup; refine wl_lookup rfl _ _ _ _ rfl _ _ rfl rfl ?_) | (at_delete; refine wl_delete rfl _ _ _ _ rfl _ _ rfl rfl ?_) | (with_reducible refine wl_len rfl _ _ rfl _ rfl ?_) | (with_reducible refine wl_range rfl _ _ rfl _ rfl ?_) | (with_reducible refine wl_next rfl _ rfl _ rfl ?_) | (with_reducible refine wl_copy rfl _ _ _ _ rfl _ _ rfl rfl ?_) | (with_reducible refine wl_max rfl _ _ _ _ rfl _ _ rfl rfl ?_) | (with_reducible refine wl_min rfl _ _ _ _ rfl _ _ rfl rfl ?_))
            refine (rdo_cl ⟨3, t, [], 0, []⟩ ⟨by simp, by simp⟩ I.D hsm hfl (by omega) (by omega) (by omega) (by simp)).mono ?_
            rintro e Y ⟨z1, z2, z3, z4, z5, rfl, hDY, hkY⟩
            have hsm2 := on_small hsm (s := ⟨3, t, [], 0, []⟩) ⟨by first | exact htl | simp, by first | exact hsl6 | simp, by simp⟩
            have hfl2 := hfl.on (s := ⟨3, t, [], 0, []⟩)
            have he := HR.out
            rw [runS_cons] at he
            generalize Cl.on ⟨3, t, [], 0, []⟩ mk = mx at *
            obtain ⟨mq, eq⟩ := mx
            simp only at *
            have HE := Lib.hid he
            clear he
            obtain ⟨y1, t1, y2, t2, y3, t3, y4, t4, y5, t5, rfl, rfl, rfl, rfl, rfl⟩ := hDY.shape
            have hB3 := I.B3.keep hkY fun h => h
            clear c1
            unfold dv
            unfold cel at hB3
            go_wp2_with (first | (at_builtin; refine wl_append rfl _ _ _ _ rfl _ _ rfl rfl ?_) | (at_make; refine wl_make rfl _ _ _ rfl _ _ rfl rfl ?_) | (at_mapUpdate; refine wl_mapUpdate rfl _ _ _ _ rfl _ _ _ rfl rfl rfl ?_) | (at_lookup; refine wl_lookup rfl _ _ _ _ rfl _ _ rfl rfl ?_) | (at_delete; refine wl_delete rfl _ _ _ _ rfl _ _ rfl rfl ?_) | (with_reducible refine wl_len rfl _ _ rfl _ rfl ?_) | (with_reducible refine wl_range rfl _ _ rfl _ rfl ?_) | (with_reducible refine wl_next rfl _ rfl _ rfl ?_) | (with_reducible refine wl_copy rfl _ _ _ _ rfl _ _ rfl rfl ?_) | (with_reducible refine wl_max rfl _ _ _ _ rfl _ _ rfl rfl ?_) | (with_reducible refine wl_min rfl _ _ _ _ rfl _ _ rfl rfl ?_) | (with_reducible refine wl_stAgg rfl _ _ _ rfl _ _ rfl rfl ?_))
            refine rg_stAgg hB3 (by kernel_rfl) (by rfl) (by simp [Value.oneCell']) ?_
            intro Z hBZ hkZ _
            replace I := I.step hDY hkY hBZ hkZ
            clear hDY hkY hBZ hkZ hB3 hsm hfl HR
            have hsm := hsm2
            have hfl := hfl2
            clear hsm2 hfl2
            have c1 := I.B3.cell
            unfold cel at c1
            by_cases h0 : eq = 0
            rotate_left
            · have he := HE.out
              rw [if_neg h0] at he
              have HR := Lib.hid he
              have h0' : ((eq : Int) == 0) = false := by simpa using h0
              clear he HE h0
              go_wp2_with (first | (at_builtin; refine wl_append rfl _ _ _ _ rfl _ _ rfl rfl ?_) | (at_make; refine wl_make rfl _ _ _ rfl _ _ rfl rfl ?_) | (at_mapUpdate; refine wl_mapUpdate rfl _ _ _ _ rfl _ _ _ rfl rfl rfl ?_) | (at_lookup; refine wl_lookup rfl _ _ _ _ rfl _ _ rfl rfl ?_) | (at_delete; refine wl_delete rfl _ _ _ _ rfl _ _ rfl rfl ?_) | (with_reducible refine wl_len rfl _ _ rfl _ rfl ?_) | (with_reducible refine wl_range rfl _ _ rfl _ rfl ?_) | (with_reducible refine wl_next rfl _ rfl _ rfl ?_) | (with_reducible refine wl_copy rfl _ _ _ _ rfl _ _ rfl rfl ?_) | (with_reducible refine wl_max rfl _ _ _ _ rfl _ _ rfl rfl ?_) | (with_reducible refine wl_min rfl _ _ _ _ rfl _ _ rfl rfl ?_) | (with_reducible refine wl_stAgg rfl _ _ _ rfl _ _ rfl rfl ?_))
              refine rg_stAgg I.B6 (by kernel_rfl) (by rfl) (by simp [Value.oneCell']) ?_
              intro Z hBZ hkZ _
              go_wp2_with (first | (at_builtin; refine wl_append rfl _ _ _ _ rfl _ _ rfl rfl ?_) | (at_make; refine wl_make rfl _ _ _ rfl _ _ rfl rfl ?_) | (at_mapUpdate; refine wl_mapUpdate rfl _ _ _ _ rfl _ _ _ rfl rfl rfl ?_) | (at_lookup; refine wl_lookup rfl _ _ _ _ rfl _ _ rfl rfl ?_) | (at_delete; refine wl_delete rfl _ _ _ _ rfl _ _ rfl rfl ?_) | (with_reducible refine wl_len rfl _ _ rfl _ rfl ?_) | (with_reducible refine wl_range rfl _ _ rfl _ rfl ?_) | (with_reducible refine wl_next rfl _ rfl _ rfl ?_) | (with_reducible refine wl_copy rfl _ _ _ _ rfl _ _ rfl rfl ?_) | (with_reducible refine wl_max rfl _ _ _ _ rfl _ _ rfl rfl ?_) | (with_reducible refine wl_min rfl _ _ _ _ rfl _ _ rfl rfl ?_) | (with_reducible refine wl_stAgg rfl _ _ _ rfl _ _ rfl rfl ?_))
              refine ret_blk_tmp rfl rfl hBZ Tryz.underlying30 rfl (by kernel_rfl) rfl ?_
              rw [HR.out]
              exact I.fin hkZ
            have he := HE.out
            rw [if_pos h0] at he
            have HR := Lib.hid he
            subst h0
            clear he HE
            go_wp2_with (first | (at_builtin; refine wl_append rfl _ _ _ _ rfl _ _ rfl rfl ?_) | (at_make; refine wl_make rfl _ _ _ rfl _ _ rfl rfl ?_) | (at_mapUpdate; refine wl_mapUpdate rfl _ _ _ _ rfl _ _ _ rfl rfl rfl ?_) | (at_lookup; refine wl_lookup rfl _ _ _ _ rfl _ _ rfl rfl ?_) | (at_delete; refine wl_delete rfl _ _ _ _ rfl _ _ rfl rfl ?_) | (with_reducible refine wl_len rfl _ _ rfl _ rfl ?_) | (with_reducible refine wl_range rfl _ _ rfl _ rfl ?_) | (with_reducible refine wl_next rfl _ rfl _ rfl ?_) | (with_reducible refine wl_copy rfl _ _ _ _ rfl _ _ rfl rfl ?_) | (with_reducible refine wl_max rfl _ _ _ _ rfl _ _ rfl rfl ?_) | (with_reducible refine wl_min rfl _ _ _ _ rfl _ _ rfl rfl ?_))
            refine (rdo_cl ⟨4, t, s, 0, []⟩ ⟨by simp, by simp⟩ I.D hsm hfl (by omega) (by omega) (by omega) (by simp)).mono ?_
            rintro e Y ⟨z1, z2, z3, z4, z5, rfl, hDY, hkY⟩
            have hsm2 := on_small hsm (s := ⟨4, t, s, 0, []⟩) ⟨by first | exact htl | simp, by first | exact hsl6 | simp, by simp⟩
            have hfl2 := hfl.on (s := ⟨4, t, s, 0, []⟩)
            have he := HR.out
            rw [runS_cons] at he
            generalize Cl.on ⟨4, t, s, 0, []⟩ mq = mx at *
            obtain ⟨mq, eq⟩ := mx
            simp only at *
            have HE := Lib.hid he
            clear he
            obtain ⟨y1, t1, y2, t2, y3, t3, y4, t4, y5, t5, rfl, rfl, rfl, rfl, rfl⟩ := hDY.shape
            have hB3 := I.B3.keep hkY fun h => h
            clear c1
            unfold dv
            unfold cel at hB3
            go_wp2_with (first | (at_builtin; refine wl_append rfl _ _ _ _ rfl _ _ rfl rfl ?_) | (at_make; refine wl_make rfl _ _ _ rfl _ _ rfl rfl ?_) | (at_mapUpdate; refine wl_mapUpdate rfl _ _ _ _ rfl _ _ _ rfl rfl rfl ?_) | (at_lookup; refine wl_lookup rfl _ _ _ _ rfl _ _ rfl rfl ?_) | (at_delete; refine wl_delete rfl _ _ _ _ rfl _ _ rfl rfl ?_) | (with_reducible refine wl_len rfl _ _ rfl _ rfl ?_) | (with_reducible refine wl_range rfl _ _ rfl _ rfl ?_) | (with_reducible refine wl_next rfl _ rfl _ rfl ?_) | (with_reducible refine wl_copy rfl _ _ _ _ rfl _ _ rfl rfl ?_) | (with_reducible refine wl_max rfl _ _ _ _ rfl _ _ rfl rfl ?_) | (with_reducible refine wl_min rfl _ _ _ _ rfl _ _ rfl rfl ?_) | (with_reducible refine wl_stAgg rfl _ _ _ rfl _ _ rfl rfl ?_))
            refine rg_stAgg hB3 (by kernel_rfl) (by rfl) (by simp [Value.oneCell']) ?_
            intro Z hBZ hkZ _
            replace I := I.step hDY hkY hBZ hkZ
            clear hDY hkY hBZ hkZ hB3 hsm hfl HR
            have hsm := hsm2
            have hfl := hfl2
            clear hsm2 hfl2
            have c1 := I.B3.cell
            unfold cel at c1
            by_cases h0 : eq = 0
            rotate_left
            · have he := HE.out
              rw [if_neg h0] at he
              have HR := Lib.hid he
              have h0' : ((eq : Int) == 0) = false := by simpa using h0
              clear he HE h0
              go_wp2_with (first | (at_builtin; refine wl_append rfl _ _ _ _ rfl _ _ rfl rfl ?_) | (at_make; refine wl_make rfl _ _ _ rfl _ _ rfl rfl ?_) | (at_mapUpdate; refine wl_mapUpdate rfl _ _ _ _ rfl _ _ _ rfl rfl rfl ?_) | (at_lookup; refine wl_lookup rfl _ _ _ _ rfl _ _ rfl rfl ?_) | (at_delete; refine wl_delete rfl _ _ _ _ rfl _ _ rfl rfl ?_) | (with_reducible refine wl_len rfl _ _ rfl _ rfl ?_) | (with_reducible refine wl_range rfl _ _ rfl _ rfl ?_) | (with_reducible refine wl_next rfl _ rfl _ rfl ?_) | (with_reducible refine wl_copy rfl _ _ _ _ rfl _ _ rfl rfl ?_) | (with_reducible refine wl_max rfl _ _ _ _ rfl _ _ rfl rfl ?_) | (with_reducible refine wl_min rfl _ _ _ _ rfl _ _ rfl rfl ?_) | (with_reducible refine wl_stAgg rfl _ _ _ rfl _ _ rfl rfl ?_))
              refine rg_stAgg I.B6 (by kernel_rfl) (by rfl) (by simp [Value.oneCell']) ?_
              intro Z hBZ hkZ _
              go_wp2_with (first | (at_builtin; refine wl_append rfl _ _ _ _ rfl _ _ rfl rfl ?_) | (at_make; refine wl_make rfl _ _ _ rfl _ _ rfl rfl ?_) | (at_mapUpdate; refine wl_mapUpdate rfl _ _ _ _ rfl _ _ _ rfl rfl rfl ?_) | (at_lookup; refine wl_lookup rfl _ _ _ _ rfl _ _ rfl rfl ?_) | (at_delete; refine wl_delete rfl _ _ _ _ rfl _ _ rfl rfl ?_) | (with_reducible refine wl_len rfl _ _ rfl _ rfl ?_) | (with_reducible refine wl_range rfl _ _ rfl _ rfl ?_) | (with_reducible refine wl_next rfl _ rfl _ rfl ?_) | (with_reducible refine wl_copy rfl _ _ _ _ rfl _ _ rfl rfl ?_) | (with_reducible refine wl_max rfl _ _ _ _ rfl _ _ rfl rfl ?_) | (with_reducible refine wl_min rfl _ _ _ _ rfl _ _ rfl rfl ?_) | (with_reducible refine wl_stAgg rfl _ _ _ rfl _ _ rfl rfl ?_))
              refine ret_blk_tmp rfl rfl hBZ Tryz.underlying30 rfl (by kernel_rfl) rfl ?_
              rw [HR.out]
              exact I.fin hkZ
            have he := HE.out
            rw [if_pos h0] at he
            have HR := Lib.hid he
            subst h0
            clear he HE
            go_wp2_with (first | (at_builtin; refine wl_append rfl _ _ _ _ rfl _ _ rfl rfl ?_) | (at_make; refine wl_make rfl _ _ _ rfl _ _ rfl rfl ?_) | (at_mapUpdate; refine wl_mapUpdate rfl _ _ _ _ rfl _ _ _ rfl rfl rfl ?_) | (at_lookup; refine wl_lookup rfl _ _ _ _ rfl _ _ rfl rfl ?_) | (at_delete; refine wl_delete rfl _ _ _ _ rfl _ _ rfl rfl ?_) | (with_reducible refine wl_len rfl _ _ rfl _ rfl ?_) | (with_reducible refine wl_range rfl _ _ rfl _ rfl ?_) | (with_reducible refine wl_next rfl _ rfl _ rfl ?_) | (with_reducible refine wl_copy rfl _ _ _ _ rfl _ _ rfl rfl ?_) | (with_reducible refine wl_max rfl _ _ _ _ rfl _ _ rfl rfl ?_) | (with_reducible refine wl_min rfl _ _ _ _ rfl _ _ rfl rfl ?_))
            refine (rdo_cl ⟨6, [], [], 0, []⟩ ⟨by simp, by simp⟩ I.D hsm hfl (by omega) (by omega) (by omega) (by simp)).mono ?_
            rintro e Y ⟨z1, z2, z3, z4, z5, rfl, hDY, hkY⟩
            have hsm2 := on_small hsm (s := ⟨6, [], [], 0, []⟩) ⟨by first | exact htl | simp, by first | exact hsl6 | simp, by simp⟩
            have hfl2 := hfl.on (s := ⟨6, [], [], 0, []⟩)
            have he := HR.out
            rw [runS_cons] at he
            generalize Cl.on ⟨6, [], [], 0, []⟩ mq = mx at *
            obtain ⟨mq, eq⟩ := mx
            simp only at *
            have HE := Lib.hid he
            clear he
            obtain ⟨y1, t1, y2, t2, y3, t3, y4, t4, y5, t5, rfl, rfl, rfl, rfl, rfl⟩ := hDY.shape
            have hB3 := I.B3.keep hkY fun h => h
            clear c1
            unfold dv
            unfold cel at hB3
            go_wp2_with (first | (at_builtin; refine wl_append rfl _ _ _ _ rfl _ _ rfl rfl ?_) | (at_make; refine wl_make rfl _ _ _ rfl _ _ rfl rfl ?_) | (at_mapUpdate; refine wl_mapUpdate rfl _ _ _ _ rfl _ _ _ rfl rfl rfl ?_) | (at_lookup; refine wl_lookup rfl _ _ _ _ rfl _ _ rfl rfl ?_) | (at_delete; refine wl_delete rfl _ _ _ _ rfl _ _ rfl rfl ?_) | (with_reducible refine wl_len rfl _ _ rfl _ rfl ?_) | (with_reducible refine wl_range rfl _ _ rfl _ rfl ?_) | (with_reducible refine wl_next rfl _ rfl _ rfl ?_) | (with_reducible refine wl_copy rfl _ _ _ _ rfl _ _ rfl rfl ?_) | (with_reducible refine wl_max rfl _ _ _ _ rfl _ _ rfl rfl ?_) | (with_reducible refine wl_min rfl _ _ _ _ rfl _ _ rfl rfl ?_) | (with_reducible refine wl_stAgg rfl _ _ _ rfl _ _ rfl rfl ?_))
            refine rg_stAgg hB3 (by kernel_rfl) (by rfl) (by simp [Value.oneCell']) ?_
            intro Z hBZ hkZ _
            replace I := I.step hDY hkY hBZ hkZ
            clear hDY hkY hBZ hkZ hB3 hsm hfl HR
            have hsm := hsm2
            have hfl := hfl2
            clear hsm2 hfl2
            have c1 := I.B3.cell
            unfold cel at c1
            have he := HE.out
            have HR : Hid (replD m s b = (mq, eq)) := Lib.hid (by
              rw [he]
              by_cases h0 : eq = 0
              · subst h0; rfl
              · rw [if_neg h0])
            clear he HE
            go_wp2_with (first | (at_builtin; refine wl_append rfl _ _ _ _ rfl _ _ rfl rfl ?_) | (at_make; refine wl_make rfl _ _ _ rfl _ _ rfl rfl ?_) | (at_mapUpdate; refine wl_mapUpdate rfl _ _ _ _ rfl _ _ _ rfl rfl rfl ?_) | (at_lookup; refine wl_lookup rfl _ _ _ _ rfl _ _ rfl rfl ?_) | (at_delete; refine wl_delete rfl _ _ _ _ rfl _ _ rfl rfl ?_) | (with_reducible refine wl_len rfl _ _ rfl _ rfl ?_) | (with_reducible refine wl_range rfl _ _ rfl _ rfl ?_) | (with_reducible refine wl_next rfl _ rfl _ rfl ?_) | (with_reducible refine wl_copy rfl _ _ _ _ rfl _ _ rfl rfl ?_) | (with_reducible refine wl_max rfl _ _ _ _ rfl _ _ rfl rfl ?_) | (with_reducible refine wl_min rfl _ _ _ _ rfl _ _ rfl rfl ?_) | (with_reducible refine wl_stAgg rfl _ _ _ rfl _ _ rfl rfl ?_))
            refine rg_stAgg I.B6 (by kernel_rfl) (by rfl) (by simp [Value.oneCell']) ?_
            intro Z hBZ hkZ _
            go_wp2_with (first | (at_builtin; refine wl_append rfl _ _ _ _ rfl _ _ rfl rfl ?_) | (at_make; refine wl_make rfl _ _ _ rfl _ _ rfl rfl ?_) | (at_mapUpdate; refine wl_mapUpdate rfl _ _ _ _ rfl _ _ _ rfl rfl rfl ?_) | (at_lookup; refine wl_lookup rfl _ _ _ _ rfl _ _ rfl rfl ?_) | (at_delete; refine wl_delete rfl _ _ _ _ rfl _ _ rfl rfl ?_) | (with_reducible refine wl_len rfl _ _ rfl _ rfl ?_) | (with_reducible refine wl_range rfl _ _ rfl _ rfl ?_) | (with_reducible refine wl_next rfl _ rfl _ rfl ?_) | (with_reducible refine wl_copy rfl _ _ _ _ rfl _ _ rfl rfl ?_) | (with_reducible refine wl_max rfl _ _ _ _ rfl _ _ rfl rfl ?_) | (with_reducible refine wl_min rfl _ _ _ _ rfl _ _ rfl rfl ?_) | (with_reducible refine wl_stAgg rfl _ _ _ rfl _ _ rfl rfl ?_))
            refine ret_blk_tmp rfl rfl hBZ Tryz.underlying30 rfl (by kernel_rfl) rfl ?_
            rw [HR.out]
            exact I.fin hkZ
        · have HR := Lib.hid HR
          have h0' : ((e : Int) == 0) = false := by simpa using hne
          go_wp2_with (first | (at_builtin; refine wl_append rfl _ _ _ _ rfl _ _ rfl rfl ?_) | (at_make; refine wl_make rfl _ _ _ rfl _ _ rfl rfl ?_) | (at_mapUpdate; refine wl_mapUpdate rfl _ _ _ _ rfl _ _ _ rfl rfl rfl ?_) | (at_lookup; refine wl_lookup rfl _ _ _ _ rfl _ _ rfl rfl ?_) | (at_delete; refine wl_delete rfl _ _ _ _ rfl _ _ rfl rfl ?_) | (with_reducible refine wl_len rfl _ _ rfl _ rfl ?_) | (with_reducible refine wl_range rfl _ _ rfl _ rfl ?_) | (with_reducible refine wl_next rfl _ rfl _ rfl ?_) | (with_reducible refine wl_copy rfl _ _ _ _ rfl _ _ rfl rfl ?_) | (with_reducible refine wl_max rfl _ _ _ _ rfl _ _ rfl rfl ?_) | (with_reducible refine wl_min rfl _ _ _ _ rfl _ _ rfl rfl ?_) | (with_reducible refine wl_stAgg rfl _ _ _ rfl _ _ rfl rfl ?_))
          refine rg_stAgg I.B6 (by kernel_rfl) (by rfl) (by simp [Value.oneCell']) ?_
          intro Z hBZ hkZ _
          go_wp2_with (first | (at_builtin; refine wl_append rfl _ _ _ _ rfl _ _ rfl rfl ?_) | (at_make; refine wl_make rfl _ _ _ rfl _ _ rfl rfl ?_) | (at_mapUpdate; refine wl_mapUpdate rfl _ _ _ _ rfl _ _ _ rfl rfl rfl ?_) | (at_lookup; refine wl_lookup rfl _ _ _ _ rfl _ _ rfl rfl ?_) | (at_delete; refine wl_delete rfl _ _ _ _ rfl _ _ rfl rfl ?_) | (with_reducible refine wl_len rfl _ _ rfl _ rfl ?_) | (with_reducible refine wl_range rfl _ _ rfl _ rfl ?_) | (with_reducible refine wl_next rfl _ rfl _ rfl ?_) | (with_reducible refine wl_copy rfl _ _ _ _ rfl _ _ rfl rfl ?_) | (with_reducible refine wl_max rfl _ _ _ _ rfl _ _ rfl rfl ?_) | (with_reducible refine wl_min rfl _ _ _ _ rfl _ _ rfl rfl ?_) | (with_reducible refine wl_stAgg rfl _ _ _ rfl _ _ rfl rfl ?_))
          refine ret_blk_tmp rfl rfl hBZ Tryz.underlying30 rfl (by kernel_rfl) rfl ?_
          rw [HR.out]
          exact I.fin hkZ
end Go.Proofs.YtkmoomgmmhmaeaaGreat
