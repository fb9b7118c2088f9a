/- The reference of the disk: laid. Replace: its steps are laid, and done. Replace, walked. No condition. -/
import Derived.Test.YtkmoomgmmhmaeaaRef2
import Derived.Test.YtkmoomgmmhmaeaaFl
import Derived.Test.YtkmoomgmmhmaeaaFileM
namespace Go.Proofs.Ytkmoomgmmhmaeaa
open Go.RowKit Go.Dm Go.Dm.Dk

theorem str_app (a b : List UInt8) : (⟨a.toArray⟩ ++ ⟨b.toArray⟩ : ByteArray) = ⟨(a ++ b).toArray⟩ := by
  apply ByteArray.ext
  simp
theorem str_ext (a : List UInt8) (i j : Nat) : (⟨a.toArray⟩ : ByteArray).extract i j = ⟨((a.drop i).take (j - i)).toArray⟩ := by
  apply ByteArray.ext
  rw [ByteArray.data_extract]
  simp
theorem ret_str {a b : ByteArray} (h : a = b) : Ending.returned (.string a) = .returned (.string b) := by rw [h]
def padB (s : List UInt8) (i : Nat) : List UInt8 := s ++ List.replicate (i - s.length) 0
theorem padB_len (s : List UInt8) (i : Nat) : (padB s i).length = max s.length i := by simp [padB]; omega
theorem laidB_pad (s : List UInt8) (i : Nat) (b : List UInt8) : laidB s i b = (padB s i).take i ++ b ++ (padB s i).drop (i + b.length) := by
  have h0 : splice (List.replicate (max s.length (i + b.length)) (0 : UInt8)) 0 s = s ++ List.replicate (i + b.length - s.length) 0 := by
    unfold splice
    rw [List.take_zero, List.nil_append, Nat.zero_add, List.drop_replicate]
    congr 2; omega
  unfold laidB
  rw [h0]
  unfold splice padB
  rcases Nat.le_total i s.length with h | h
  · rw [List.take_append_of_le_length h, List.take_append_of_le_length h, Nat.sub_eq_zero_of_le h]
    rw [List.drop_append, List.replicate_zero, List.append_nil]
    have : (List.replicate (i + b.length - s.length) (0 : UInt8)).drop (i + b.length - s.length) = [] := List.drop_eq_nil_of_le (by simp)
    rw [this, List.append_nil, List.append_assoc]
  · have e1 : (s ++ List.replicate (i - s.length) (0 : UInt8)).drop (i + b.length) = [] := List.drop_eq_nil_of_le (by rw [List.length_append, List.length_replicate]; omega)
    have e2 : (s ++ List.replicate (i + b.length - s.length) (0 : UInt8)).drop (i + b.length) = [] := List.drop_eq_nil_of_le (by rw [List.length_append, List.length_replicate]; omega)
    rw [e1, e2]
    rw [List.take_append, List.take_append, List.take_replicate, List.take_replicate]
    rw [Nat.min_eq_left (by omega), Nat.min_self]
    simp
theorem pad_succ (s : List UInt8) (k : Nat) (h : s.length ≤ k) : padB s k ++ [0] = padB s (k + 1) := by
  unfold padB
  rw [List.append_assoc, ← List.replicate_succ']
  congr 2; omega
theorem pad_eq {s p : List UInt8} {k i : Nat} (h : padB s k = p) (hl : p.length = max s.length k) (hk : k ≤ s.length ∨ k ≤ i) (hi : p.length ≥ i) : padB s i = p := by
  rw [← h]
  unfold padB
  congr 2; omega
theorem pad_max (s : List UInt8) (k : Nat) : padB s k = padB s (max s.length k) := by unfold padB; congr 2; omega

set_option maxRecDepth 100000 in
set_option maxHeartbeats 1000000 in
theorem rlaid_any {w : World} (s : List UInt8) (i : Nat) (b : List UInt8) (hs : s.length ≤ 1000000) (hi : i ≤ 1000000) (hb : b.length ≤ 1000000) :
    Calls Try.prog 88 #[.string ⟨s.toArray⟩, .int .i64 (i : Int), .string ⟨b.toArray⟩] w fun e w' => e = .returned (.string ⟨(laidB s i b).toArray⟩) ∧ Keep No w w' := by
  go_enter Try.func88, Try.ntmps88
  go_wp2_with (first | (at_builtin; refine wl_append rfl _ _ _ _ rfl _ _ rfl rfl ?_) | (at_make; refine wl_make rfl _ _ _ rfl _ _ rfl rfl ?_) | (at_mapUpdate; refine wl_mapUpdate rfl _ _ _ _ rfl _ _ _ rfl rfl rfl ?_) | (at_lookup; refine wl_lookup rfl _ _ _ _ rfl _ _ rfl rfl ?_) | (at_delete; refine wl_delete rfl _ _ _ _ rfl _ _ rfl rfl ?_) | (with_reducible refine wl_len rfl _ _ rfl _ rfl ?_) | (with_reducible refine wl_range rfl _ _ rfl _ rfl ?_) | (with_reducible refine wl_next rfl _ rfl _ rfl ?_) | (with_reducible refine wl_copy rfl _ _ _ _ rfl _ _ rfl rfl ?_) | (with_reducible refine wl_max rfl _ _ _ _ rfl _ _ rfl rfl ?_) | (with_reducible refine wl_min rfl _ _ _ _ rfl _ _ rfl rfl ?_))
  go_loopw [0] (fun sv wr => ∃ k : Nat, sv = .string ⟨(padB s k).toArray⟩ ∧ (k ≤ s.length ∨ k ≤ i) ∧ wr = w) (fun sv _ => i - (match sv with | .string s => s.size | _ => 0))
  case atStart => exact ⟨0, by simp [padB], .inl (Nat.zero_le _), rfl⟩
  case round =>
    obtain ⟨k, rfl, hk, rfl⟩ := hrel
    have hl := padB_len s k
    generalize hp : padB s k = p at *
    have HP := Lib.hid hp
    have HL := Lib.hid hl
    have hpl : p.length ≤ 1000000 := by omega
    clear hp hl
    rcases Nat.lt_or_ge p.length i with hlt | hge
    · go_wp2_with (first | (at_builtin; refine wl_append rfl _ _ _ _ rfl _ _ rfl rfl ?_) | (at_make; refine wl_make rfl _ _ _ rfl _ _ rfl rfl ?_) | (at_mapUpdate; refine wl_mapUpdate rfl _ _ _ _ rfl _ _ _ rfl rfl rfl ?_) | (at_lookup; refine wl_lookup rfl _ _ _ _ rfl _ _ rfl rfl ?_) | (at_delete; refine wl_delete rfl _ _ _ _ rfl _ _ rfl rfl ?_) | (with_reducible refine wl_len rfl _ _ rfl _ rfl ?_) | (with_reducible refine wl_range rfl _ _ rfl _ rfl ?_) | (with_reducible refine wl_next rfl _ rfl _ rfl ?_) | (with_reducible refine wl_copy rfl _ _ _ _ rfl _ _ rfl rfl ?_) | (with_reducible refine wl_max rfl _ _ _ _ rfl _ _ rfl rfl ?_) | (with_reducible refine wl_min rfl _ _ _ _ rfl _ _ rfl rfl ?_))
      go_roundw
      case rel =>
        have hl := HL.out
        refine ⟨max s.length k + 1, ?_, by omega, trivial⟩
        rw [← pad_succ _ _ (by omega), ← pad_max, HP.out]
        rw [str_app]
      case measure =>
        show i - (ByteArray.size (⟨p.toArray⟩ ++ ⟨#[0]⟩)) < i - (ByteArray.size ⟨p.toArray⟩)
        rw [show (⟨#[0]⟩ : ByteArray) = ⟨([0] : List UInt8).toArray⟩ from rfl, str_app]
        show i - (p ++ [0]).toArray.size < i - p.toArray.size
        simp; omega
    · have hge' : (i : Int) ≤ (p.length : Int) := by omega
      rcases Nat.lt_or_ge (i + b.length) p.length with hlt2 | hge2
      · have hlt3 : (i : Int) + (b.length : Int) < (p.length : Int) := by omega
        have s2 : IntKind.i64.wrap ((i : Int) + (b.length : Int)) = (i : Int) + (b.length : Int) := IntWalk.i64_in _ (by omega)
        go_wp2_with (first | (at_builtin; refine wl_append rfl _ _ _ _ rfl _ _ rfl rfl ?_) | (at_make; refine wl_make rfl _ _ _ rfl _ _ rfl rfl ?_) | (at_mapUpdate; refine wl_mapUpdate rfl _ _ _ _ rfl _ _ _ rfl rfl rfl ?_) | (at_lookup; refine wl_lookup rfl _ _ _ _ rfl _ _ rfl rfl ?_) | (at_delete; refine wl_delete rfl _ _ _ _ rfl _ _ rfl rfl ?_) | (with_reducible refine wl_len rfl _ _ rfl _ rfl ?_) | (with_reducible refine wl_range rfl _ _ rfl _ rfl ?_) | (with_reducible refine wl_next rfl _ rfl _ rfl ?_) | (with_reducible refine wl_copy rfl _ _ _ _ rfl _ _ rfl rfl ?_) | (with_reducible refine wl_max rfl _ _ _ _ rfl _ _ rfl rfl ?_) | (with_reducible refine wl_min rfl _ _ _ _ rfl _ _ rfl rfl ?_))
        go_quiet (fail)
        go_wp2_with (first | (at_builtin; refine wl_append rfl _ _ _ _ rfl _ _ rfl rfl ?_) | (at_make; refine wl_make rfl _ _ _ rfl _ _ rfl rfl ?_) | (at_mapUpdate; refine wl_mapUpdate rfl _ _ _ _ rfl _ _ _ rfl rfl rfl ?_) | (at_lookup; refine wl_lookup rfl _ _ _ _ rfl _ _ rfl rfl ?_) | (at_delete; refine wl_delete rfl _ _ _ _ rfl _ _ rfl rfl ?_) | (with_reducible refine wl_len rfl _ _ rfl _ rfl ?_) | (with_reducible refine wl_range rfl _ _ rfl _ rfl ?_) | (with_reducible refine wl_next rfl _ rfl _ rfl ?_) | (with_reducible refine wl_copy rfl _ _ _ _ rfl _ _ rfl rfl ?_) | (with_reducible refine wl_max rfl _ _ _ _ rfl _ _ rfl rfl ?_) | (with_reducible refine wl_min rfl _ _ _ _ rfl _ _ rfl rfl ?_))
        go_ret
        refine ⟨ret_str ?_, (Keep.refl _ _).drewN _⟩
        rw [str_ext, str_ext, str_app, str_app, laidB_pad, pad_eq HP.out HL.out hk hge]
        simp only [Nat.sub_zero, List.drop_zero]
        rw [List.take_of_length_le (l := p.drop _) (by simp)]
      · go_wp2_with (first | (at_builtin; refine wl_append rfl _ _ _ _ rfl _ _ rfl rfl ?_) | (at_make; refine wl_make rfl _ _ _ rfl _ _ rfl rfl ?_) | (at_mapUpdate; refine wl_mapUpdate rfl _ _ _ _ rfl _ _ _ rfl rfl rfl ?_) | (at_lookup; refine wl_lookup rfl _ _ _ _ rfl _ _ rfl rfl ?_) | (at_delete; refine wl_delete rfl _ _ _ _ rfl _ _ rfl rfl ?_) | (with_reducible refine wl_len rfl _ _ rfl _ rfl ?_) | (with_reducible refine wl_range rfl _ _ rfl _ rfl ?_) | (with_reducible refine wl_next rfl _ rfl _ rfl ?_) | (with_reducible refine wl_copy rfl _ _ _ _ rfl _ _ rfl rfl ?_) | (with_reducible refine wl_max rfl _ _ _ _ rfl _ _ rfl rfl ?_) | (with_reducible refine wl_min rfl _ _ _ _ rfl _ _ rfl rfl ?_))
        go_ret
        refine ⟨ret_str ?_, Keep.refl _ _⟩
        rw [str_ext, str_app, laidB_pad, pad_eq HP.out HL.out hk hge, List.drop_eq_nil_of_le hge2]
        simp
end Go.Proofs.Ytkmoomgmmhmaeaa
namespace Go.Proofs.Ytkmoomgmmhmaeaa
open Go.RowKit Go.Dm Go.Dm.Dk

theorem info_step : (Try.prog.info? 102).map (fun i => (i.zero, i.size, i.bytes)) = some (some .nilFunc, 1, 8) := by kernel_rfl
def encV (v : Value) : List Value := [if v.oneCell' then v else .nilFunc]
theorem encV_one (v : Value) : ∀ u ∈ encV v, u.oneCell' = true := by
  intro u hu
  simp only [encV, List.mem_singleton] at hu
  subst hu
  split
  · assumption
  · rfl
theorem encV_map {vs : List Value} (h : ∀ v ∈ vs, v.oneCell' = true) : vs.flatMap encV = vs := by
  induction vs with
  | nil => rfl
  | cons v r ih =>
    rw [List.flatMap_cons, ih fun u hu => h u (by simp [hu])]
    simp [encV, h v (by simp)]
/-- memory that was given, and boxes made since w0 -/
def FB (B : Nat → Prop) (w0 w : World) : Nat → Prop := fun k => (B k ∧ k < w0.heap.size) ∨ (w0.heap.size ≤ k ∧ k < w.heap.size ∧ ∀ cs fr, w.heap[k]? ≠ some (.cells cs 102 fr))
structure Steps (B : Nat → Prop) (w0 w : World) (d : Nat) (vs : List Value) (l : List Cl) : Prop where
  len : vs.length = l.length
  at_ : ∀ (i : Nat) (v : Value) (s : Cl), vs[i]? = some v → l[i]? = some s → StepAt (FB B w0 w) w d v s
  fn : ∀ v ∈ vs, v.oneCell' = true
section
variable {B : Nat → Prop} {w0 w w' : World} {d : Nat} {vs : List Value} {l : List Cl} {v : Value} {s : Cl}
theorem StepAt.mono {F G : Nat → Prop} (h : StepAt F w d v s) (hFG : ∀ k, k < w.heap.size → F k → G k) : StepAt G w d v s := by
  rcases h with ⟨f, x, y, t, e1, e2, e3, h1, h2, h3, h4⟩ | h | ⟨x, y, t, e1, e3, h1, h2, h3, h4⟩ | ⟨x, y, p, q, t, b, k, vb, e1, e2, e2', e3, h1, h2, h3, h4, h5, h6, h7, h8, h9⟩ | ⟨x, y, t, e1, e3, h1, h2, h3, h4⟩ | ⟨x, y, z, t, u, e1, e3, h1, h2, h3, h4, h5, h6⟩
  · exact .inl ⟨f, x, y, t, e1, e2, e3, hFG _ h3.lt h1, hFG _ h4.lt h2, h3, h4⟩
  · exact .inr (.inl h)
  · exact .inr (.inr (.inl ⟨x, y, t, e1, e3, hFG _ h3.lt h1, hFG _ h4.lt h2, h3, h4⟩))
  · exact .inr (.inr (.inr (.inl ⟨x, y, p, q, t, b, k, vb, e1, e2, e2', e3, hFG _ h5.lt h1, hFG _ h6.lt h2, hFG _ h7.lt h3, hFG _ h8.lt h4, h5, h6, h7, h8, Sl.mono h9 hFG⟩)))
  · exact .inr (.inr (.inr (.inr (.inl ⟨x, y, t, e1, e3, hFG _ h3.lt h1, hFG _ h4.lt h2, h3, h4⟩))))
  · exact .inr (.inr (.inr (.inr (.inr ⟨x, y, z, t, u, e1, e3, hFG _ h4.lt h1, hFG _ h5.lt h2, hFG _ h6.lt h3, h4, h5, h6⟩))))
/-- other memory is turned -/
theorem FB.keep {S : Nat → Prop} (h0 : w0.heap.size ≤ w.heap.size) (hk : Keep S w w') (hS : ∀ k, FB B w0 w k → ¬ S k) {k : Nat} (h : FB B w0 w k) : FB B w0 w' k := by
  have hs := hS k h
  rcases h with h | ⟨h1, h2, h3⟩
  · exact .inl h
  · exact .inr ⟨h1, Nat.lt_of_lt_of_le h2 hk.size, fun cs fr e => h3 cs fr ((hk.block k h2 hs).symm.trans e)⟩
theorem Steps.keep {S : Nat → Prop} (h : Steps B w0 w d vs l) (h0 : w0.heap.size ≤ w.heap.size) (hk : Keep S w w') (hS : ∀ k, FB B w0 w k → ¬ S k) : Steps B w0 w' d vs l where
  len := h.len
  at_ := fun i v s hv hs => ((h.at_ i v s hv hs).keep hk hS).mono fun k _ hf => FB.keep h0 hk hS hf
  fn := h.fn
theorem Steps.nil : Steps B w0 w d [] [] := ⟨rfl, (fun i v s h => by simp at h), (fun v h => by simp at h)⟩
theorem Steps.append {us : List Value} {r : List Cl} (h : Steps B w0 w d vs l) (h' : Steps B w0 w d us r) : Steps B w0 w d (vs ++ us) (l ++ r) where
  len := by rw [List.length_append, List.length_append, h.len, h'.len]
  at_ := fun i v s hv hs => by
    rcases Nat.lt_or_ge i vs.length with hi | hi
    · rw [List.getElem?_append_left hi] at hv
      rw [List.getElem?_append_left (by rw [← h.len]; exact hi)] at hs
      exact h.at_ i v s hv hs
    · rw [List.getElem?_append_right hi] at hv
      rw [List.getElem?_append_right (by rw [← h.len]; exact hi), ← h.len] at hs
      exact h'.at_ _ v s hv hs
  fn := fun v hv => by
    rcases List.mem_append.1 hv with hv | hv
    · exact h.fn v hv
    · exact h'.fn v hv
theorem Steps.one (hv : StepAt (FB B w0 w) w d v s) : Steps B w0 w d [v] [s] where
  len := rfl
  at_ := fun i u t hu ht => by
    cases i with
    | zero => cases hu; cases ht; exact hv
    | succ i => simp at hu
  fn := fun u hu => by
    simp only [List.mem_singleton] at hu
    subst hu
    rcases hv with ⟨f, x, y, t, e1, e2, e3, _⟩ | ⟨_, e3⟩ | ⟨x, y, t, e1, e3, _⟩ | ⟨x, y, p, q, t, b, k, vb, e1, e2, e2', e3, _⟩ | ⟨x, y, t, e1, e3, _⟩ | ⟨x, y, z, t, u, e1, e3, _⟩ <;> rw [e3] <;> rfl
/-- the row of the steps is no box -/
theorem FB.row {base n : Nat} {ov : Value} {xs : List Value} (ho : w.ownsRow base 102 1 ov n xs) (hb : w0.heap.size ≤ base) {k : Nat} (h : FB B w0 w k) : ¬ some k = ov.ownBlock := by
  intro e
  have hlt := ho.lt k e.symm
  rcases h with h | ⟨h1, h2, h3⟩
  · omega
  · rcases ho.2 with ⟨rfl, _⟩ | ⟨g, cap, cur, rfl, _, hg, _⟩
    · cases e
    · cases e
      exact h3 _ _ hg
theorem FB.box {cs : Array Value} {t : TypeId} {x : Nat} (h : Blk w x cs t) (ht : t ≠ 102) (hx : w0.heap.size ≤ x) : FB B w0 w x := .inr ⟨hx, h.lt, fun cs' fr e => by rw [h] at e; cases e; exact ht rfl⟩
/-- steps are put behind steps -/
theorem rg_steps {base : Nat} {us : List Value} {r : List Cl} {ov : Value} {n : Nat} (hr : Steps B w0 w d us r) (h : Steps B w0 w d vs l) (ho : FlO w base 102 1 encV ov vs) (h0 : w0.heap.size ≤ base) (hbase : base ≤ w.heap.size) (hn : us.length = n) (hl : vs.length + n ≤ 1000000) {K : Value → World → Prop}
    (hK : ∀ v' w', FlO w' base 102 1 encV v' (vs ++ us) → Steps B w0 w' d (vs ++ us) (l ++ r) → Keep (fun j => base ≤ j) w w' → (∀ x cs t, Blk w x cs t → t ≠ 102 → Blk w' x cs t) → K v' w') :
    AppendGoal Try.prog 91 91 91 ov (.slice (some ⟨w.heap.size, 0, none⟩) n n) (w.alloc (.cells us.toArray 102)) K := by
  subst hn
  have ha : Keep No w (w.alloc (.cells us.toArray 102)) := (Keep.refl No w).alloc _
  have hs : Fl (fun j => j = w.heap.size) (w.alloc (.cells us.toArray 102)) 1 encV (.slice (some ⟨w.heap.size, 0, none⟩) us.length us.length) us := by
    have := Sl.new w us.toArray 102 (size := 1) (n := us.length) (by simp) (by unfold maxLen; omega)
    unfold Fl
    rw [encV_map hr.fn]
    exact this
  have hw : w0.heap.size ≤ w.heap.size := Nat.le_trans h0 hbase
  refine rg_cat (enc := encV) .nilFunc 8 Try.underlying91 info_step rfl (by decide) hs encV_one (ho.no ha) (by omega) (by decide) (Nat.le_trans hbase ha.size) ?_
  · intro v' w' ho' hk' _
    have ho1 := ho.no ha
    have hk : Keep (fun j => some j = ov.ownBlock) w w' := (ha.mono fun _ _ h => h.elim).trans' hk'
    have hst := (h.append hr).keep hw hk fun k hf => FB.row ho h0 hf
    refine hK v' w' ho' hst (hk.mono fun j _ e => (ho.lt j e.symm).1) fun x cs t hx ht => hx.keep hk (own_ne ho hx ht)
end
end Go.Proofs.Ytkmoomgmmhmaeaa
namespace Go.Proofs.Ytkmoomgmmhmaeaa
open Go.RowKit Go.Dm Go.Dm.Dk

def lenOf : Value → Nat
  | .slice _ l _ => l
  | _ => 0
theorem pieces_iff (n k : Nat) : 64 * k < n ↔ k < pieces n := by unfold pieces; omega
set_option maxRecDepth 100000 in
set_option maxHeartbeats 4000000 in
theorem freplace_any {P B : Nat → Prop} {w : World} {d n N : Nat} {m : M} {vb : Value} (s b : List UInt8) (h : Own P w d m) (hP : ∀ k, w.heap.size ≤ k → P k) (hm : Small m n N) (hn : 3 * n + 4 + pieces b.length ≤ 100000) (hN : N + 64 * (2 * n + 4 + pieces b.length) ≤ 1000000)
    (hs : s.length ≤ 60) (hvb : Bts B w vb b) (hBP : ∀ k, B k → ¬ P k) :
    Calls Try.prog 29 #[ptrTo d, .string ⟨s.toArray⟩, vb] w fun e w' => e = .returned (.int .i64 ((replD m s b).2 : Nat)) ∧ Own P w' d (replD m s b).1 ∧ Keep P w w' := by
  obtain ⟨ab, cb, rfl, _, _⟩ := hvb.shape
  have hbl : b.length ≤ 1000000 := by unfold pieces at hN; omega
  unfold ptrTo
  go_enter Try.func29, Try.ntmps29
  go_wp2_with (first | (at_builtin; refine wl_append rfl _ _ _ _ rfl _ _ rfl rfl ?_) | (at_make; refine wl_make rfl _ _ _ rfl _ _ rfl rfl ?_) | (at_mapUpdate; refine wl_mapUpdate rfl _ _ _ _ rfl _ _ _ rfl rfl rfl ?_) | (at_lookup; refine wl_lookup rfl _ _ _ _ rfl _ _ rfl rfl ?_) | (at_delete; refine wl_delete rfl _ _ _ _ rfl _ _ rfl rfl ?_) | (with_reducible refine wl_len rfl _ _ rfl _ rfl ?_) | (with_reducible refine wl_range rfl _ _ rfl _ rfl ?_) | (with_reducible refine wl_next rfl _ rfl _ rfl ?_) | (with_reducible refine wl_copy rfl _ _ _ _ rfl _ _ rfl rfl ?_) | (with_reducible refine wl_max rfl _ _ _ _ rfl _ _ rfl rfl ?_) | (with_reducible refine wl_min rfl _ _ _ _ rfl _ _ rfl rfl ?_))
  have hkW1 : Keep No w (w.alloc (.cells #[.pointer (some ⟨d, 0, none⟩)] 23)) := (Keep.refl _ _).alloc _
  have hBW1 : Blk (w.alloc (.cells #[.pointer (some ⟨d, 0, none⟩)] 23)) w.heap.size #[.pointer (some ⟨d, 0, none⟩)] 23 := Blk.new _ _ _
  have hzW1 : (w.alloc (.cells #[.pointer (some ⟨d, 0, none⟩)] 23)).heap.size = w.heap.size + 1 := World.size_alloc _ _
  generalize w.alloc (.cells #[.pointer (some ⟨d, 0, none⟩)] 23) = W1 at *
  have hkW2 : Keep No W1 (W1.alloc (.cells #[.string ⟨s.toArray⟩] 9)) := (Keep.refl _ _).alloc _
  have hBW2 : Blk (W1.alloc (.cells #[.string ⟨s.toArray⟩] 9)) W1.heap.size #[.string ⟨s.toArray⟩] 9 := Blk.new _ _ _
  have hzW2 : (W1.alloc (.cells #[.string ⟨s.toArray⟩] 9)).heap.size = W1.heap.size + 1 := World.size_alloc _ _
  generalize W1.alloc (.cells #[.string ⟨s.toArray⟩] 9) = W2 at *
  have hkW : Keep No W2 (W2.alloc (.cells #[.slice ab b.length cb] 29)) := (Keep.refl _ _).alloc _
  have hBW : Blk (W2.alloc (.cells #[.slice ab b.length cb] 29)) W2.heap.size #[.slice ab b.length cb] 29 := Blk.new _ _ _
  have hzW : (W2.alloc (.cells #[.slice ab b.length cb] 29)).heap.size = W2.heap.size + 1 := World.size_alloc _ _
  generalize W2.alloc (.cells #[.slice ab b.length cb] 29) = W at *
  rw [hzW1] at hBW2
  rw [hzW2, hzW1] at hBW
  replace hBW1 := (hBW1.keep hkW2 fun h => h).keep hkW fun h => h
  replace hBW2 := hBW2.keep hkW fun h => h
  replace hkW := (hkW1.trans' hkW2).trans' hkW
  replace hzW : W.heap.size = w.heap.size + 3 := by omega
  clear hkW1 hkW2 hzW1 hzW2
  clear W1 W2
  refine (fmay_any d s _).mono ?_
  rintro e x ⟨rfl, rfl⟩
  cases hmay : mayF s with
  | false =>
    have e1 : replD m s b = (m, 1) := by simp [replD, hmay]
    have E1 := Lib.hid e1
    clear e1
    go_wp2_with (first | (at_builtin; refine wl_append rfl _ _ _ _ rfl _ _ rfl rfl ?_) | (at_make; refine wl_make rfl _ _ _ rfl _ _ rfl rfl ?_) | (at_mapUpdate; refine wl_mapUpdate rfl _ _ _ _ rfl _ _ _ rfl rfl rfl ?_) | (at_lookup; refine wl_lookup rfl _ _ _ _ rfl _ _ rfl rfl ?_) | (at_delete; refine wl_delete rfl _ _ _ _ rfl _ _ rfl rfl ?_) | (with_reducible refine wl_len rfl _ _ rfl _ rfl ?_) | (with_reducible refine wl_range rfl _ _ rfl _ rfl ?_) | (with_reducible refine wl_next rfl _ rfl _ rfl ?_) | (with_reducible refine wl_copy rfl _ _ _ _ rfl _ _ rfl rfl ?_) | (with_reducible refine wl_max rfl _ _ _ _ rfl _ _ rfl rfl ?_) | (with_reducible refine wl_min rfl _ _ _ _ rfl _ _ rfl rfl ?_))
    go_ret
    rw [E1.out]
    exact ⟨rfl, h.keep hkW fun _ _ h => h, hkW.mono fun _ _ h => h.elim⟩
  | true =>
    have e1 : replD m s b = runS m (stepsS (namesOf m) s b) := by simp [replD, hmay]
    have E1 := Lib.hid e1
    clear e1 hmay
    have c1 := hBW1.cell
    have c2 := hBW2.cell
    have c3 := hBW.cell
    go_wp2_with (first | (at_builtin; refine wl_append rfl _ _ _ _ rfl _ _ rfl rfl ?_) | (at_make; refine wl_make rfl _ _ _ rfl _ _ rfl rfl ?_) | (at_mapUpdate; refine wl_mapUpdate rfl _ _ _ _ rfl _ _ _ rfl rfl rfl ?_) | (at_lookup; refine wl_lookup rfl _ _ _ _ rfl _ _ rfl rfl ?_) | (at_delete; refine wl_delete rfl _ _ _ _ rfl _ _ rfl rfl ?_) | (with_reducible refine wl_len rfl _ _ rfl _ rfl ?_) | (with_reducible refine wl_range rfl _ _ rfl _ rfl ?_) | (with_reducible refine wl_next rfl _ rfl _ rfl ?_) | (with_reducible refine wl_copy rfl _ _ _ _ rfl _ _ rfl rfl ?_) | (with_reducible refine wl_max rfl _ _ _ _ rfl _ _ rfl rfl ?_) | (with_reducible refine wl_min rfl _ _ _ _ rfl _ _ rfl rfl ?_))
    have et : (⟨#[110, 101, 119, 46]⟩ ++ ⟨s.toArray⟩ : ByteArray) = ⟨(newS ++ s).toArray⟩ := str_app newS s
    rw [et]
    have htl : (newS ++ s).length ≤ 64 := by rw [List.length_append]; simp [newS]; omega
    have E2 : Hid (replD m s b = runS m ((((namesOf m).filter fun n => n == newS ++ s).flatMap fun _ => goneS (newS ++ s)) ++ [⟨1, newS ++ s, [], 0, []⟩] ++ writesS (newS ++ s) b ++ endS (newS ++ s) s)) := E1
    clear E1 et c1 c2 c3
    generalize newS ++ s = t at *
    have hkX : Keep No W (W.alloc (.cells #[.string ⟨t.toArray⟩] 9)) := (Keep.refl _ _).alloc _
    have hBX : Blk (W.alloc (.cells #[.string ⟨t.toArray⟩] 9)) W.heap.size #[.string ⟨t.toArray⟩] 9 := Blk.new _ _ _
    have hzX : (W.alloc (.cells #[.string ⟨t.toArray⟩] 9)).heap.size = W.heap.size + 1 := World.size_alloc _ _
    generalize W.alloc (.cells #[.string ⟨t.toArray⟩] 9) = X at *
    have hW3 : w.heap.size + 3 ≤ W.heap.size := by omega
    replace hBW1 := hBW1.keep hkX fun h => h
    replace hBW2 := hBW2.keep hkX fun h => h
    replace hBW := hBW.keep hkX fun h => h
    replace hkW := hkW.trans' hkX
    rw [hzW] at hBX
    have hNn : (namesOf m).length ≤ n := by
      have h1 : (namesOf m).Perm (m.L.map (·.1)) := List.mergeSort_perm _ _
      rw [h1.length_eq, List.length_map]; exact hm.L
    refine (names_own (h.keep hkW fun _ _ h => h) hm (by omega)).mono ?_
    rintro e wN ⟨vn, rfl, hvn, kN⟩
    replace hBW1 := hBW1.keep kN fun h => h
    replace hBW2 := hBW2.keep kN fun h => h
    replace hBW := hBW.keep kN fun h => h
    replace hBX := hBX.keep kN fun h => h
    replace hkW := hkW.trans' kN
    have hbase := hkW.size
    have hvn2 : Sl (fun j => j < wN.heap.size) wN 1 vn (namesOf m).length ((namesOf m).map encStr) := Sl.mono (Sl.of_own hvn) fun j hj _ => hj
    obtain ⟨an, cn, rfl, _, _⟩ := hvn2.shape
    have hbw : Sl (fun j => B j ∧ j < w.heap.size) wN 1 (.slice ab b.length cb) b.length (b.map bv) := Sl.keep (Sl.mono (B := fun j => B j ∧ j < w.heap.size) hvb fun j hj hb => ⟨hb, hj⟩) hkW fun _ _ _ h => h
    clear kN hvn hkX hzX hzW
    go_wp2_with (first | (at_builtin; refine wl_append rfl _ _ _ _ rfl _ _ rfl rfl ?_) | (at_make; refine wl_make rfl _ _ _ rfl _ _ rfl rfl ?_) | (at_mapUpdate; refine wl_mapUpdate rfl _ _ _ _ rfl _ _ _ rfl rfl rfl ?_) | (at_lookup; refine wl_lookup rfl _ _ _ _ rfl _ _ rfl rfl ?_) | (at_delete; refine wl_delete rfl _ _ _ _ rfl _ _ rfl rfl ?_) | (with_reducible refine wl_len rfl _ _ rfl _ rfl ?_) | (with_reducible refine wl_range rfl _ _ rfl _ rfl ?_) | (with_reducible refine wl_next rfl _ rfl _ rfl ?_) | (with_reducible refine wl_copy rfl _ _ _ _ rfl _ _ rfl rfl ?_) | (with_reducible refine wl_max rfl _ _ _ _ rfl _ _ rfl rfl ?_) | (with_reducible refine wl_min rfl _ _ _ _ rfl _ _ rfl rfl ?_))
    go_loopw [8, 21] (fun ov iv wr => ∃ (k : Nat) (vs : List Value), iv = .int .i64 k ∧ k ≤ (namesOf m).length ∧ FlO wr wN.heap.size 102 1 encV ov vs ∧ Steps B w wr d vs (((namesOf m).take k).filter (fun n => n == t) |>.flatMap fun _ => goneS t) ∧ vs.length ≤ 2 * k ∧ Keep (fun j => wN.heap.size ≤ j) wN wr) (fun _ iv _ => (namesOf m).length - (intOf iv).toNat)
    case atStart => exact ⟨0, [], rfl, Nat.zero_le _, FlO.nil, Steps.nil, Nat.le_refl _, Keep.refl _ _⟩
    case round =>
      obtain ⟨k, vs, rfl, hk, ho, hst, hvl, hK⟩ := hrel
      have hB1 := hBW1.keep hK fun h => absurd h (Nat.not_le.2 hBW1.lt)
      have hB2 := hBW2.keep hK fun h => absurd h (Nat.not_le.2 hBW2.lt)
      have hB3 := hBW.keep hK fun h => absurd h (Nat.not_le.2 hBW.lt)
      have hB7 := hBX.keep hK fun h => absurd h (Nat.not_le.2 hBX.lt)
      have c1 := hB1.cell
      have c7 := hB7.cell
      obtain ⟨ao, co, rfl, _, _⟩ := ho.fl.shape
      rcases Nat.lt_or_ge k (namesOf m).length with hkl | hkl
      · obtain ⟨g, off, cap, e, hg, hgl, _, _, hcell⟩ := hvn2.at (Nat.lt_of_le_of_lt (Nat.zero_le k) hkl)
        cases e
        have q := (hK.cell (p := ⟨g, off + k, none⟩) hgl (fun h => absurd h (Nat.not_le.2 hgl))).trans (hcell k (encStr (namesOf m)[k]) (by rw [List.getElem?_map, List.getElem?_eq_getElem hkl]; rfl))
        have hfl : ((namesOf m).take (k + 1)).filter (fun n => n == t) = ((namesOf m).take k).filter (fun n => n == t) ++ if (namesOf m)[k] = t then [(namesOf m)[k]] else [] := by
          rw [List.take_succ_eq_append_getElem hkl, List.filter_append]
          congr 1
          by_cases e : (namesOf m)[k] = t
          · simp [e]
          · simp [e]
        unfold encStr at q
        have hkl' : (k : Int) < ((namesOf m).length : Int) := by omega
        have HF := Lib.hid hfl
        clear hcell hfl
        by_cases he : (namesOf m)[k] = t
        · rw [he] at q
          go_wp2_with (first | (at_builtin; refine wl_append rfl _ _ _ _ rfl _ _ rfl rfl ?_) | (at_make; refine wl_make rfl _ _ _ rfl _ _ rfl rfl ?_) | (at_mapUpdate; refine wl_mapUpdate rfl _ _ _ _ rfl _ _ _ rfl rfl rfl ?_) | (at_lookup; refine wl_lookup rfl _ _ _ _ rfl _ _ rfl rfl ?_) | (at_delete; refine wl_delete rfl _ _ _ _ rfl _ _ rfl rfl ?_) | (with_reducible refine wl_len rfl _ _ rfl _ rfl ?_) | (with_reducible refine wl_range rfl _ _ rfl _ rfl ?_) | (with_reducible refine wl_next rfl _ rfl _ rfl ?_) | (with_reducible refine wl_copy rfl _ _ _ _ rfl _ _ rfl rfl ?_) | (with_reducible refine wl_max rfl _ _ _ _ rfl _ _ rfl rfl ?_) | (with_reducible refine wl_min rfl _ _ _ _ rfl _ _ rfl rfl ?_))
          have hg : Steps B w wr d [.func (.func 67) #[] #[ptrTo w.heap.size, ptrTo (w.heap.size + 3)], .func (.func 16) #[ptrTo d] #[]] (goneS t) :=
            (Steps.one (s := ⟨5, t, [], 0, []⟩) (.inl ⟨_, _, _, t, rfl, .inl rfl, rfl, FB.box hB1 (by decide) (Nat.le_refl _), FB.box hB7 (by decide) (by omega), hB1, hB7⟩)).append (Steps.one (s := ⟨6, [], [], 0, []⟩) (.inr (.inl ⟨rfl, rfl⟩)))
          refine rg_steps (n := 2) hg hst ho hbase hK.size rfl (by omega) ?_
          intro v' w2 ho2 hst2 hk2 _
          have hK2 := hK.trans' hk2
          clear hK hk2 ho hst hg hB1 hB2 hB3 hB7 c1 c7
          obtain ⟨ao2, co2, rfl, _, _⟩ := ho2.fl.shape
          go_wp2_with (first | (at_builtin; refine wl_append rfl _ _ _ _ rfl _ _ rfl rfl ?_) | (at_make; refine wl_make rfl _ _ _ rfl _ _ rfl rfl ?_) | (at_mapUpdate; refine wl_mapUpdate rfl _ _ _ _ rfl _ _ _ rfl rfl rfl ?_) | (at_lookup; refine wl_lookup rfl _ _ _ _ rfl _ _ rfl rfl ?_) | (at_delete; refine wl_delete rfl _ _ _ _ rfl _ _ rfl rfl ?_) | (with_reducible refine wl_len rfl _ _ rfl _ rfl ?_) | (with_reducible refine wl_range rfl _ _ rfl _ rfl ?_) | (with_reducible refine wl_next rfl _ rfl _ rfl ?_) | (with_reducible refine wl_copy rfl _ _ _ _ rfl _ _ rfl rfl ?_) | (with_reducible refine wl_max rfl _ _ _ _ rfl _ _ rfl rfl ?_) | (with_reducible refine wl_min rfl _ _ _ _ rfl _ _ rfl rfl ?_))
          go_roundw
          case rel => exact ⟨k + 1, _, by go_num, hkl, ho2, by rw [HF.out, if_pos he, List.flatMap_append, List.flatMap_singleton]; exact hst2, by simp only [List.length_append, List.length_cons, List.length_nil]; omega, hK2⟩
          case measure => simp [intOf]; omega
        · have he' : ((namesOf m)[k] == t) = false := by simpa using he
          generalize hnk : (namesOf m)[k] = nk at *
          go_wp2_with (first | (at_builtin; refine wl_append rfl _ _ _ _ rfl _ _ rfl rfl ?_) | (at_make; refine wl_make rfl _ _ _ rfl _ _ rfl rfl ?_) | (at_mapUpdate; refine wl_mapUpdate rfl _ _ _ _ rfl _ _ _ rfl rfl rfl ?_) | (at_lookup; refine wl_lookup rfl _ _ _ _ rfl _ _ rfl rfl ?_) | (at_delete; refine wl_delete rfl _ _ _ _ rfl _ _ rfl rfl ?_) | (with_reducible refine wl_len rfl _ _ rfl _ rfl ?_) | (with_reducible refine wl_range rfl _ _ rfl _ rfl ?_) | (with_reducible refine wl_next rfl _ rfl _ rfl ?_) | (with_reducible refine wl_copy rfl _ _ _ _ rfl _ _ rfl rfl ?_) | (with_reducible refine wl_max rfl _ _ _ _ rfl _ _ rfl rfl ?_) | (with_reducible refine wl_min rfl _ _ _ _ rfl _ _ rfl rfl ?_))
          go_roundw
          case rel => exact ⟨k + 1, vs, by go_num, hkl, ho, by rw [HF.out, if_neg he, List.append_nil]; exact hst, by omega, hK⟩
          case measure => simp [intOf]; omega
      · obtain rfl : k = (namesOf m).length := Nat.le_antisymm hk hkl
        rw [List.take_length] at hst
        generalize hl0 : (((namesOf m).filter fun n => n == t).flatMap fun _ => goneS t) = l1 at *
        go_wp2_with (first | (at_builtin; refine wl_append rfl _ _ _ _ rfl _ _ rfl rfl ?_) | (at_make; refine wl_make rfl _ _ _ rfl _ _ rfl rfl ?_) | (at_mapUpdate; refine wl_mapUpdate rfl _ _ _ _ rfl _ _ _ rfl rfl rfl ?_) | (at_lookup; refine wl_lookup rfl _ _ _ _ rfl _ _ rfl rfl ?_) | (at_delete; refine wl_delete rfl _ _ _ _ rfl _ _ rfl rfl ?_) | (with_reducible refine wl_len rfl _ _ rfl _ rfl ?_) | (with_reducible refine wl_range rfl _ _ rfl _ rfl ?_) | (with_reducible refine wl_next rfl _ rfl _ rfl ?_) | (with_reducible refine wl_copy rfl _ _ _ _ rfl _ _ rfl rfl ?_) | (with_reducible refine wl_max rfl _ _ _ _ rfl _ _ rfl rfl ?_) | (with_reducible refine wl_min rfl _ _ _ _ rfl _ _ rfl rfl ?_))
        refine rg_steps (n := 1) (Steps.one (s := ⟨1, t, [], 0, []⟩) (.inr (.inr (.inl ⟨_, _, t, rfl, rfl, FB.box hB1 (by decide) (Nat.le_refl _), FB.box hB7 (by decide) (by omega), hB1, hB7⟩)))) hst ho hbase hK.size rfl (by omega) ?_
        intro v' w2 ho2 hst2 hk2 _
        have hK2 := hK.trans' hk2
        obtain ⟨ao2, co2, rfl, _, _⟩ := ho2.fl.shape
        clear hK hk2 ho hst hB1 hB2 hB3 hB7 c1 c7
        go_wp2_with (first | (at_builtin; refine wl_append rfl _ _ _ _ rfl _ _ rfl rfl ?_) | (at_make; refine wl_make rfl _ _ _ rfl _ _ rfl rfl ?_) | (at_mapUpdate; refine wl_mapUpdate rfl _ _ _ _ rfl _ _ _ rfl rfl rfl ?_) | (at_lookup; refine wl_lookup rfl _ _ _ _ rfl _ _ rfl rfl ?_) | (at_delete; refine wl_delete rfl _ _ _ _ rfl _ _ rfl rfl ?_) | (with_reducible refine wl_len rfl _ _ rfl _ rfl ?_) | (with_reducible refine wl_range rfl _ _ rfl _ rfl ?_) | (with_reducible refine wl_next rfl _ rfl _ rfl ?_) | (with_reducible refine wl_copy rfl _ _ _ _ rfl _ _ rfl rfl ?_) | (with_reducible refine wl_max rfl _ _ _ _ rfl _ _ rfl rfl ?_) | (with_reducible refine wl_min rfl _ _ _ _ rfl _ _ rfl rfl ?_))
        have hkw3 : Keep No w2 (w2.alloc (.cells #[.int .i64 0] 3)) := (Keep.refl _ _).alloc _
        have hBw3 : Blk (w2.alloc (.cells #[.int .i64 0] 3)) w2.heap.size #[.int .i64 0] 3 := Blk.new _ _ _
        have hzw3 : (w2.alloc (.cells #[.int .i64 0] 3)).heap.size = w2.heap.size + 1 := World.size_alloc _ _
        generalize w2.alloc (.cells #[.int .i64 0] 3) = w3 at *
        have h23 : wN.heap.size ≤ w2.heap.size := hK2.size
        replace hK2 : Keep (fun j => wN.heap.size ≤ j) wN w3 := hK2.trans' (hkw3.mono fun _ _ h => h.elim)
        replace hst2 := hst2.keep (Nat.le_trans hbase h23) hkw3 fun _ _ h => h
        replace ho2 := FlO.no ho2 hkw3
        have hvn0 : vs.length + 1 = (vs ++ [Value.func (Fn.func 68) #[] #[ptrTo w.heap.size, ptrTo (w.heap.size + 3)]]).length := by simp
        have hvb : vs.length + 1 ≤ 2 * n + 1 := by omega
        generalize vs ++ [Value.func (Fn.func 68) #[] #[ptrTo w.heap.size, ptrTo (w.heap.size + 3)]] = us at *
        have HV := Lib.hid hvn0
        have hml : us.length ≤ 2 * n + 1 := by omega
        clear hvn0 hvb hkw3 hzw3
        clear hvl
        go_loopw [8, 11] (fun ov av wr => ∃ (k : Nat) (vs : List Value) (a : Nat), av = .pointer (some ⟨a, 0, none⟩) ∧ w.heap.size ≤ a ∧ Blk wr a #[.int .i64 ((64 * k : Nat) : Int)] 3 ∧ k ≤ pieces b.length ∧ FlO wr wN.heap.size 102 1 encV ov vs ∧ Steps B w wr d vs (l1 ++ [⟨1, t, [], 0, []⟩] ++ (List.range k).map (writeS t b)) ∧ vs.length = us.length + k ∧ Keep (fun j => wN.heap.size ≤ j) wN wr) (fun ov _ _ => us.length + pieces b.length - lenOf ov)
        case atStart => exact ⟨0, us, _, rfl, by omega, hBw3, Nat.zero_le _, ho2, by simpa using hst2, rfl, hK2⟩
        case round =>
          clear hst2 ho2 hK2 hBw3
          obtain ⟨k, vs, a, rfl, ha, hBa, hk, ho, hst, hvl, hK⟩ := hrel
          have hB1 := hBW1.keep hK fun h => absurd h (Nat.not_le.2 hBW1.lt)
          have hB2 := hBW2.keep hK fun h => absurd h (Nat.not_le.2 hBW2.lt)
          have hB3 := hBW.keep hK fun h => absurd h (Nat.not_le.2 hBW.lt)
          have hB7 := hBX.keep hK fun h => absurd h (Nat.not_le.2 hBX.lt)
          have c1 := hB1.cell
          have c2 := hB2.cell
          have c3 := hB3.cell
          have c7 := hB7.cell
          have ca := hBa.cell
          obtain ⟨ao, co, rfl, _, _⟩ := ho.fl.shape
          have hpi := pieces_iff b.length k
          rcases Nat.lt_or_ge (64 * k) b.length with hkl | hkl
          · generalize h64 : 64 * k = at_ at *
            have hkl' : (at_ : Int) < (b.length : Int) := by omega
            go_wp2_with (first | (at_builtin; refine wl_append rfl _ _ _ _ rfl _ _ rfl rfl ?_) | (at_make; refine wl_make rfl _ _ _ rfl _ _ rfl rfl ?_) | (at_mapUpdate; refine wl_mapUpdate rfl _ _ _ _ rfl _ _ _ rfl rfl rfl ?_) | (at_lookup; refine wl_lookup rfl _ _ _ _ rfl _ _ rfl rfl ?_) | (at_delete; refine wl_delete rfl _ _ _ _ rfl _ _ rfl rfl ?_) | (with_reducible refine wl_len rfl _ _ rfl _ rfl ?_) | (with_reducible refine wl_range rfl _ _ rfl _ rfl ?_) | (with_reducible refine wl_next rfl _ rfl _ rfl ?_) | (with_reducible refine wl_copy rfl _ _ _ _ rfl _ _ rfl rfl ?_) | (with_reducible refine wl_max rfl _ _ _ _ rfl _ _ rfl rfl ?_) | (with_reducible refine wl_min rfl _ _ _ _ rfl _ _ rfl rfl ?_))
            have hbF : Bts (FB B w wr) wr (.slice ab b.length cb) b := Sl.mono (Sl.keep hbw hK fun j hj hb h => by have h : wN.heap.size ≤ j := h; omega) fun j _ hb => .inl hb
            rw [hvl] at ho
            refine rg_steps (n := 1) (Steps.one (s := writeS t b k) (.inr (.inr (.inr (.inl ⟨_, _, a, _, t, b, k, _, rfl, by rw [h64]; exact hkl, hbl, rfl, FB.box hB1 (by decide) (Nat.le_refl _), FB.box hB7 (by decide) (by omega), FB.box hBa (by decide) ha, FB.box hB3 (by decide) (by omega), hB1, hB7, by rw [h64]; exact hBa, hB3, hbF⟩))))) hst ho hbase hK.size rfl (by omega) ?_
            intro v' w4 ho4 hst4 hk4 hb4
            have hK4 := hK.trans' hk4
            have hBa4 := hb4 a _ _ hBa (by decide)
            have ca4 := hBa4.cell
            obtain ⟨ao4, co4, rfl, _, _⟩ := ho4.fl.shape
            clear hK hk4 ho hst hB1 hB2 hB3 hB7 c1 c2 c3 c7 ca hb4
            go_wp2_with (first | (at_builtin; refine wl_append rfl _ _ _ _ rfl _ _ rfl rfl ?_) | (at_make; refine wl_make rfl _ _ _ rfl _ _ rfl rfl ?_) | (at_mapUpdate; refine wl_mapUpdate rfl _ _ _ _ rfl _ _ _ rfl rfl rfl ?_) | (at_lookup; refine wl_lookup rfl _ _ _ _ rfl _ _ rfl rfl ?_) | (at_delete; refine wl_delete rfl _ _ _ _ rfl _ _ rfl rfl ?_) | (with_reducible refine wl_len rfl _ _ rfl _ rfl ?_) | (with_reducible refine wl_range rfl _ _ rfl _ rfl ?_) | (with_reducible refine wl_next rfl _ rfl _ rfl ?_) | (with_reducible refine wl_copy rfl _ _ _ _ rfl _ _ rfl rfl ?_) | (with_reducible refine wl_max rfl _ _ _ _ rfl _ _ rfl rfl ?_) | (with_reducible refine wl_min rfl _ _ _ _ rfl _ _ rfl rfl ?_))
            have hka : Keep No w4 (w4.alloc (.cells #[.int .i64 ((at_ : Int) + 64)] 3)) := (Keep.refl _ _).alloc _
            have hBn : Blk (w4.alloc (.cells #[.int .i64 ((at_ : Int) + 64)] 3)) w4.heap.size #[.int .i64 ((at_ : Int) + 64)] 3 := Blk.new _ _ _
            have hwl : w.heap.size ≤ w4.heap.size := Nat.le_trans hbase hK4.size
            go_roundw
            case rel =>
              refine ⟨k + 1, _, w4.heap.size, rfl, hwl, ?_, hpi.1 hkl, FlO.no ho4 hka, ?_, by rw [List.length_append]; simp; omega, hK4.trans' (hka.mono fun _ _ h => h.elim)⟩
              · rw [show ((64 * (k + 1) : Nat) : Int) = (at_ : Int) + 64 by omega]
                exact hBn
              · rw [List.range_succ, List.map_append, ← List.append_assoc]
                exact hst4.keep hwl hka fun _ _ h => h
            case measure =>
              have hlt := hpi.1 hkl
              simp only [lenOf, List.length_append, List.length_singleton, hvl]
              omega
          · have hkp : k = pieces b.length := Nat.le_antisymm hk (by unfold pieces; omega)
            subst hkp
            rw [hvl] at ho
            have hkl' : (b.length : Int) ≤ ((64 * pieces b.length : Nat) : Int) := by omega
            generalize 64 * pieces b.length = at_ at *
            have hwst : (List.range (pieces b.length)).map (writeS t b) = writesS t b := rfl
            rw [hwst] at hst
            go_wp2_with (first | (at_builtin; refine wl_append rfl _ _ _ _ rfl _ _ rfl rfl ?_) | (at_make; refine wl_make rfl _ _ _ rfl _ _ rfl rfl ?_) | (at_mapUpdate; refine wl_mapUpdate rfl _ _ _ _ rfl _ _ _ rfl rfl rfl ?_) | (at_lookup; refine wl_lookup rfl _ _ _ _ rfl _ _ rfl rfl ?_) | (at_delete; refine wl_delete rfl _ _ _ _ rfl _ _ rfl rfl ?_) | (with_reducible refine wl_len rfl _ _ rfl _ rfl ?_) | (with_reducible refine wl_range rfl _ _ rfl _ rfl ?_) | (with_reducible refine wl_next rfl _ rfl _ rfl ?_) | (with_reducible refine wl_copy rfl _ _ _ _ rfl _ _ rfl rfl ?_) | (with_reducible refine wl_max rfl _ _ _ _ rfl _ _ rfl rfl ?_) | (with_reducible refine wl_min rfl _ _ _ _ rfl _ _ rfl rfl ?_))
            have hS3 : Steps B w wr d [.func (.func 70) #[] #[ptrTo w.heap.size, ptrTo (w.heap.size + 3)], .func (.func 71) #[] #[ptrTo w.heap.size, ptrTo (w.heap.size + 3), ptrTo (w.heap.size + 1)], .func (.func 16) #[ptrTo d] #[]] (endS t s) :=
              ((Steps.one (s := ⟨3, t, [], 0, []⟩) (.inr (.inr (.inr (.inr (.inl ⟨_, _, t, rfl, rfl, FB.box hB1 (by decide) (Nat.le_refl _), FB.box hB7 (by decide) (by omega), hB1, hB7⟩)))))).append
                (Steps.one (s := ⟨4, t, s, 0, []⟩) (.inr (.inr (.inr (.inr (.inr ⟨_, _, _, t, s, rfl, rfl, FB.box hB1 (by decide) (Nat.le_refl _), FB.box hB7 (by decide) (by omega), FB.box hB2 (by decide) (by omega), hB1, hB7, hB2⟩))))))).append
                (Steps.one (s := ⟨6, [], [], 0, []⟩) (.inr (.inl ⟨rfl, rfl⟩)))
            refine rg_steps (n := 3) hS3 hst ho hbase hK.size rfl (by omega) ?_
            intro v' w4 ho4 hst4 hk4 _
            have hK4 := hK.trans' hk4
            clear hK hk4 ho hst hS3 hB1 hB2 hB3 hB7 c1 c2 c3 c7 ca hBa
            have hlv : (vs ++ [Value.func (.func 70) #[] #[ptrTo w.heap.size, ptrTo (w.heap.size + 3)], .func (.func 71) #[] #[ptrTo w.heap.size, ptrTo (w.heap.size + 3), ptrTo (w.heap.size + 1)], .func (.func 16) #[ptrTo d] #[]]).length = us.length + pieces b.length + 3 := by
              rw [List.length_append, hvl]; rfl
            have hlE := hst4.len
            generalize vs ++ [Value.func (.func 70) #[] #[ptrTo w.heap.size, ptrTo (w.heap.size + 3)], .func (.func 71) #[] #[ptrTo w.heap.size, ptrTo (w.heap.size + 3), ptrTo (w.heap.size + 1)], .func (.func 16) #[ptrTo d] #[]] = zs at *
            have hok : ∀ c ∈ l1 ++ [⟨1, t, [], 0, []⟩] ++ writesS t b ++ endS t s, ClOk c := by
              intro c hc
              simp only [List.mem_append, List.mem_singleton] at hc
              rcases hc with ((hc | hc) | hc) | hc
              · rw [← hl0] at hc
                simp only [List.mem_flatMap, goneS, List.mem_cons, List.not_mem_nil, or_false] at hc
                obtain ⟨_, _, hc | hc⟩ := hc <;> subst hc
                · exact ⟨htl, by simp, by simp⟩
                · exact ⟨by simp, by simp, by simp⟩
              · subst hc; exact ⟨htl, by simp, by simp⟩
              · obtain ⟨k, _, rfl⟩ := List.mem_map.1 hc
                exact ⟨htl, by simp [writeS], by simp only [writeS, List.length_take]; omega⟩
              · simp only [endS, List.mem_cons, List.not_mem_nil, or_false] at hc
                rcases hc with hc | hc | hc <;> subst hc
                · exact ⟨htl, by simp, by simp⟩
                · exact ⟨htl, by simp only; omega, by simp⟩
                · exact ⟨by simp, by simp, by simp⟩
            generalize l1 ++ [⟨1, t, [], 0, []⟩] ++ writesS t b ++ endS t s = L at *
            have hw4 : w.heap.size ≤ w4.heap.size := Nat.le_trans hbase hK4.size
            have hKw : Keep No w w4 := hkW.trans hK4 fun j hj hb => absurd (Nat.le_trans hbase hb) (Nat.not_le.2 hj)
            have hsl : Sl (fun j => w.heap.size ≤ j ∧ j < w4.heap.size) w4 1 v' L.length zs := by
              have h1 := Sl.of_own ho4
              rw [encV_map hst4.fn, hlE] at h1
              exact Sl.mono h1 fun j hj ha => ⟨Nat.le_trans hbase ha.1, hj⟩
            have hst5 : ∀ (i : Nat) (v : Value) (c : Cl), zs[i]? = some v → L[i]? = some c → StepAt (fun j => (B j ∧ j < w.heap.size) ∨ (w.heap.size ≤ j ∧ j < w4.heap.size)) w4 d v c := fun i v c hv hc => (hst4.at_ i v c hv hc).mono fun j _ hf => by
              rcases hf with hf | hf
              · exact .inl hf
              · exact .inr ⟨hf.1, hf.2.1⟩
            have hO4 : Own (fun j => (P j ∧ j < w.heap.size) ∨ w4.heap.size ≤ j) w4 d m := by
              have h1 : DR (fun k => P k ∧ k < w.heap.size) w d m := h
              exact (DR.keep h1 (fun k hk => hk.2) hKw fun _ _ h => h).mono fun k hk ha => ⟨.inl ha, hk⟩
            have hlL : L.length ≤ 2 * n + 4 + pieces b.length := by omega
            obtain ⟨az, cz, rfl, _, _⟩ := hsl.shape
            go_wp2_with (first | (at_builtin; refine wl_append rfl _ _ _ _ rfl _ _ rfl rfl ?_) | (at_make; refine wl_make rfl _ _ _ rfl _ _ rfl rfl ?_) | (at_mapUpdate; refine wl_mapUpdate rfl _ _ _ _ rfl _ _ _ rfl rfl rfl ?_) | (at_lookup; refine wl_lookup rfl _ _ _ _ rfl _ _ rfl rfl ?_) | (at_delete; refine wl_delete rfl _ _ _ _ rfl _ _ rfl rfl ?_) | (with_reducible refine wl_len rfl _ _ rfl _ rfl ?_) | (with_reducible refine wl_range rfl _ _ rfl _ rfl ?_) | (with_reducible refine wl_next rfl _ rfl _ rfl ?_) | (with_reducible refine wl_copy rfl _ _ _ _ rfl _ _ rfl rfl ?_) | (with_reducible refine wl_max rfl _ _ _ _ rfl _ _ rfl rfl ?_) | (with_reducible refine wl_min rfl _ _ _ _ rfl _ _ rfl rfl ?_))
            refine (all_any (P := fun j => (P j ∧ j < w.heap.size) ∨ w4.heap.size ≤ j) (Sl.mono hsl fun j _ ha => .inr ha) hst5 hO4 (fun k hk => .inr hk) hm (by omega) (by omega) (fun k hf hp => by
              rcases hf with hf | hf
              · rcases hp with hp | hp
                · exact hBP k hf.1 hp.1
                · omega
              · rcases hp with hp | hp
                · omega
                · omega) hok).mono ?_
            rintro e w5 ⟨rfl, hO5, hK5⟩
            go_wp2_with (first | (at_builtin; refine wl_append rfl _ _ _ _ rfl _ _ rfl rfl ?_) | (at_make; refine wl_make rfl _ _ _ rfl _ _ rfl rfl ?_) | (at_mapUpdate; refine wl_mapUpdate rfl _ _ _ _ rfl _ _ _ rfl rfl rfl ?_) | (at_lookup; refine wl_lookup rfl _ _ _ _ rfl _ _ rfl rfl ?_) | (at_delete; refine wl_delete rfl _ _ _ _ rfl _ _ rfl rfl ?_) | (with_reducible refine wl_len rfl _ _ rfl _ rfl ?_) | (with_reducible refine wl_range rfl _ _ rfl _ rfl ?_) | (with_reducible refine wl_next rfl _ rfl _ rfl ?_) | (with_reducible refine wl_copy rfl _ _ _ _ rfl _ _ rfl rfl ?_) | (with_reducible refine wl_max rfl _ _ _ _ rfl _ _ rfl rfl ?_) | (with_reducible refine wl_min rfl _ _ _ _ rfl _ _ rfl rfl ?_))
            go_ret
            rw [E2.out]
            refine ⟨rfl, DR.mono hO5 fun k hk ha => ⟨?_, ha.2⟩, (hKw.mono fun _ _ h => h.elim).trans hK5 fun j hj hp => ?_⟩
            · rcases ha.1 with hp | hp
              · exact hp.1
              · exact hP k (Nat.le_trans hw4 hp)
            · rcases hp with hp | hp
              · exact hp.1
              · omega
end Go.Proofs.Ytkmoomgmmhmaeaa
