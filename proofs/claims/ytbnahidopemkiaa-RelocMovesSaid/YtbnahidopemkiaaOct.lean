/- Data that can be read: shapes (Sh), how cells read as them (Rd), and that every argument whose type fits a shape reads so. Slices of flat elements: read at an index, pushed to, put one behind the other. octets: has, width, fits, Get, Set. No condition. -/
import Derived.Test.YtbnahidopemkiaaLyM
import Derived.Deep.Slices
import Derived.OpenShut
import Derived.WideShapes
import Derived.Laws.Tables
import Derived.Laws.Rows
import Derived.Laws.ResultCell
import Derived.Test.YtbnahidopemkiaaProg
import Derived.Laws.MakeOwn
import Derived.Laws.OwnMore
set_option linter.unusedVariables false
set_option linter.unusedSimpArgs false
namespace Go.Dm
open Go Go.RowKit Go.ChangeShapes Go.WideShapes

inductive Sh where
  | int (k : IntKind) | u8 | bool | str | unit
  | pair (a b : Sh)
  | slice (e : Sh)
  | arr (n : Nat) (e : Sh)

@[reducible] def Sh.Ty : Sh → Type
  | .int _ => Int | .u8 => UInt8 | .bool => Bool | .str => List UInt8 | .unit => Unit
  | .pair a b => a.Ty × b.Ty | .slice e => List e.Ty | .arr _ e => List e.Ty
def Sh.n : Sh → Nat
  | .unit => 0 | .pair a b => a.n + b.n | .arr n e => n * e.n | .int _ => 1 | .u8 => 1 | .bool => 1 | .str => 1 | .slice _ => 1

/-- the cells cs read as x; memory beyond them lies in A -/
def Rd (A : Nat → Prop) (w : World) : (s : Sh) → List Value → s.Ty → Prop
  | .int k, cs, x => cs = [.int k x] ∧ (Lit.int k x).wf = true
  | .u8, cs, x => cs = [bv x]
  | .bool, cs, x => cs = [.bool x]
  | .str, cs, x => cs = [.string ⟨x.toArray⟩] ∧ x.length ≤ maxLen
  | .unit, cs, _ => cs = []
  | .pair a b, cs, x => ∃ c1 c2, cs = c1 ++ c2 ∧ Rd A w a c1 x.1 ∧ Rd A w b c2 x.2
  | .slice e, cs, x => ∃ (v : Value) (css : List (List Value)), cs = [v] ∧ Sl A w e.n v x.length css.flatten ∧ css.length = x.length ∧ ∀ (i : Nat) (c : List Value) (y : e.Ty), css[i]? = some c → x[i]? = some y → Rd A w e c y
  | .arr n e, cs, x => ∃ css : List (List Value), cs = css.flatten ∧ css.length = n ∧ x.length = n ∧ ∀ (i : Nat) (c : List Value) (y : e.Ty), css[i]? = some c → x[i]? = some y → Rd A w e c y

theorem flatten_len {n : Nat} : ∀ {css : List (List Value)}, (∀ c ∈ css, c.length = n) → css.flatten.length = css.length * n
  | [], _ => by simp
  | c :: r, h => by
    rw [List.flatten_cons, List.length_append, flatten_len (fun c hc => h c (by simp [hc])), h c (by simp), List.length_cons, Nat.succ_mul]; omega
theorem flatten_get {n : Nat} : ∀ {css : List (List Value)} (_ : ∀ c ∈ css, c.length = n) (i r : Nat) (_ : r < n), css.flatten[i * n + r]? = (css[i]?).bind (·[r]?)
  | [], _, i, r, _ => by simp
  | c :: t, h, 0, r, hr => by
    have := h c (by simp)
    rw [List.flatten_cons, Nat.zero_mul, Nat.zero_add, List.getElem?_append_left (by omega)]; simp
  | c :: t, h, i + 1, r, hr => by
    have := h c (by simp)
    rw [List.flatten_cons, List.getElem?_append_right (by rw [Nat.succ_mul]; omega), this, Nat.succ_mul, show i * n + n + r - n = i * n + r by omega, flatten_get (fun c hc => h c (by simp [hc])) i r hr]; simp
theorem flatten_get_some {n : Nat} {css : List (List Value)} (h : ∀ c ∈ css, c.length = n) (hn : 0 < n) {j : Nat} {u : Value} (hj : css.flatten[j]? = some u) : ∃ i r c, j = i * n + r ∧ r < n ∧ css[i]? = some c ∧ c[r]? = some u := by
  have e : j = j / n * n + j % n := by rw [Nat.mul_comm]; exact (Nat.div_add_mod j n).symm
  rw [e, flatten_get h _ _ (Nat.mod_lt _ hn)] at hj
  cases hc : css[j / n]? with
  | none => rw [hc] at hj; cases hj
  | some c => rw [hc] at hj; exact ⟨j / n, j % n, c, e, Nat.mod_lt _ hn, hc, hj⟩

section
variable {A : Nat → Prop} {w : World}
theorem Rd.len : ∀ {s : Sh} {cs : List Value} {x : s.Ty}, Rd A w s cs x → cs.length = s.n
  | .int k, _, _, h => by rw [h.1]; rfl
  | .u8, _, _, h => by have h : _ = _ := h; rw [h]; rfl
  | .bool, _, _, h => by have h : _ = _ := h; rw [h]; rfl
  | .str, _, _, h => by rw [h.1]; rfl
  | .unit, _, _, h => by have h : _ = _ := h; rw [h]; rfl
  | .pair a b, _, _, ⟨c1, c2, e, h1, h2⟩ => by rw [e, List.length_append, h1.len, h2.len]; rfl
  | .slice e, _, _, ⟨v, css, e1, _⟩ => by rw [e1]; rfl
  | .arr n e, _, x, ⟨css, e1, h1, h2, h3⟩ => by
    rw [e1, flatten_len (n := e.n) fun c hc => ?_, h1]; rfl
    obtain ⟨i, hi⟩ := List.mem_iff_getElem?.1 hc
    have hl : i < css.length := (List.getElem?_eq_some_iff.1 hi).1
    exact (h3 i c x[i] hi (List.getElem?_eq_getElem (by omega))).len
theorem Rd.elems {e : Sh} {css : List (List Value)} {x : List e.Ty} (h1 : css.length = x.length) (h2 : ∀ (i : Nat) (c : List Value) (y : e.Ty), css[i]? = some c → x[i]? = some y → Rd A w e c y) : ∀ c ∈ css, c.length = e.n := by
  intro c hc
  obtain ⟨i, hi⟩ := List.mem_iff_getElem?.1 hc
  have hl : i < css.length := (List.getElem?_eq_some_iff.1 hi).1
  exact (h2 i c x[i] hi (List.getElem?_eq_getElem (by omega))).len
theorem Rd.same {w' : World} (hs : w.heap.size ≤ w'.heap.size) (e : ∀ k, k < w.heap.size → A k → w'.heap[k]? = w.heap[k]?) : ∀ {s : Sh} {cs : List Value} {x : s.Ty}, Rd A w s cs x → Rd A w' s cs x
  | .int k, _, _, h => h
  | .u8, _, _, h => h
  | .bool, _, _, h => h
  | .str, _, _, h => h
  | .unit, _, _, h => h
  | .pair a b, _, _, ⟨c1, c2, e1, h1, h2⟩ => ⟨c1, c2, e1, Rd.same hs e h1, Rd.same hs e h2⟩
  | .slice s, _, _, ⟨v, css, e1, h1, h2, h3⟩ => ⟨v, css, e1, h1.same hs e, h2, fun i c y hc hy => Rd.same hs e (h3 i c y hc hy)⟩
  | .arr n s, _, _, ⟨css, e1, h1, h2, h3⟩ => ⟨css, e1, h1, h2, fun i c y hc hy => Rd.same hs e (h3 i c y hc hy)⟩
theorem Rd.mono {B : Nat → Prop} (e : ∀ k, k < w.heap.size → A k → B k) : ∀ {s : Sh} {cs : List Value} {x : s.Ty}, Rd A w s cs x → Rd B w s cs x
  | .int k, _, _, h => h
  | .u8, _, _, h => h
  | .bool, _, _, h => h
  | .str, _, _, h => h
  | .unit, _, _, h => h
  | .pair a b, _, _, ⟨c1, c2, e1, h1, h2⟩ => ⟨c1, c2, e1, Rd.mono e h1, Rd.mono e h2⟩
  | .slice s, _, _, ⟨v, css, e1, h1, h2, h3⟩ => ⟨v, css, e1, h1.mono e, h2, fun i c y hc hy => Rd.mono e (h3 i c y hc hy)⟩
  | .arr n s, _, _, ⟨css, e1, h1, h2, h3⟩ => ⟨css, e1, h1, h2, fun i c y hc hy => Rd.mono e (h3 i c y hc hy)⟩
theorem Rd.keep {S : Nat → Prop} {w' : World} {s : Sh} {cs : List Value} {x : s.Ty} (h : Rd A w s cs x) (k : Keep S w w') (hS : ∀ j, j < w.heap.size → A j → ¬ S j) : Rd A w' s cs x :=
  Rd.same k.size (fun j hj ha => k.block j hj (hS j hj ha)) h
/-- what is read stays, where only new memory is made -/
theorem Rd.no {w' : World} {s : Sh} {cs : List Value} {x : s.Ty} (h : Rd A w s cs x) (k : Keep No w w') : Rd A w' s cs x := h.keep k fun _ _ _ h => h

/-- a slice of bytes -/
theorem Rd.bts {v : Value} {l : List UInt8} (h : Rd A w (.slice .u8) [v] l) : Bts A w v l := by
  obtain ⟨v', css, e, h1, h2, h3⟩ := h
  cases e
  have e : css.flatten = l.map bv := by
    have hc : css = l.map fun b => [bv b] := by
      apply List.ext_getElem (by simpa using h2)
      intro i hi hj
      rw [List.getElem_map]
      have h2 : css.length = List.length l := h2
      exact h3 i css[i] (l[i]'(by omega)) (List.getElem?_eq_getElem hi) (List.getElem?_eq_getElem (by omega))
    rw [hc]
    clear hc h1 h2 h3
    induction l with
    | nil => rfl
    | cons b r ih => simp only [List.map_cons, List.flatten_cons, ih]; rfl
  rw [e] at h1
  exact h1
theorem Rd.of_bts {v : Value} {l : List UInt8} (h : Bts A w v l) : Rd A w (.slice .u8) [v] l := by
  have e : ∀ l : List UInt8, (l.map fun b => [bv b]).flatten = l.map bv := by
    intro l; induction l with
    | nil => rfl
    | cons b r ih => simp only [List.map_cons, List.flatten_cons, ih]; rfl
  refine ⟨v, l.map fun b => [bv b], rfl, by rw [e]; exact h, by simp, fun i c y hc hy => ?_⟩
  rw [List.getElem?_map, hy] at hc
  cases hc
  rfl
/-- a slice whose elements are flat: each is its cells -/
theorem Rd.flat {e : Sh} (enc : e.Ty → List Value) {v : Value} {l : List e.Ty} (h : Rd A w (.slice e) [v] l) (hd : ∀ c y, Rd A w e c y → c = enc y) : Sl A w e.n v l.length (l.flatMap enc) := by
  obtain ⟨v', css, e1, h1, h2, h3⟩ := h
  cases e1
  have hc : css = l.map enc := by
    apply List.ext_getElem (by simpa using h2)
    intro i hi hj
    rw [List.getElem_map]
    have h2 : css.length = List.length l := h2
    exact hd _ _ (h3 i css[i] (l[i]'(by omega)) (List.getElem?_eq_getElem hi) (List.getElem?_eq_getElem (by omega)))
  rw [List.flatMap_def, ← hc]
  exact h1
theorem Rd.of_flat {e : Sh} (enc : e.Ty → List Value) {v : Value} {l : List e.Ty} (h : Sl A w e.n v l.length (l.flatMap enc)) (hd : ∀ y ∈ l, Rd A w e (enc y) y) : Rd A w (.slice e) [v] l := by
  refine ⟨v, l.map enc, rfl, by rw [← List.flatMap_def]; exact h, by simp, fun i c y hc hy => ?_⟩
  rw [List.getElem?_map, hy] at hc
  cases hc
  exact hd y (List.mem_of_getElem? hy)
theorem Rd.bools {v : Value} {l : List Bool} (h : Rd A w (.slice .bool) [v] l) : Sl A w 1 v l.length (l.map .bool) := by
  have := h.flat (e := .bool) (fun b : Bool => [.bool b]) fun c y h => h
  rwa [← List.map_eq_flatMap] at this
theorem Rd.strs {v : Value} {l : List (List UInt8)} (h : Rd A w (.slice .str) [v] l) : Sl A w 1 v l.length (l.map fun s => .string ⟨s.toArray⟩) := by
  have := h.flat (e := .str) (fun s : List UInt8 => [.string ⟨s.toArray⟩]) fun c y h => h.1
  rwa [← List.map_eq_flatMap] at this
/-- one element of a slice -/
theorem Rd.at {e : Sh} {v : Value} {l : List e.Ty} (h : Rd A w (.slice e) [v] l) {n : Nat} (hn : e.n = n) {i : Nat} (hi : i < l.length) :
    ∃ g off cap, v = .slice (some ⟨g, off, none⟩) l.length cap ∧ A g ∧ g < w.heap.size ∧ l.length ≤ cap ∧ cap ≤ maxLen ∧ ∃ c, Rd A w e c l[i] ∧ ∀ r u, c[r]? = some u → w.cell? ⟨g, off + i * n + r, none⟩ = some u := by
  obtain ⟨v', css, e1, h1, h2, h3⟩ := h
  cases e1
  obtain ⟨g, off, cap, rfl, ha, hb, hc, hd, hr⟩ := h1.at (by omega)
  have hic : i < css.length := by omega
  refine ⟨g, off, cap, rfl, ha, hb, hc, hd, css[i], h3 i _ _ (List.getElem?_eq_getElem hic) (List.getElem?_eq_getElem hi), fun r u hu => ?_⟩
  rw [Nat.add_assoc, ← hn]
  refine hr _ _ ?_
  have hel := Rd.elems h2 h3
  have hrn : r < e.n := by rw [← hel css[i] (List.getElem_mem hic)]; exact (List.getElem?_eq_some_iff.1 hu).1
  rw [flatten_get hel i r hrn, List.getElem?_eq_getElem hic]
  exact hu
theorem Rd.shape {e : Sh} {v : Value} {l : List e.Ty} (h : Rd A w (.slice e) [v] l) : ∃ a cap, v = .slice a l.length cap ∧ l.length ≤ cap ∧ cap ≤ maxLen := by
  obtain ⟨v', css, e1, h1, _⟩ := h
  cases e1
  exact h1.shape
end

/-! a part of a slice -/
theorem Sl.sub {P : Program} {A : Nat → Prop} {w : World} {size n lo hi : Nat} {v : Value} {cs : List Value} (t : TypeId) (ht : P.underlying t = some (.slice (P.elem t))) (hsz : ∀ W, (sizeOf (P.elem t)).run P W = .ok size W)
    (h : Sl A w size v n cs) (h1 : lo ≤ hi) (h2 : hi ≤ n) :
    ∃ a' cap', (∀ W, (Instr.slice t v (some (.int .i64 (lo : Int))) (some (.int .i64 (hi : Int))) none).run P W = .ok (.slice a' (hi - lo) cap') W) ∧ Sl A w size (.slice a' (hi - lo) cap') (hi - lo) ((cs.drop (lo * size)).take ((hi - lo) * size)) := by
  obtain ⟨hl, a, cap, rfl, hn, hm, h0, hr⟩ := h
  refine ⟨if cap = lo then a else a.map (·.add (lo * size)), cap - lo, fun W => ?_, ?_, ?_⟩
  · rw [run_slice_lh (P := P) W t a n cap ht .i64 .i64 lo hi (by omega) (by omega) (by omega), hsz W]
    simp [Result.andThen, sliced]
  · rw [List.length_take, List.length_drop, hl]
    have : hi * size ≤ n * size := Nat.mul_le_mul_right _ h2
    rw [Nat.sub_mul]
    omega
  · refine ⟨_, _, rfl, by omega, by omega, ?_, fun hpos => ?_⟩
    · intro e
      cases a with
      | none => have := h0 rfl; omega
      | some a => split at e <;> cases e
    · obtain ⟨g, off, rfl, hA, hg, hc⟩ := hr (by omega)
      refine ⟨g, off + lo * size, ?_, hA, hg, fun j u hu => ?_⟩
      · rw [if_neg (by omega), Option.map_some, Addr.add_lit]
      · rw [Nat.add_assoc]
        refine hc _ _ ?_
        rw [List.getElem?_take] at hu
        split at hu
        · rw [List.getElem?_drop] at hu; exact hu
        · cases hu
theorem Bts.sub {P : Program} {A : Nat → Prop} {w : World} {lo hi : Nat} {v : Value} {l : List UInt8} (t : TypeId) (ht : P.underlying t = some (.slice (P.elem t))) (hsz : ∀ W, (sizeOf (P.elem t)).run P W = .ok 1 W)
    (h : Bts A w v l) (h1 : lo ≤ hi) (h2 : hi ≤ l.length) :
    ∃ a' cap', (∀ W, (Instr.slice t v (some (.int .i64 (lo : Int))) (some (.int .i64 (hi : Int))) none).run P W = .ok (.slice a' (hi - lo) cap') W) ∧ Bts A w (.slice a' (hi - lo) cap') ((l.drop lo).take (hi - lo)) := by
  obtain ⟨a', cap', hr, hs⟩ := Sl.sub t ht hsz h h1 h2
  refine ⟨a', cap', hr, ?_⟩
  have e : ((l.drop lo).take (hi - lo)).length = hi - lo := by rw [List.length_take, List.length_drop]; omega
  unfold Bts
  rw [e, List.map_take, List.map_drop]
  simpa using hs

/-! an argument that fits a shape -/
def fitX (P : Program) : Sh → TypeId ⊕ (List Field × Nat) → Bool
  | .int k, .inl t => match P.underlying t with | some (.int k') => decide (k' = k) && P.cellsOf t == 1 | _ => false
  | .u8, .inl t => match P.underlying t with | some (.int .u8) => P.cellsOf t == 1 | _ => false
  | .bool, .inl t => match P.underlying t with | some .bool => P.cellsOf t == 1 | _ => false
  | .str, .inl t => match P.underlying t with | some .string => P.cellsOf t == 1 | _ => false
  | .slice e, .inl t => match P.underlying t with | some (.slice te) => P.cellsOf t == 1 && P.cellsOf te == e.n && fitX P e (.inl te) && decide (0 < e.n) | _ => false
  | .arr n e, .inl t => match P.underlying t with | some (.array n' te) => decide (n' = n) && P.cellsOf t == n * e.n && P.cellsOf te == e.n && fitX P e (.inl te) | _ => false
  | .pair a b, .inl t => match P.underlying t with
    | some (.struct ⟨f :: r⟩) => P.cellsOf t == a.n + b.n && f.offset == 0 && P.cellsOf f.type == a.n && fitX P a (.inl f.type) && fitX P b (.inr (r, a.n))
    | _ => false
  | .pair a b, .inr (f :: r, off) => f.offset == off && P.cellsOf f.type == a.n && fitX P a (.inl f.type) && fitX P b (.inr (r, off + a.n))
  | .unit, .inr ([], _) => true
  | _, _ => false

section
variable {H : Type} {enc : TypeId × Value → H} {P : Program} {w : World} {base : Nat} {spare : Nat → Bool} {held : Bool}
theorem chunks (cs : List Value) (k : Nat) : ∀ n, n * k ≤ cs.length → ((List.range n).map fun i => (cs.drop (i * k)).take k).flatten = cs.take (n * k)
  | 0, _ => by simp
  | n + 1, h => by
    rw [Nat.succ_mul] at h ⊢
    rw [List.range_succ, List.map_append, List.flatten_append, chunks cs k n (by omega), List.take_add]; simp
theorem choose_list {α : Type} {n : Nat} {p : Nat → α → Prop} (h : ∀ i, i < n → ∃ x, p i x) : ∃ l : List α, l.length = n ∧ ∀ (i : Nat) x, l[i]? = some x → p i x := by
  induction n with
  | zero => exact ⟨[], rfl, fun i x h => by simp at h⟩
  | succ n ih =>
    obtain ⟨l, hl, hp⟩ := ih fun i hi => h i (by omega)
    obtain ⟨x, hx⟩ := h n (by omega)
    refine ⟨l ++ [x], by simp [hl], fun i y hy => ?_⟩
    rcases Nat.lt_or_ge i n with hi | hi
    · rw [List.getElem?_append_left (by omega)] at hy; exact hp i y hy
    · rw [List.getElem?_append_right (by omega)] at hy
      have : i = n := by
        have := (List.getElem?_eq_some_iff.1 hy).1
        simp at this; omega
      subst this
      simp [hl] at hy; subst hy; exact hx
theorem wf_u8 {n : Int} (h : (Lit.int .u8 n).wf = true) : Value.int .u8 n = bv (UInt8.ofNat n.toNat) := by
  have := bounds_u8 h
  unfold bv
  congr 1
  simp only [UInt8.toNat_ofNat']
  omega

theorem open_x : ∀ (s : Sh),
    (∀ (t : TypeId) (fuel : Nat) (cs : List Value) x, fitX P s (.inl t) = true → DataW.trod enc P w base spare held fuel t cs = some x → ∃ y, Rd (fun k => k < w.heap.size) w s cs y) ∧
    (∀ (fs : List Field) (off n : Nat) (cs : List Value), fitX P s (.inr (fs, off)) = true → cs.length = off + s.n → (∀ f ∈ fs, ∃ x, DataW.trod enc P w base spare held n f.type ((cs.drop f.offset).take (P.cellsOf f.type)) = some x) → ∃ y, Rd (fun k => k < w.heap.size) w s (cs.drop off) y)
  | .int k => ⟨fun t fuel cs x hf h => by
      unfold fitX at hf
      split at hf
      · rename_i k' hu
        simp only [Bool.and_eq_true, decide_eq_true_eq] at hf
        obtain ⟨rfl, _⟩ := hf
        obtain ⟨n, rfl, _, hw⟩ := DataW.trod_int hu h
        exact ⟨n, rfl, hw⟩
      · exact absurd hf Bool.false_ne_true, fun fs off n cs hf => by simp [fitX] at hf⟩
  | .u8 => ⟨fun t fuel cs x hf h => by
      unfold fitX at hf
      split at hf
      · rename_i hu
        obtain ⟨n, rfl, _, hw⟩ := DataW.trod_int hu h
        exact ⟨UInt8.ofNat n.toNat, by show [_] = [_]; rw [wf_u8 hw]⟩
      · exact absurd hf Bool.false_ne_true, fun fs off n cs hf => by simp [fitX] at hf⟩
  | .bool => ⟨fun t fuel cs x hf h => by
      unfold fitX at hf
      split at hf
      · rename_i hu
        obtain ⟨b, rfl, _⟩ := DataW.trod_bool hu h
        exact ⟨b, rfl⟩
      · exact absurd hf Bool.false_ne_true, fun fs off n cs hf => by simp [fitX] at hf⟩
  | .str => ⟨fun t fuel cs x hf h => by
      unfold fitX at hf
      split at hf
      · rename_i hu
        obtain ⟨s, rfl, _, hm⟩ := DataW.trod_string hu h
        exact ⟨s.data.toList, by simp, by simpa using hm⟩
      · exact absurd hf Bool.false_ne_true, fun fs off n cs hf => by simp [fitX] at hf⟩
  | .unit => ⟨fun t fuel cs x hf h => by simp [fitX] at hf, fun fs off n cs hf hl _ => ⟨(), by
      show cs.drop off = []
      rw [List.drop_eq_nil_iff]; simp only [Sh.n] at hl; omega⟩⟩
  | .pair a b => ⟨fun t fuel cs x hf h => by
      unfold fitX at hf
      split at hf
      · rename_i f r hu
        simp only [Bool.and_eq_true, beq_iff_eq] at hf
        obtain ⟨⟨⟨⟨h0, h1⟩, h2⟩, h3⟩, h4⟩ := hf
        obtain ⟨xs, n, _, _, hlen, hxl, hfs⟩ := DataW.trod_struct hu h
        have hg : ∀ f' ∈ f :: r, ∃ x, DataW.trod enc P w base spare held n f'.type ((cs.drop f'.offset).take (P.cellsOf f'.type)) = some x := by
          intro f' hf'
          obtain ⟨i, hi⟩ := List.mem_iff_getElem?.1 hf'
          have hi' : i < (f :: r).length := (List.getElem?_eq_some_iff.1 hi).1
          have hx : i < xs.length := by rw [hxl]; simpa using hi'
          have := hfs i f' (by simpa using hi)
          rw [List.getElem?_eq_getElem hx] at this
          exact ⟨_, this⟩
        obtain ⟨x1, hx1⟩ := hg f (by simp)
        rw [h1, h2, List.drop_zero] at hx1
        obtain ⟨y1, hy1⟩ := (open_x a).1 _ _ _ _ h3 hx1
        obtain ⟨y2, hy2⟩ := (open_x b).2 r a.n n cs h4 (by omega) fun f' hf' => hg f' (by simp [hf'])
        exact ⟨(y1, y2), _, _, (List.take_append_drop a.n cs).symm, hy1, hy2⟩
      · exact absurd hf Bool.false_ne_true, fun fs off n cs hf hl hg => by
      match fs with
      | [] => simp [fitX] at hf
      | f :: r =>
        simp only [fitX, Bool.and_eq_true, beq_iff_eq] at hf
        obtain ⟨⟨⟨h1, h2⟩, h3⟩, h4⟩ := hf
        obtain ⟨x1, hx1⟩ := hg f (by simp)
        rw [h1, h2] at hx1
        obtain ⟨y1, hy1⟩ := (open_x a).1 _ _ _ _ h3 hx1
        simp only [Sh.n] at hl
        obtain ⟨y2, hy2⟩ := (open_x b).2 r (off + a.n) n cs h4 (by omega) fun f' hf' => hg f' (by simp [hf'])
        refine ⟨(y1, y2), _, _, ?_, hy1, hy2⟩
        rw [← List.drop_drop]; exact (List.take_append_drop a.n _).symm⟩
  | .slice e => ⟨fun t fuel cs x hf h => by
      unfold fitX at hf
      split at hf
      · rename_i te hu
        simp only [Bool.and_eq_true, beq_iff_eq, decide_eq_true_eq] at hf
        obtain ⟨⟨⟨_, hce⟩, hfe⟩, hpos⟩ := hf
        rcases Deep.open_slice hu h with ⟨rfl, _⟩ | ⟨a, len, cap, m, n, D, Pl, rfl, _, hl, hm, hmm, _, hi⟩
        · exact ⟨[], _, [], rfl, Sl.nil _ _ _, rfl, fun i c y h => by simp at h⟩
        · have hlm : len ≤ m := by rw [hmm]; split <;> omega
          have h2 : ∀ i, i < len → ∃ q : List Value × e.Ty, (∀ r, r < e.n → w.cell? (a.add (i * e.n + r)) = q.1[r]?) ∧ Rd (fun k => k < w.heap.size) w e q.1 q.2 := by
            intro i hil
            obtain ⟨cs', hc, ht⟩ := hi i (by omega)
            obtain ⟨y, hy⟩ := (open_x e).1 _ _ _ _ hfe ht
            rw [hce] at hc
            obtain ⟨_, _, hr⟩ := World.cells?_some hc
            refine ⟨(cs', y), fun r hr' => ?_, hy⟩
            rw [← Deep.add_add]; exact hr r hr'
          obtain ⟨l, hll, hp⟩ := choose_list h2
          have hel : ∀ c ∈ l.map (·.1), c.length = e.n := by
            intro c hc
            obtain ⟨q, hq, rfl⟩ := List.mem_map.1 hc
            obtain ⟨i, hi⟩ := List.mem_iff_getElem?.1 hq
            exact (hp i q hi).2.len
          refine ⟨l.map (·.2), .slice (some a) len cap, l.map (·.1), rfl, ⟨?_, some a, cap, by simp [hll], by simpa [hll] using hl, hm, (fun h => by cases h), fun hn => ?_⟩, by simp, fun i c y hc hy => ?_⟩
          · rw [flatten_len hel]; simp
          · have hcell : ∀ j u, (l.map (·.1)).flatten[j]? = some u → w.cell? (a.add j) = some u := by
              intro j u hu
              obtain ⟨i, r, c, rfl, hr, hc, hu⟩ := flatten_get_some hel hpos hu
              rw [List.getElem?_map] at hc
              cases hq : l[i]? with
              | none => rw [hq] at hc; cases hc
              | some q =>
                rw [hq] at hc; cases hc
                rw [(hp i q hq).1 r hr]; exact hu
            simp only [List.length_map, hll] at hn
            have hfl : 0 < (l.map (·.1)).flatten.length := by
              rw [flatten_len hel, List.length_map, hll]; exact Nat.mul_pos hn hpos
            have h0 := hcell 0 _ (List.getElem?_eq_getElem hfl)
            obtain ⟨ab, ao, spot⟩ := a
            have hs : spot = none := by simpa [Addr.add] using World.cell?_spot h0
            subst hs
            refine ⟨ab, ao, rfl, World.block_lt_of_cell? w _ h0, World.block_lt_of_cell? w _ h0, fun j u hu => ?_⟩
            have := hcell j u hu
            rwa [Addr.add_lit] at this
          · rw [List.getElem?_map] at hc hy
            cases hq : l[i]? with
            | none => rw [hq] at hc; cases hc
            | some q =>
              rw [hq] at hc hy; cases hc; cases hy
              exact (hp i q hq).2
      · exact absurd hf Bool.false_ne_true, fun fs off n cs hf => by simp [fitX] at hf⟩
  | .arr n e => ⟨fun t fuel cs x hf h => by
      unfold fitX at hf
      split at hf
      · rename_i n' te hu
        simp only [Bool.and_eq_true, beq_iff_eq, decide_eq_true_eq] at hf
        obtain ⟨⟨⟨rfl, hct⟩, hce⟩, hfe⟩ := hf
        cases fuel with
        | zero => simp [DataW.trod] at h
        | succ fuel =>
          unfold DataW.trod at h
          rw [hu] at h
          simp only at h
          split at h
          · rename_i hlen
            rw [hct] at hlen
            cases hm : (List.range n').mapM (fun i => DataW.trod enc P w base spare held fuel te ((cs.drop (i * P.cellsOf te)).take (P.cellsOf te))) with
            | none => rw [hm] at h; cases h
            | some xs =>
              have h2 : ∀ i, i < n' → ∃ y : e.Ty, Rd (fun k => k < w.heap.size) w e ((cs.drop (i * e.n)).take e.n) y := by
                intro i hi
                have h1 := mapM_some_get hm i i (by simp [hi])
                have hxl : xs.length = n' := by simpa using mapM_some_length hm
                rw [List.getElem?_eq_getElem (by omega), hce] at h1
                exact (open_x e).1 _ _ _ _ hfe h1
              obtain ⟨l, hll, hp⟩ := choose_list h2
              refine ⟨l, (List.range n').map fun i => (cs.drop (i * e.n)).take e.n, ?_, by simp, hll, fun i c y hc hy => ?_⟩
              · rw [chunks cs e.n n' (by omega), ← hlen, List.take_length]
              · rw [List.getElem?_map] at hc
                have hi : i < n' := by rw [← hll]; exact (List.getElem?_eq_some_iff.1 hy).1
                rw [List.getElem?_range hi] at hc
                cases hc
                exact hp i y hy
          · cases h
      · exact absurd hf Bool.false_ne_true, fun fs off n cs hf => by simp [fitX] at hf⟩

theorem open_slice_arg {s : Sh} {t te : TypeId} {r : Reach} {b0 : Nat} {v : Value} {d : DataW H} {p : List MemPlace} (hu : P.underlying t = some (.slice te)) (hf : fitX P (.slice s) (.inl t) = true) (hval : Value.okWide P w r b0 t v) (h : DataW.Trod enc P w base spare held t v d p) :
    ∃ y, Rd (fun k => k < w.heap.size) w (.slice s) [v] y := by
  obtain ⟨a, len, cap, rfl⟩ := okWide_slice hu hval
  obtain ⟨fuel, hx⟩ := h
  exact (open_x (.slice s)).1 _ _ _ _ hf hx
theorem open_str_arg {t : TypeId} {r : Reach} {b0 : Nat} {v : Value} {d : DataW H} {p : List MemPlace} (hu : P.underlying t = some .string) (hf : fitX P .str (.inl t) = true) (hval : Value.okWide P w r b0 t v) (h : DataW.Trod enc P w base spare held t v d p) :
    ∃ y : List UInt8, v = .string ⟨y.toArray⟩ ∧ y.length ≤ maxLen := by
  obtain ⟨s, rfl⟩ := okWide_string hu hval
  obtain ⟨fuel, hx⟩ := h
  obtain ⟨y, h1, h2⟩ := (open_x .str).1 _ _ _ _ hf hx
  exact ⟨y, by simpa [Value.cells] using h1, h2⟩
theorem open_struct_arg {s : Sh} {t : TypeId} {fs : Array Field} {r : Reach} {b0 : Nat} {v : Value} {d : DataW H} {p : List MemPlace} (hu : P.underlying t = some (.struct fs)) (hf : fitX P s (.inl t) = true) (hval : Value.okWide P w r b0 t v) (h : DataW.Trod enc P w base spare held t v d p) :
    ∃ cs y, v = .agg cs ∧ Rd (fun k => k < w.heap.size) w s cs.toList y := by
  obtain ⟨cs, rfl, _⟩ := okWide_struct hu hval
  obtain ⟨fuel, hx⟩ := h
  obtain ⟨y, hy⟩ := (open_x s).1 _ _ _ _ hf hx
  exact ⟨cs, y, rfl, hy⟩
theorem open_array_arg {s : Sh} {t te : TypeId} {n : Nat} {r : Reach} {b0 : Nat} {v : Value} {d : DataW H} {p : List MemPlace} (hu : P.underlying t = some (.array n te)) (hf : fitX P s (.inl t) = true) (hval : Value.okWide P w r b0 t v) (h : DataW.Trod enc P w base spare held t v d p) :
    ∃ cs y, v = .agg cs ∧ Rd (fun k => k < w.heap.size) w s cs.toList y := by
  simp only [Value.okWide, hu] at hval
  obtain ⟨cs, rfl, _⟩ := hval
  obtain ⟨fuel, hx⟩ := h
  obtain ⟨y, hy⟩ := (open_x s).1 _ _ _ _ hf hx
  exact ⟨cs, y, rfl, hy⟩
end
end Go.Dm
namespace Go.Dm
open Go Go.RowKit

/-- a slice whose elements x are the cells enc x -/
def Fl {α : Type} (A : Nat → Prop) (w : World) (k : Nat) (enc : α → List Value) (v : Value) (l : List α) : Prop := Sl A w k v l.length (l.flatMap enc)
/-- the same in a row of one's own -/
def FlO {α : Type} (w : World) (base : Nat) (e : TypeId) (k : Nat) (enc : α → List Value) (v : Value) (l : List α) : Prop := w.ownsRow base e k v l.length (l.flatMap enc)

section
variable {α : Type} {A : Nat → Prop} {w : World} {k : Nat} {enc : α → List Value} {v : Value} {l : List α}
theorem Fl.keep {S : Nat → Prop} {w' : World} (h : Fl A w k enc v l) (hk : Keep S w w') (hS : ∀ j, j < w.heap.size → A j → ¬ S j) : Fl A w' k enc v l := Sl.keep h hk hS
theorem Fl.no {w' : World} (h : Fl A w k enc v l) (hk : Keep No w w') : Fl A w' k enc v l := Sl.keep h hk fun _ _ _ h => h
theorem Fl.mono {B : Nat → Prop} (h : Fl A w k enc v l) (hab : ∀ j, j < w.heap.size → A j → B j) : Fl B w k enc v l := Sl.mono h hab
theorem Fl.shape (h : Fl A w k enc v l) : ∃ a cap, v = .slice a l.length cap ∧ l.length ≤ cap ∧ cap ≤ maxLen := Sl.shape h
theorem Fl.nil : Fl A w k enc (.slice none 0 0) [] := Sl.nil _ _ _
theorem Fl.at (h : Fl A w k enc v l) (hk : ∀ x, (enc x).length = k) {i : Nat} (hi : i < l.length) :
    ∃ g off cap, v = .slice (some ⟨g, off, none⟩) l.length cap ∧ A g ∧ g < w.heap.size ∧ l.length ≤ cap ∧ cap ≤ maxLen ∧ ∀ r u, (enc l[i])[r]? = some u → w.cell? ⟨g, off + i * k + r, none⟩ = some u := by
  obtain ⟨g, off, cap, e, ha, hg, hc, hm, hr⟩ := Sl.at h (by omega)
  refine ⟨g, off, cap, e, ha, hg, hc, hm, fun r u hu => ?_⟩
  have hel : ∀ c ∈ l.map enc, c.length = k := by
    intro c hc
    obtain ⟨x, _, rfl⟩ := List.mem_map.1 hc
    exact hk x
  have hrk : r < k := by rw [← hk l[i]]; exact (List.getElem?_eq_some_iff.1 hu).1
  rw [Nat.add_assoc]
  refine hr _ _ ?_
  rw [List.flatMap_def, flatten_get hel i r hrk, List.getElem?_map, List.getElem?_eq_getElem hi]
  exact hu
variable {base : Nat} {e : TypeId}
theorem FlO.fl (h : FlO w base e k enc v l) : Fl (fun j => base ≤ j ∧ j < w.heap.size) w k enc v l := Sl.mono (Sl.of_own h) fun j hj ha => ⟨ha.1, hj⟩
theorem FlO.flO (h : FlO w base e k enc v l) : Fl (fun j => base ≤ j ∧ some j = v.ownBlock) w k enc v l := Sl.of_own h
theorem FlO.same {w' : World} (h : FlO w base e k enc v l) (hs : ∀ g, v.ownBlock = some g → w'.heap[g]? = w.heap[g]?) : FlO w' base e k enc v l := by
  refine ⟨h.1, h.2.imp id ?_⟩
  rintro ⟨g, cap, cur, rfl, a, b, r⟩
  exact ⟨g, cap, cur, rfl, a, (hs g rfl).trans b, r⟩
theorem FlO.no {w' : World} (h : FlO w base e k enc v l) (hk : Keep No w w') : FlO w' base e k enc v l := h.same fun g hg => hk.block g (World.ownsRow.lt h g hg).2 fun h => h
theorem FlO.nil : FlO w base e k enc (.slice none 0 0) [] := World.ownsRow_nil _ _ _ _
/-- what is written into a row of one's own is nobody else's -/
theorem Keep.own {w0 w' : World} {n : Nat} {xs : List Value} (hK : Keep No w0 w) (ho : w.ownsRow w0.heap.size e k v n xs) (hk : Keep (fun j => some j = v.ownBlock) w w') : Keep No w0 w' :=
  hK.trans hk fun j hj h => absurd (ho.lt j h.symm).1 (Nat.not_le.2 hj)

theorem Keep.new {w w1 : World} (h : Keep No w w1) {p : Addr} (hp : w.heap.size ≤ p.block) (u : Value) : Keep No w (w1.setCell p u) := h.setCell (fun hl => absurd hl (Nat.not_lt.2 hp)) u
theorem Blk.own {w w' : World} {b base : Nat} {cs : Array Value} {t e : TypeId} {k n : Nat} {v : Value} {xs : List Value} (h : Blk w b cs t) (ho : w.ownsRow base e k v n xs) (hk : Keep (fun j => some j = v.ownBlock) w w') (hb : b < base) : Blk w' b cs t :=
  h.keep hk fun e => absurd (ho.lt b e.symm).1 (Nat.not_le.2 hb)

variable {P : Program}
/-- append(v, x) -/
theorem rg_push (z : Value) (bytes : Nat) {t ty : TypeId} (ht : P.underlying t = some (.slice e)) (hi : (P.info? e).map (fun i => (i.zero, i.size, i.bytes)) = some (some z, k, bytes)) (hzs : z.cells.size = k) (hk0 : 0 < k)
    {x : α} {cs : Array Value} (hcs : cs.toList = enc x) (hx : (enc x).length = k) (hone : ∀ u ∈ enc x, u.oneCell' = true) (ho : FlO w base e k enc v l) (hlen : l.length + 1 ≤ 1099511627776) (hb : bytes ≤ 128) (hbase : base ≤ w.heap.size) {K : Value → World → Prop}
    (h : ∀ v' w', FlO w' base e k enc v' (l ++ [x]) → Keep (fun j => some j = v.ownBlock) w w' → (v'.ownBlock = v.ownBlock ∨ v'.ownBlock = some (w.heap.size + 1)) → K v' w') : AppendGoal P t t ty v (.slice (some ⟨w.heap.size, 0, none⟩) 1 1) (w.alloc (.cells cs e)) K := by
  have hs : Sl (fun j => j = w.heap.size) (w.alloc (.cells cs e)) k (.slice (some ⟨w.heap.size, 0, none⟩) 1 1) 1 (enc x) := by
    rw [← hcs]
    exact Sl.new w cs e (by rw [← Array.length_toList, hcs, hx, Nat.one_mul]) (by unfold maxLen; omega)
  have hbb : (l.length + 1) * bytes ≤ 140737488355328 := Nat.le_trans (Nat.mul_le_mul hlen hb) (by decide)
  refine rg_append base e z k bytes ht hi hzs hk0 (ho.alloc _) hs hone (by unfold maxLen; omega) hbb (by rw [World.size_alloc]; omega) ?_
  intro v' w' ho' hk' _ hn
  refine h v' w' ?_ (((Keep.refl _ w).alloc _).trans' hk') ?_
  · unfold FlO
    rw [List.length_append, List.flatMap_append]
    simpa using ho'
  · rw [World.size_alloc] at hn; exact hn
/-- append(v, vs...) -/
theorem rg_cat (z : Value) (bytes : Nat) {t ty : TypeId} (ht : P.underlying t = some (.slice e)) (hi : (P.info? e).map (fun i => (i.zero, i.size, i.bytes)) = some (some z, k, bytes)) (hzs : z.cells.size = k) (hk0 : 0 < k)
    {vs : Value} {m : List α} (hs : Fl A w k enc vs m) (hone : ∀ x, ∀ u ∈ enc x, u.oneCell' = true) (ho : FlO w base e k enc v l) (hlen : l.length + m.length ≤ 1099511627776) (hb : bytes ≤ 128) (hbase : base ≤ w.heap.size) {K : Value → World → Prop}
    (h : ∀ v' w', FlO w' base e k enc v' (l ++ m) → Keep (fun j => some j = v.ownBlock) w w' → (v'.ownBlock = v.ownBlock ∨ v'.ownBlock = some w.heap.size) → K v' w') : AppendGoal P t t ty v vs w K := by
  have hbb : (l.length + m.length) * bytes ≤ 140737488355328 := Nat.le_trans (Nat.mul_le_mul hlen hb) (by decide)
  refine rg_append base e z k bytes ht hi hzs hk0 ho hs (fun u hu => ?_) (by unfold maxLen; omega) hbb hbase ?_
  · obtain ⟨x, _, hx⟩ := List.mem_flatMap.1 hu
    exact hone x u hx
  · intro v' w' ho' hk' _ hn
    refine h v' w' ?_ hk' hn
    unfold FlO
    rw [List.length_append, List.flatMap_append]
    exact ho'
end

/-! a whole struct is stored; a struct is the result -/
def StAggGoal (P : Program) (ty : TypeId) (g : Nat) (cells : Array Value) (w : World) (K : World → Prop) : Prop := RunGoal P (Instr.storeAt ty (.pointer (some ⟨g, 0, none⟩)) (.agg cells)) w fun _ w' => K w'
section
variable {P : Program} {w : World}
theorem wl_stAgg {ops : Array Oper} {rest : List Oper} {o : Oper} {a : Act} {Q : Exit → Act → World → Prop} (hgd : o.guard = none) (x y : Operand) (ty : TypeId) (ho : o.op = Op.store ty x y) (g : Nat) (cells : Array Value)
    (h1 : a.eval x = .pointer (some ⟨g, 0, none⟩)) (h2 : a.eval y = .agg cells) (h : StAggGoal P ty g cells w fun w' => wpList P ops Q rest (a.put o.dst undef) w') : wpList P ops Q (o :: rest) a w := by
  obtain ⟨v, w', hr, hk⟩ := h
  refine wpList_plain hgd fun K hK => ?_
  unfold Oper.wp execOp
  simp only [ho, h1, h2, hr, Sem.run_bind, Sem.run_pure, Result.andThen_ok]
  exact hK _ _ hk
theorem wo_stAgg {o : Oper} {a : Act} {Q : Exit → Act → World → Prop} {K : Act → World → Prop} (x y : Operand) (ty : TypeId) (ho : o.op = Op.store ty x y) (g : Nat) (cells : Array Value)
    (h1 : a.eval x = .pointer (some ⟨g, 0, none⟩)) (h2 : a.eval y = .agg cells) (h : StAggGoal P ty g cells w fun w' => K (a.put o.dst undef) w') : o.wp P a w K Q := by
  obtain ⟨v, w', hr, hk⟩ := h
  unfold Oper.wp execOp
  simp only [ho, h1, h2, hr, Sem.run_bind, Sem.run_pure, Result.andThen_ok]
  exact hk
theorem rg_stAgg {g : Nat} {old cells : Array Value} {t ty : TypeId} (hB : Blk w g old t) (hi : (P.info? ty).map (·.size) = some cells.size) (hold : old.size = cells.size) (h1 : cells.all (·.oneCell') = true) {K : World → Prop}
    (h : ∀ w', Blk w' g cells t → Keep (fun j => j = g) w w' → w'.heap.size = w.heap.size → K w') : StAggGoal P ty g cells w K := by
  refine .mk (v := ()) (w' := w.setRow g cells) ?_ (h _ (setRow_heap w g old cells t _ hB) ⟨rfl, rfl, rfl, by simp, fun k _ hk => setRow_other w g k cells hk⟩ (by simp))
  simp only [Instr.storeAt, Instr.sureAddr, Sem.run_bind, Sem.run_pure, Result.andThen_ok, run_storeVar_row w g t ty old cells hB hi hold h1]
/-- the result lies in block g -/
theorem ret_blk {fn : Func} {R : Ending → World → Prop} {a : Act} {p : Tmp} {ty t : TypeId} {g : Nat} {cs : Array Value} {d : TypeDesc} (h : fn.results = #[.cell p ty]) (hp : a.tmps.getD p undef = .pointer (some ⟨g, 0, none⟩)) (hB : Blk w g cs t) (hu : P.underlying ty = some d)
    (hd : (match d with | .struct _ | .array _ _ => true | _ => false) = true) (hi : (P.info? ty).map (·.size) = some cs.size) (hdf : a.defers = []) (hR : R (.returned (.agg cs)) w) : bodyPost P fn R .ret a w :=
  bodyPost_ret (results_cell_row h a.tmps w g t cs _ d hp hB hu hd hi) hdf hR
theorem ret_blk_tmp {fn : Func} {R : Ending → World → Prop} {a : Act} {p u : Tmp} {ty t : TypeId} {g : Nat} {cs : Array Value} {d : TypeDesc} (h : fn.results = #[.cell p ty, .tmp u]) (hp : a.tmps.getD p undef = .pointer (some ⟨g, 0, none⟩)) (hB : Blk w g cs t) (hu : P.underlying ty = some d)
    (hd : (match d with | .struct _ | .array _ _ => true | _ => false) = true) (hi : (P.info? ty).map (·.size) = some cs.size) (hdf : a.defers = []) (hR : R (.returned (.tuple #[.agg cs, a.tmps.getD u undef])) w) : bodyPost P fn R .ret a w :=
  bodyPost_ret (by rw [results_cell_tmp h, hp]; simp [asAddr, run_loadVar_row w g t ty cs _ d hB hu hd hi, Result.andThen]) hdf hR
end
end Go.Dm
namespace Go.Proofs.Ytbnahidopemkiaa
open Go.RowKit Go.Dm Go.Dm.Oc

theorem o_info : (Try.prog.info? 5).map (fun i => (i.zero, i.size, i.bytes)) = some (some (.int .u8 0), 1, 1) := by kernel_rfl
section
variable {A : Nat → Prop} {w : World}
theorem owidth_any (n : Int) (w : World) : Calls Try.prog 114 #[.int .i64 n] w fun e w' => e = .returned (.bool (widthB n)) ∧ w = w' := by
  go_enter Try.func114, Try.ntmps114
  go_wp2_with fail
  all_goals
    go_ret
    refine ⟨congrArg (fun b => Ending.returned (Value.bool b)) ?_, rfl⟩
    rw [Bool.eq_iff_iff]
    simp only [widthB, decide_eq_true_eq, true_iff, Bool.or_eq_true, beq_iff_eq]
    omega
theorem ohas_any (many at_ size : Nat) (hm : many < 9223372036854775808) (ha : at_ < 18446744073709551616) (hs : size < 18446744073709551616) (w : World) :
    Calls Try.prog 101 #[.int .i64 (many : Int), .int .u64 (at_ : Int), .int .u64 (size : Int)] w fun e w' => e = .returned (.bool (hasB many at_ size)) ∧ w = w' := by
  go_enter Try.func101, Try.ntmps101
  go_wp2_with fail
  all_goals
    go_ret
    refine ⟨congrArg (fun b => Ending.returned (Value.bool b)) ?_, rfl⟩
    rw [Bool.eq_iff_iff]
    simp only [hasB, Bool.and_eq_true, decide_eq_true_eq, Bool.false_eq_true, false_iff]
    omega
theorem ofits_any {v : Value} (b : List UInt8) (at_ : Nat) (n : Int) (hb : Bts A w v b) (hl : b.length ≤ 1099511627776) (ha : at_ < 18446744073709551616) (h0 : -9223372036854775808 ≤ n) (h1 : n < 9223372036854775808) :
    Calls Try.prog 108 #[v, .int .u64 (at_ : Int), .int .i64 n] w fun e w' => e = .returned (.int .i64 (fitsE b.length at_ n : Nat)) ∧ w = w' := by
  obtain ⟨a, c, rfl, hc, hc2⟩ := hb.shape
  have hd : fitsE b.length at_ n = if widthB n then if hasB b.length at_ n.toNat then 0 else 10 else 1 := rfl
  have HD := Lib.hid hd
  clear hd
  go_enter Try.func108, Try.ntmps108
  go_wp2_with fail
  refine (owidth_any n _).mono ?_
  rintro e x ⟨rfl, rfl⟩
  cases hw : widthB n with
  | false =>
    have HE := Lib.hid (show fitsE b.length at_ n = 1 by rw [HD.out, hw]; rfl)
    clear HD
    go_wp2_with fail
    go_ret
    rw [HE.out]
    exact ⟨rfl, rfl⟩
  | true =>
    have hn : n = (n.toNat : Int) := by simp only [widthB, decide_eq_true_eq] at hw; omega
    have hn8 : n.toNat ≤ 8 := by simp only [widthB, decide_eq_true_eq] at hw; omega
    have HE := Lib.hid (show fitsE b.length at_ n = if hasB b.length at_ n.toNat then 0 else 10 by rw [HD.out, hw]; rfl)
    clear HD hw
    generalize n.toNat = k at *
    subst hn
    go_wp2_with fail
    refine (ohas_any b.length at_ k (by omega) ha (by omega) _).mono ?_
    rintro e x ⟨rfl, rfl⟩
    cases hh : hasB b.length at_ k with
    | false =>
      have HE2 := Lib.hid (show fitsE b.length at_ (k : Int) = 10 by rw [HE.out, hh]; rfl)
      clear HE
      go_wp2_with fail
      go_ret
      rw [HE2.out]
      exact ⟨rfl, rfl⟩
    | true =>
      have HE2 := Lib.hid (show fitsE b.length at_ (k : Int) = 0 by rw [HE.out, hh]; rfl)
      clear HE
      go_wp2_with fail
      go_ret
      rw [HE2.out]
      exact ⟨rfl, rfl⟩
set_option maxRecDepth 100000 in
set_option maxHeartbeats 2000000 in
theorem oget_any {v : Value} (b : List UInt8) (at_ : Nat) (n : Int) (hb : Bts A w v b) (hl : b.length ≤ 1099511627776) (ha : at_ < 18446744073709551616) (h0 : -9223372036854775808 ≤ n) (h1 : n < 9223372036854775808) :
    Calls Try.prog 94 #[v, .int .u64 (at_ : Int), .int .i64 n] w fun e w' => e = .returned (.tuple #[.int .u64 (getX b at_ n : Nat), .int .i64 (fitsE b.length at_ n : Nat)]) ∧ w = w' := by
  have hfit := ofits_any b at_ n hb hl ha h0 h1
  obtain ⟨a, c, rfl, hc, hc2⟩ := hb.shape
  obtain ⟨X, hX⟩ : ∃ X, getX b at_ n = X := ⟨_, rfl⟩
  have hx : getX b at_ n = if fitsE b.length at_ n = 0 then leN ((b.drop at_).take n.toNat) else 0 := rfl
  have hparts := @fits_parts b.length at_ n
  rw [hX] at hx ⊢
  generalize fitsE b.length at_ n = er at *
  have HX := Lib.hid hx
  clear hx hX
  go_enter Try.func94, Try.ntmps94
  go_wp2_with fail
  refine hfit.mono ?_
  rintro e x ⟨rfl, rfl⟩
  clear hfit
  by_cases hf : er = 0
  · subst hf
    obtain ⟨hn, hat, hsz⟩ := hparts rfl
    have HE := Lib.hid (show X = leN ((b.drop at_).take n.toNat) by rw [HX.out, if_pos rfl])
    clear HX hparts
    have hnn : n = (n.toNat : Int) := by omega
    have hn8 : n.toNat ≤ 8 := by omega
    have hn1 : 1 ≤ n.toNat := by omega
    generalize n.toNat = k at *
    subst hnn
    clear hn
    go_wp2_with fail
    go_loopw [9, 19] (fun xv iv wr => ∃ i : Nat, xv = .int .u64 (leN ((b.drop at_).take i) : Nat) ∧ iv = .int .i64 i ∧ i ≤ k ∧ wr = w) (fun _ iv _ => k - (intOf iv).toNat)
    case atStart => exact ⟨0, rfl, rfl, Nat.zero_le _, rfl⟩
    case round =>
      obtain ⟨i, rfl, rfl, hi, rfl⟩ := hrel
      rcases Nat.lt_or_ge i k with hlt | hge
      · obtain ⟨g0, off, cap, e, hg0, hgl, _, _, hcell⟩ := hb.at (by omega)
        cases e
        have hin : at_ + i < b.length := by omega
        have qb : wr.cell? ⟨g0, off + (at_ + i), none⟩ = some (bv b[at_ + i]) := hcell (at_ + i) _ (by rw [List.getElem?_map, List.getElem?_eq_getElem hin]; rfl)
        have htk : (b.drop at_).take (i + 1) = (b.drop at_).take i ++ [b[at_ + i]] := by
          rw [List.take_succ_eq_append_getElem (by rw [List.length_drop]; omega), List.getElem_drop]
        have hlen : ((b.drop at_).take i).length = i := by rw [List.length_take, List.length_drop]; omega
        have hnx : leN ((b.drop at_).take (i + 1)) = leN ((b.drop at_).take i) + 2 ^ (8 * i) * b[at_ + i].toNat := by rw [htk, leN_snoc, hlen, pow256]
        have hlt8 : leN ((b.drop at_).take i) < 2 ^ (8 * i) := by
          have := leN_lt ((b.drop at_).take i)
          rw [hlen, pow256] at this
          exact this
        have hbb := b[at_ + i].toNat_lt
        generalize b[at_ + i] = y at *
        generalize leN ((b.drop at_).take i) = x at *
        have hor := or_top x y.toNat (8 * i) hlt8
        have hp64 : y.toNat * 2 ^ (8 * i) < 18446744073709551616 := by
          have h1 : y.toNat * 2 ^ (8 * i) < 256 * 2 ^ (8 * i) := Nat.mul_lt_mul_of_pos_right hbb (Nat.two_pow_pos _)
          have h2 : 256 * 2 ^ (8 * i) = 2 ^ (8 * (i + 1)) := by rw [show (256 : Nat) = 2 ^ 8 by rfl, ← Nat.pow_add]; congr 1; omega
          have h3 : 2 ^ (8 * (i + 1)) ≤ 2 ^ 64 := Nat.pow_le_pow_right (by decide) (by omega)
          omega
        have hx64 : x < 18446744073709551616 := by
          have h3 : 2 ^ (8 * i) ≤ 2 ^ 64 := Nat.pow_le_pow_right (by decide) (by omega)
          omega
        have hwr : IntKind.u64.wrap ((y.toNat : Int) * 2 ^ (8 * i)) = ((y.toNat * 2 ^ (8 * i) : Nat) : Int) := by
          rw [show ((y.toNat : Int) * 2 ^ (8 * i)) = ((y.toNat * 2 ^ (8 * i) : Nat) : Int) by push_cast; rfl, IntKind.wrap_u64]
          omega
        have hbor := u64_or_nat x (y.toNat * 2 ^ (8 * i)) hx64 hp64
        rw [hor, ← hnx, ← hwr] at hbor
        have HB := Lib.hid hbor
        have hltz : (i : Int) < (k : Int) := by omega
        have hsum : (at_ : Int) + (i : Int) = ((at_ + i : Nat) : Int) := by omega
        have hinz : ((at_ + i : Nat) : Int) < (b.length : Int) := by omega
        have hatz : (at_ : Int) < 9223372036854775808 := by omega
        have hi8 : (i : Int) ≤ 8 := by omega
        unfold bv at qb
        clear hor hnx htk hlt8 hcell HE hwr hbor hp64
        obtain ⟨j, hj⟩ : ∃ j, j = at_ + i := ⟨_, rfl⟩
        rw [← hj] at hsum hinz qb
        have hjz : (j : Int) < 9223372036854775808 := by omega
        clear hj hin
        go_wp2_with fail
        go_roundw
        case rel => exact ⟨i + 1, by rw [HB.out], by go_num, hlt, trivial⟩
        case measure => simp [intOf]; omega
      · obtain rfl : i = k := Nat.le_antisymm hi hge
        go_wp2_with fail
        go_ret2
        rw [HE.out]
        exact ⟨rfl, rfl⟩
  · have HE := Lib.hid (show X = 0 by rw [HX.out, if_neg hf])
    clear HX hparts
    have hne : (er : Int) ≠ 0 := by omega
    go_wp2_with fail
    go_ret2
    rw [HE.out]
    exact ⟨rfl, rfl⟩
set_option maxRecDepth 100000 in
set_option maxHeartbeats 400000 in
theorem oclone_any (v : Value) (xs : List UInt8) (w : World) (h : Bts A w v xs) (b1 : xs.length ≤ 1099511627776) :
    Calls Try.prog 66 #[v] w fun e w' => ∃ v', e = .returned v' ∧ w'.ownsRow w.heap.size 5 1 v' xs.length (xs.map bv) ∧ Keep No w w' := by
  obtain ⟨a, c, rfl, hc, hc2⟩ := h.shape
  have qT := fun (w : World) (a : Option Addr) (n c n' c' : Nat) => Lib.run_eql_slice_nil (P := Try.prog) w _ _ a n c n' c' Try.underlying26
  cases a with
  | none =>
    have e0 : xs.length = 0 := by
      obtain ⟨_, a', cap, e, c1, _, c2, _⟩ := h
      cases e
      have := c2 rfl
      omega
    obtain rfl : xs = [] := List.eq_nil_of_length_eq_zero e0
    go_enter Try.func66, Try.ntmps66
    go_wp2_with fail
    go_ret
    exact ⟨_, rfl, World.ownsRow_nil _ _ _ _, Keep.refl _ _⟩
  | some a =>
    go_enter Try.func66, Try.ntmps66
    go_wp2_with (at_builtin; refine wl_append rfl _ _ _ _ rfl _ _ rfl rfl ?_)
    have hown : (w.alloc (.cells #[] 5)).ownsRow w.heap.size 5 1 (.slice (some ⟨w.heap.size, 0, none⟩) 0 0) 0 [] := World.ownsRow_made w #[] 0 (Nat.le_refl _) (Nat.zero_le _) rfl
    refine rg_append w.heap.size 5 _ 1 1 Try.underlying26 o_info rfl (by decide) hown (h.keep ((Keep.refl No w).alloc _) fun _ _ _ h => h) (bv_one _) (by unfold maxLen; omega) (by omega) (by simp) ?_
    intro v' w2 ho hk _ _
    simp only [Nat.zero_add, List.nil_append] at ho
    go_wp2_with fail
    go_ret
    exact ⟨_, rfl, ho, ((Keep.refl No w).alloc _).trans hk fun j hj e => by
      simp only [Value.ownBlock, Option.some.injEq] at e; omega⟩
/-- bytes with a number -/
def setX (b : List UInt8) (at_ : Nat) (n : Int) (x : Nat) : List UInt8 := setR b at_ (le n.toNat x)
theorem oset_bad {v : Value} (b : List UInt8) (at_ : Nat) (n : Int) (x : Nat) (hb : Bts A w v b) (hl : b.length ≤ 1099511627776) (ha : at_ < 18446744073709551616) (h0 : -9223372036854775808 ≤ n) (h1 : n < 9223372036854775808) (hf : fitsE b.length at_ n ≠ 0) :
    Calls Try.prog 115 #[v, .int .u64 (at_ : Int), .int .i64 n, .int .u64 (x : Int)] w fun e w' => e = .returned (.tuple #[.slice none 0 0, .int .i64 (fitsE b.length at_ n : Nat)]) ∧ w = w' := by
  have hfit := ofits_any b at_ n hb hl ha h0 h1
  obtain ⟨a, c, rfl, hc, hc2⟩ := hb.shape
  generalize fitsE b.length at_ n = er at *
  have hne : (er : Int) ≠ 0 := by omega
  go_enter Try.func115, Try.ntmps115
  go_wp2_with fail
  refine hfit.mono ?_
  rintro e x ⟨rfl, rfl⟩
  go_wp2_with fail
  go_ret2
  exact ⟨rfl, rfl⟩
set_option maxRecDepth 100000 in
set_option maxHeartbeats 2000000 in
theorem oset_any {v : Value} (b : List UInt8) (at_ : Nat) (n : Int) (x : Nat) (hb : Bts A w v b) (hl : b.length ≤ 1099511627776) (ha : at_ < 18446744073709551616) (hx : x < 18446744073709551616) (hf : fitsE b.length at_ n = 0) :
    Calls Try.prog 115 #[v, .int .u64 (at_ : Int), .int .i64 n, .int .u64 (x : Int)] w fun e w' => ∃ v', e = .returned (.tuple #[v', .int .i64 0]) ∧ w'.ownsRow w.heap.size 5 1 v' b.length ((setX b at_ n x).map bv) ∧ Keep No w w' := by
  obtain ⟨hn, hat, hsz⟩ := fits_parts hf
  have hfit := ofits_any b at_ n hb hl ha (by omega) (by omega)
  have hcl := oclone_any v b w hb hl
  rw [hf] at hfit
  unfold setX
  have hnn : n = (n.toNat : Int) := by omega
  have hn8 : n.toNat ≤ 8 := by omega
  have hn1 : 1 ≤ n.toNat := by omega
  generalize n.toNat = k at *
  subst hnn
  clear hn hf
  obtain ⟨a, c, rfl, hc, hc2⟩ := hb.shape
  go_enter Try.func115, Try.ntmps115
  go_wp2_with fail
  refine hfit.mono ?_
  rintro e W ⟨rfl, rfl⟩
  clear hfit
  go_wp2_with fail
  refine hcl.mono ?_
  rintro e W ⟨v', rfl, ho, hK⟩
  clear hcl
  have hbl : 0 < b.length := by omega
  rcases ho.2 with ⟨_, h0⟩ | ⟨g, cap, cur, rfl, hgb, _⟩
  · omega
  go_wp2_with fail
  go_loopw [23] (fun iv wr => ∃ i : Nat, iv = .int .i64 i ∧ i ≤ k ∧ wr.ownsRow w.heap.size 5 1 (.slice (some ⟨g, 0, none⟩) b.length cap) b.length ((setR b at_ ((le k x).take i)).map bv) ∧ Keep No w wr) (fun iv _ => k - (intOf iv).toNat)
  case atStart => exact ⟨0, rfl, Nat.zero_le _, ho, hK⟩
  case round =>
    clear ho hK
    obtain ⟨i, rfl, hi, ho, hK⟩ := hrel
    rcases Nat.lt_or_ge i k with hlt | hge
    · have hin : at_ + i < b.length := by omega
      have hle := le_len k x
      have htk : (le k x).take (i + 1) = (le k x).take i ++ [UInt8.ofNat (x / 256 ^ i % 256)] := by
        rw [List.take_succ_eq_append_getElem (by omega), le_get k x i hlt]
      have hlen : ((le k x).take i).length = i := by rw [List.length_take]; omega
      have hnx : setR b at_ ((le k x).take (i + 1)) = (setR b at_ ((le k x).take i)).set (at_ + i) (UInt8.ofNat (x / 256 ^ i % 256)) := by rw [htk, setR_snoc, hlen]
      have hsl : (setR b at_ ((le k x).take i)).length = b.length := setR_len _ _ _
      have hc1 : wr.cell? ⟨g, at_ + i, none⟩ = some (bv ((setR b at_ ((le k x).take i))[at_ + i]'(by omega))) := by
        rw [ho.cellAt (at_ + i) (by omega), List.getElem?_map, List.getElem?_eq_getElem (by omega)]
        rfl
      have hfz : wr.frozen? ⟨g, at_ + i, none⟩ = false := ho.frozenAt _
      have ho2 := ho.stored (at_ + i) (bv (UInt8.ofNat (x / 256 ^ i % 256)))
      rw [← List.map_set, ← hnx] at ho2
      have hshr : (x : Int) / 2 ^ (8 * i) = ((x / 256 ^ i : Nat) : Int) := by rw [pow256]; push_cast; rfl
      have hbyte : IntKind.u8.wrap ((x / 256 ^ i : Nat) : Int) = ((UInt8.ofNat (x / 256 ^ i % 256)).toNat : Int) := by
        rw [IntKind.wrap_u8', UInt8.toNat_ofNat', Nat.mod_mod]
        omega
      have hk2 := hK.setCell (p := ⟨g, at_ + i, none⟩) (fun h => absurd h (Nat.not_lt.2 hgb)) (bv (UInt8.ofNat (x / 256 ^ i % 256)))
      unfold bv at hc1 ho2 hk2
      generalize (setR b at_ ((le k x).take i))[at_ + i]'(by omega) = y at *
      have hltz : (i : Int) < (k : Int) := by omega
      have hsum : (at_ : Int) + (i : Int) = ((at_ + i : Nat) : Int) := by omega
      have hinz : ((at_ + i : Nat) : Int) < (b.length : Int) := by omega
      have hatz : (at_ : Int) < 9223372036854775808 := by omega
      have hi8 : (i : Int) ≤ 8 := by omega
      clear hnx htk hsl ho hK
      obtain ⟨j, hj⟩ : ∃ j, j = at_ + i := ⟨_, rfl⟩
      rw [← hj] at hsum hinz hc1 hfz ho2 hk2
      have hjz : (j : Int) < 9223372036854775808 := by omega
      clear hj hin
      generalize UInt8.ofNat (x / 256 ^ i % 256) = z at *
      generalize x / 256 ^ i = q at *
      go_wp2_with fail
      go_roundw
      case rel => exact ⟨i + 1, by go_num, hlt, ho2.1, hk2⟩
      case measure => simp [intOf]; omega
    · obtain rfl : i = k := Nat.le_antisymm hi hge
      rw [List.take_of_length_le (by rw [le_len]; exact Nat.le_refl _)] at ho
      go_wp2_with fail
      go_ret2
      exact ⟨_, rfl, ho, hK⟩
end
end Go.Proofs.Ytbnahidopemkiaa
