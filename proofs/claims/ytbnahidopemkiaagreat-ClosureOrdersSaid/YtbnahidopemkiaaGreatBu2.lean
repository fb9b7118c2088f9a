/- Circles, plainly: a square of truths closed over its middles says who reaches whom; who reaches himself is a circle. The document's names in a row: at; rows of names compared. The document's answer: numbers behind bytes. The document's answer: fill, up, entries. No condition. -/
import Derived.Test.YtbnahidopemkiaaGreatWhN
import Derived.Test.YtbnahidopemkiaaGreatRd
import Derived.Test.YtbnahidopemkiaaGreatIm5
import Derived.BigQuiet
import Derived.Test.YtbnahidopemkiaaGreatIns
import Derived.Test.YtbnahidopemkiaaGreatSigT
set_option linter.unusedVariables false
set_option linter.unusedSimpArgs false
namespace Go.Dm.Ld
open Go
/-- i needs j -/
def E15 (us : List (BS × Im)) (i j : Nat) : Prop := i < us.length ∧ j < us.length ∧ nmAt us j ∈ ndAt us i
inductive Reach (us : List (BS × Im)) : Nat → Nat → Prop
  | one {a b : Nat} (h : E15 us a b) : Reach us a b
  | cat {a b c : Nat} (h : Reach us a c) (k : Reach us c b) : Reach us a b
/-- the same, with middles below k alone -/
inductive Via (us : List (BS × Im)) (k : Nat) : Nat → Nat → Prop
  | one {a b : Nat} (h : E15 us a b) : Via us k a b
  | cat {a b c : Nat} (hc : c < k) (h : Via us k a c) (q : Via us k c b) : Via us k a b
variable {us : List (BS × Im)}
theorem Reach.lt {a b : Nat} (h : Reach us a b) : a < us.length ∧ b < us.length := by
  induction h with
  | one h => exact ⟨h.1, h.2.1⟩
  | cat _ _ h1 h2 => exact ⟨h1.1, h2.2⟩
theorem Via.lt {k a b : Nat} (h : Via us k a b) : a < us.length ∧ b < us.length := by
  induction h with
  | one h => exact ⟨h.1, h.2.1⟩
  | cat _ _ _ h1 h2 => exact ⟨h1.1, h2.2⟩
theorem Via.zero {a b : Nat} (h : Via us 0 a b) : E15 us a b := by
  cases h with
  | one h => exact h
  | cat hc _ _ => exact absurd hc (Nat.not_lt_zero _)
theorem Via.up {k a b : Nat} (h : Via us (k + 1) a b) : Via us k a b ∨ (Via us k a k ∧ Via us k k b) := by
  induction h with
  | one h => exact .inl (.one h)
  | @cat a b c hc _ _ h1 h2 =>
    rcases Nat.lt_or_ge c k with hl | hl
    · rcases h1 with h1 | ⟨h1, h3⟩
      · rcases h2 with h2 | ⟨h2, h4⟩
        · exact .inl (.cat hl h1 h2)
        · exact .inr ⟨.cat hl h1 h2, h4⟩
      · rcases h2 with h2 | ⟨h2, h4⟩
        · exact .inr ⟨h1, .cat hl h3 h2⟩
        · exact .inr ⟨h1, h4⟩
    · obtain rfl : c = k := by omega
      refine .inr ⟨?_, ?_⟩
      · rcases h1 with h1 | ⟨h1, _⟩ <;> exact h1
      · rcases h2 with h2 | ⟨_, h2⟩ <;> exact h2
theorem Reach.via {a b : Nat} (h : Reach us a b) : Via us us.length a b := by
  induction h with
  | one h => exact .one h
  | cat h _ h1 h2 => exact .cat h.lt.2 h1 h2
/-! circles are what strip leaves -/
theorem stuck_le {S T : List BS} (hs : Stuck us S) (hT : ∀ x ∈ S, x ∈ T) : ∀ k, ∀ x ∈ S, x ∈ stripN us k T
  | 0 => hT
  | k + 1 => by
    intro x hx
    rw [stripN_succ]
    have ih := stuck_le hs hT k
    obtain ⟨u, hu, e, n, hn, hs2⟩ := hs x hx
    exact strip_mem.2 ⟨ih x hx, u, hu, e, n, hn, ih n hs2⟩
theorem len_lt {α : Type} {p q : α → Bool} : ∀ (l : List α), (∀ x ∈ l, p x = true → q x = true) → (∃ x ∈ l, q x = true ∧ p x = false) → (l.filter p).length < (l.filter q).length
  | [], _, h => by
    obtain ⟨x, hx, _⟩ := h
    cases hx
  | y :: r, h1, h2 => by
    have hle : (r.filter p).length ≤ (r.filter q).length := by
      have hgo : ∀ l : List α, (∀ x ∈ l, p x = true → q x = true) → (l.filter p).length ≤ (l.filter q).length := fun l => by
        induction l with
        | nil => intro _; exact Nat.le_refl _
        | cons z s ih =>
          intro h
          have ih := ih fun x hx => h x (List.mem_cons_of_mem _ hx)
          rw [List.filter_cons, List.filter_cons]
          cases hp : p z with
          | true =>
            rw [h z (List.mem_cons_self ..) hp]
            simp only [if_true, List.length_cons]
            omega
          | false =>
            cases q z <;> simp <;> omega
      exact hgo r fun x hx => h1 x (List.mem_cons_of_mem _ hx)
    rw [List.filter_cons, List.filter_cons]
    cases hp : p y with
    | true =>
      have hq := h1 y (List.mem_cons_self ..) hp
      rw [hq]
      simp only [if_true, List.length_cons]
      refine Nat.succ_lt_succ (len_lt r (fun x hx => h1 x (List.mem_cons_of_mem _ hx)) ?_)
      obtain ⟨x, hx, h3, h4⟩ := h2
      rcases List.mem_cons.1 hx with rfl | hx
      · rw [hp] at h4; cases h4
      · exact ⟨x, hx, h3, h4⟩
    | false =>
      cases hq : q y with
      | true => simp only [Bool.false_eq_true, if_false, if_true, List.length_cons]; omega
      | false =>
        simp only [Bool.false_eq_true, if_false]
        refine len_lt r (fun x hx => h1 x (List.mem_cons_of_mem _ hx)) ?_
        obtain ⟨x, hx, h3, h4⟩ := h2
        rcases List.mem_cons.1 hx with rfl | hx
        · rw [hq] at h3; cases h3
        · exact ⟨x, hx, h3, h4⟩
theorem nmAt_at {i : Nat} (h : i < us.length) : nmAt us i = us[i].1 := by unfold nmAt; rw [List.getD_eq_getElem?_getD, List.getElem?_eq_getElem h]; rfl
theorem ndAt_at {i : Nat} (h : i < us.length) : ndAt us i = us[i].2.need := by unfold ndAt; rw [List.getD_eq_getElem?_getD, List.getElem?_eq_getElem h]; rfl
theorem nm_inj (hnd : (us.map (·.1)).Nodup) {i j : Nat} (hi : i < us.length) (hj : j < us.length) (h : nmAt us i = nmAt us j) : i = j := by
  rw [nmAt_at hi, nmAt_at hj] at h
  have h1 : (us.map (·.1))[i]'(by rw [List.length_map]; exact hi) = (us.map (·.1))[j]'(by rw [List.length_map]; exact hj) := by rw [List.getElem_map, List.getElem_map]; exact h
  have hp := List.pairwise_iff_getElem.1 hnd
  rcases Nat.lt_trichotomy i j with hl | hl | hl
  · exact absurd h1 (hp i j _ _ hl)
  · exact hl
  · exact absurd h1.symm (hp j i _ _ hl)
theorem cyc_iff (hnd : (us.map (·.1)).Nodup) : cycB us = true ↔ ∃ i, Reach us i i := by
  classical
  have hst : Stuck us (stripN us us.length (us.map (·.1))) := stuck_stripN _ _ (by rw [List.length_map]; exact Nat.le_refl _)
  unfold cycB
  rw [Bool.not_eq_true', List.isEmpty_eq_false_iff]
  constructor
  · intro hne
    have hsub := stripN_sub (us := us) us.length (us.map (·.1))
    generalize stripN us us.length (us.map (·.1)) = S at *
    -- every place of S has a next one in S
    have hnext : ∀ i, i < us.length → nmAt us i ∈ S → ∃ j, E15 us i j ∧ nmAt us j ∈ S := fun i hi hm => by
      obtain ⟨u, hu, e, n, hn, hs⟩ := hst _ hm
      obtain ⟨k, hk, rfl⟩ := List.mem_iff_getElem.1 hu
      obtain rfl : k = i := nm_inj hnd hk hi (by rw [nmAt_at hk]; exact e)
      obtain ⟨v, hv, e2⟩ := List.mem_map.1 (hsub n hs)
      obtain ⟨j, hj, rfl⟩ := List.mem_iff_getElem.1 hv
      refine ⟨j, ⟨hi, hj, ?_⟩, ?_⟩
      · rw [nmAt_at hj, e2, ndAt_at hi]; exact hn
      · rw [nmAt_at hj, e2]; exact hs
    refine Classical.byContradiction fun hno => ?_
    have hno : ∀ i, ¬ Reach us i i := fun i h => hno ⟨i, h⟩
    have hdesc : ∀ (m i : Nat), i < us.length → nmAt us i ∈ S → ((List.range us.length).filter fun j => decide (Reach us i j)).length ≤ m → False := fun m => by
      induction m with
      | zero =>
        intro i hi hm hl
        obtain ⟨j, hj, _⟩ := hnext i hi hm
        have hz := List.eq_nil_of_length_eq_zero (Nat.le_zero.1 hl)
        have : j ∈ ((List.range us.length).filter fun j => decide (Reach us i j)) := List.mem_filter.2 ⟨List.mem_range.2 hj.2.1, decide_eq_true (.one hj)⟩
        rw [hz] at this
        cases this
      | succ m ih =>
        intro i hi hm hl
        obtain ⟨j, hj, hjS⟩ := hnext i hi hm
        refine ih j hj.2.1 hjS ?_
        have hlt := len_lt (p := fun k => decide (Reach us j k)) (q := fun k => decide (Reach us i k)) (List.range us.length) (fun x _ h => decide_eq_true (.cat (.one hj) (of_decide_eq_true h)))
          ⟨j, List.mem_range.2 hj.2.1, decide_eq_true (.one hj), decide_eq_false (hno j)⟩
        omega
    obtain ⟨x, hx⟩ := List.exists_mem_of_ne_nil S hne
    obtain ⟨u, hu, e⟩ := List.mem_map.1 (hsub x hx)
    obtain ⟨i, hi, rfl⟩ := List.mem_iff_getElem.1 hu
    exact hdesc _ i hi (by rw [nmAt_at hi, e]; exact hx) (Nat.le_refl _)
  · rintro ⟨i, hi⟩ he
    -- those on the circle are stuck
    let S := (us.map (·.1)).filter fun x => decide (∃ j, j < us.length ∧ nmAt us j = x ∧ Reach us j i ∧ Reach us i j)
    have hS : Stuck us S := fun x hx => by
      obtain ⟨hx1, hx2⟩ := List.mem_filter.1 hx
      obtain ⟨j, hj, e, h1, h2⟩ := of_decide_eq_true hx2
      have hfirst : ∀ {a b : Nat}, Reach us a b → ∃ c, E15 us a c ∧ (c = b ∨ Reach us c b) := fun h => by
        induction h with
        | one h => exact ⟨_, h, .inl rfl⟩
        | cat _ k h1 _ =>
          obtain ⟨c, hc, hr⟩ := h1
          refine ⟨c, hc, .inr ?_⟩
          rcases hr with rfl | hr
          · exact k
          · exact .cat hr k
      obtain ⟨c, hc, hr⟩ := hfirst h1
      refine ⟨us[j], List.getElem_mem hj, by rw [← nmAt_at hj]; exact e, nmAt us c, by rw [← ndAt_at hj]; exact hc.2.2, ?_⟩
      refine List.mem_filter.2 ⟨?_, decide_eq_true ⟨c, hc.2.1, rfl, ?_, ?_⟩⟩
      · rw [nmAt_at hc.2.1]
        exact List.mem_map.2 ⟨_, List.getElem_mem hc.2.1, rfl⟩
      · rcases hr with rfl | hr
        · exact hi
        · exact hr
      · exact .cat h2 (.one hc)
    have hin : nmAt us i ∈ S := List.mem_filter.2 ⟨by rw [nmAt_at hi.lt.1]; exact List.mem_map.2 ⟨_, List.getElem_mem hi.lt.1, rfl⟩, decide_eq_true ⟨i, hi.lt.1, rfl, hi, hi⟩⟩
    have := stuck_le hS (T := us.map (·.1)) (fun x hx => (List.mem_filter.1 hx).1) us.length _ hin
    rw [he] at this
    cases this
/-! the square -/
def atW (n : Nat) (W : List Bool) (i j : Nat) : Bool := W.getD (i * n + j) false
theorem idx_inj {n a b i j : Nat} (hb : b < n) (hj : j < n) (h : i * n + j = a * n + b) : i = a ∧ j = b := by
  have h1 : (i * n + j) / n = i := by rw [Nat.mul_comm, Nat.mul_add_div (by omega), Nat.div_eq_of_lt hj, Nat.add_zero]
  have h2 : (a * n + b) / n = a := by rw [Nat.mul_comm, Nat.mul_add_div (by omega), Nat.div_eq_of_lt hb, Nat.add_zero]
  have h3 : i = a := by rw [← h1, h, h2]
  subst h3
  exact ⟨rfl, by omega⟩
theorem idx_lt {n i j : Nat} (hi : i < n) (hj : j < n) : i * n + j < n * n := by
  have := Nat.mul_le_mul_right n (show i + 1 ≤ n from hi)
  rw [Nat.add_mul, Nat.one_mul] at this
  omega
theorem atW_set {n : Nat} {W : List Bool} (hW : W.length = n * n) {i j a b : Nat} (hi : i < n) (hj : j < n) (hb : b < n) : atW n (W.set (i * n + j) true) a b = if a = i ∧ b = j then true else atW n W a b := by
  unfold atW
  rw [List.getD_eq_getElem?_getD, List.getD_eq_getElem?_getD, List.getElem?_set]
  by_cases h : i * n + j = a * n + b
  · obtain ⟨rfl, rfl⟩ := idx_inj hb hj h
    rw [if_pos rfl, if_pos (by rw [hW]; exact idx_lt hi hj), if_pos ⟨rfl, rfl⟩]
    rfl
  · rw [if_neg h, if_neg]
    rintro ⟨rfl, rfl⟩
    exact h rfl
/-- the square, while it is filled: row i's first k needs are in -/
structure FillI (us : List (BS × Im)) (W : List Bool) (i k : Nat) : Prop where
  len : W.length = us.length * us.length
  at_ : ∀ a b, a < us.length → b < us.length → (atW us.length W a b = true ↔ E15 us a b ∧ (a < i ∨ a = i ∧ ∃ q, q < k ∧ (ndAt us i)[q]? = some (nmAt us b)))
theorem FillI.init : FillI us (List.replicate (us.length * us.length) false) 0 0 := by
  refine ⟨List.length_replicate, fun a b ha hb => ?_⟩
  unfold atW
  rw [List.getD_eq_getElem?_getD, List.getElem?_replicate, if_pos (idx_lt ha hb)]
  constructor
  · intro h; cases h
  · rintro ⟨_, h | ⟨_, q, hq, _⟩⟩
    · exact absurd h (Nat.not_lt_zero _)
    · exact absurd hq (Nat.not_lt_zero _)
theorem FillI.put {W : List Bool} {i k p : Nat} (h : FillI us W i k) (hnd : (us.map (·.1)).Nodup) (hi : i < us.length) (hp : p < us.length) (hk : (ndAt us i)[k]? = some (nmAt us p)) : FillI us (W.set (i * us.length + p) true) i (k + 1) := by
  refine ⟨by rw [List.length_set]; exact h.len, fun a b ha hb => ?_⟩
  rw [atW_set h.len hi hp hb]
  by_cases hab : a = i ∧ b = p
  · obtain ⟨rfl, rfl⟩ := hab
    rw [if_pos ⟨rfl, rfl⟩]
    exact ⟨fun _ => ⟨⟨ha, hb, List.mem_iff_getElem?.2 ⟨k, hk⟩⟩, .inr ⟨rfl, k, Nat.lt_succ_self _, hk⟩⟩, fun _ => rfl⟩
  · rw [if_neg hab, h.at_ a b ha hb]
    constructor
    · rintro ⟨h1, h2 | ⟨h2, q, h3, h4⟩⟩
      · exact ⟨h1, .inl h2⟩
      · exact ⟨h1, .inr ⟨h2, q, Nat.lt_succ_of_lt h3, h4⟩⟩
    · rintro ⟨h1, h2 | ⟨h2, q, h3, h4⟩⟩
      · exact ⟨h1, .inl h2⟩
      · refine ⟨h1, .inr ⟨h2, q, ?_, h4⟩⟩
        rcases Nat.lt_or_ge q k with hl | hl
        · exact hl
        · obtain rfl : q = k := by omega
          rw [hk] at h4
          exact absurd ⟨h2, (nm_inj hnd hp hb (by injection h4)).symm⟩ hab
theorem FillI.next {W : List Bool} {i k : Nat} (h : FillI us W i k) (hk : (ndAt us i).length ≤ k) : FillI us W (i + 1) 0 := by
  refine ⟨h.len, fun a b ha hb => ?_⟩
  rw [h.at_ a b ha hb]
  constructor
  · rintro ⟨h1, h2⟩
    exact ⟨h1, .inl (by rcases h2 with h2 | ⟨h2, _⟩ <;> omega)⟩
  · rintro ⟨h1, h2 | ⟨_, q, hq, _⟩⟩
    · refine ⟨h1, ?_⟩
      rcases Nat.lt_or_ge a i with hl | hl
      · exact .inl hl
      · obtain rfl : a = i := by omega
        obtain ⟨q, hq⟩ := List.mem_iff_getElem?.1 h1.2.2
        exact .inr ⟨rfl, q, Nat.lt_of_lt_of_le (List.getElem?_eq_some_iff.1 hq).1 hk, hq⟩
    · exact absurd hq (Nat.not_lt_zero _)
/-- the square, while it is closed over its k-th middle: done for rows below i, and of row i below j -/
structure WI (us : List (BS × Im)) (W : List Bool) (k i j : Nat) : Prop where
  len : W.length = us.length * us.length
  sound : ∀ a b, a < us.length → b < us.length → atW us.length W a b = true → Reach us a b
  cmp : ∀ a b, Via us k a b → atW us.length W a b = true
  did : ∀ a b, (a < i ∨ a = i ∧ b < j) → Via us k a k → Via us k k b → atW us.length W a b = true
theorem FillI.start {W : List Bool} (h : FillI us W us.length 0) : WI us W 0 0 0 :=
  ⟨h.len, fun a b ha hb q => .one ((h.at_ a b ha hb).1 q).1, fun a b q => (h.at_ a b q.lt.1 q.lt.2).2 ⟨q.zero, .inl q.lt.1⟩, fun a b q => by omega⟩
theorem WI.yes {W : List Bool} {k i j : Nat} (h : WI us W k i j) (hk : k < us.length) (hi : i < us.length) (hj : j < us.length) (h1 : atW us.length W i k = true) (h2 : atW us.length W k j = true) : WI us (W.set (i * us.length + j) true) k i (j + 1) := by
  have hup : ∀ a b, b < us.length → atW us.length W a b = true → atW us.length (W.set (i * us.length + j) true) a b = true := fun a b hb q => by
    rw [atW_set h.len hi hj hb]
    split
    · rfl
    · exact q
  refine ⟨by rw [List.length_set]; exact h.len, fun a b ha hb q => ?_, fun a b q => hup a b q.lt.2 (h.cmp a b q), fun a b q r s => ?_⟩
  · rw [atW_set h.len hi hj hb] at q
    split at q
    · rename_i e
      obtain ⟨rfl, rfl⟩ := e
      exact .cat (h.sound _ _ ha hk h1) (h.sound _ _ hk hb h2)
    · exact h.sound a b ha hb q
  · by_cases e : a = i ∧ b = j
    · obtain ⟨rfl, rfl⟩ := e
      rw [atW_set h.len hi hj hj, if_pos ⟨rfl, rfl⟩]
    · exact hup a b s.lt.2 (h.did a b (by omega) r s)
theorem WI.no {W : List Bool} {k i j : Nat} (h : WI us W k i j) (h12 : (atW us.length W i k && atW us.length W k j) = false) : WI us W k i (j + 1) := by
  refine ⟨h.len, h.sound, h.cmp, fun a b q r s => ?_⟩
  by_cases e : a = i ∧ b = j
  · obtain ⟨rfl, rfl⟩ := e
    rw [h.cmp _ _ r, h.cmp _ _ s] at h12
    cases h12
  · exact h.did a b (by omega) r s
theorem WI.row {W : List Bool} {k i : Nat} (h : WI us W k i us.length) : WI us W k (i + 1) 0 :=
  ⟨h.len, h.sound, h.cmp, fun a b q r s => h.did a b (by have := s.lt.2; omega) r s⟩
theorem WI.stage {W : List Bool} {k : Nat} (h : WI us W k us.length 0) : WI us W (k + 1) 0 0 :=
  ⟨h.len, h.sound, fun a b q => by
    rcases q.up with q | ⟨q, r⟩
    · exact h.cmp a b q
    · exact h.did a b (.inl q.lt.1) q r, fun a b q => by omega⟩
theorem WI.found {W : List Bool} {k i j a : Nat} (h : WI us W k i j) (hnd : (us.map (·.1)).Nodup) (ha : a < us.length) (q : atW us.length W a a = true) : cycB us = true := (cyc_iff hnd).2 ⟨a, h.sound a a ha ha q⟩
theorem WI.none {W : List Bool} {i j : Nat} (h : WI us W us.length i j) (hnd : (us.map (·.1)).Nodup) (q : ∀ a, a < us.length → atW us.length W a a = false) : cycB us = false := by
  rw [Bool.eq_false_iff]
  intro hc
  obtain ⟨a, ha⟩ := (cyc_iff hnd).1 hc
  have h1 := h.cmp a a ha.via
  rw [q a ha.lt.1] at h1
  cases h1
end Go.Dm.Ld
namespace Go.Dm.Ld
open Go Go.Dm.Oc
def sIdx : List BS → BS → Option Nat
  | [], _ => none
  | s :: r, k => if s = k then some 0 else (sIdx r k).map (· + 1)
def sIdxZ (l : List BS) (k : BS) : Int := match sIdx l k with | some i => (i : Int) | none => -1
theorem sIdx_at {l : List BS} {k : BS} {i : Nat} (hi : i < l.length) (h : l[i] = k) (hno : ∀ j, (hj : j < i) → (l[j]'(by omega)) ≠ k) : sIdx l k = some i := by
  induction l generalizing i with
  | nil => simp at hi
  | cons s r ih =>
    unfold sIdx
    cases i with
    | zero => rw [if_pos (show s = k from h)]
    | succ i =>
      rw [if_neg (show ¬ s = k from hno 0 (Nat.succ_pos _)), ih (by simpa using hi) h fun j hj => hno (j + 1) (by omega)]
      rfl
theorem sIdx_none {l : List BS} {k : BS} (hno : ∀ j, (hj : j < l.length) → l[j] ≠ k) : sIdx l k = none := by
  induction l with
  | nil => rfl
  | cons s r ih =>
    unfold sIdx
    rw [if_neg (show ¬ s = k from hno 0 (Nat.succ_pos _)), ih fun j hj => hno (j + 1) (by simpa using hj)]
    rfl
end Go.Dm.Ld
namespace Go.Proofs.YtbnahidopemkiaaGreat
open Go.RowKit Go.Dm Go.Dm.Oc Go.Dm.Ld
section
variable {A B : Nat → Prop} {w : World} {v v2 : Value}
set_option maxRecDepth 100000 in
theorem r15at_any (l : List BS) (k : BS) (hl : Fl A w 1 encS v l) : Calls Tryz.prog 19 #[v, .string ⟨k.toArray⟩] w fun e w' => e = .returned (.int .i64 (sIdxZ l k)) ∧ w = w' := by
  have HL := Lib.hid hl
  obtain ⟨ao, co, rfl, hc1, hc2⟩ := hl.shape
  have hib : (l.length : Int) ≤ 9223372036854775807 := by unfold maxLen at hc2; omega
  obtain ⟨r, hr⟩ : ∃ r, r = sIdxZ l k := ⟨_, rfl⟩
  rw [← hr]
  have HR := Lib.hid hr
  obtain ⟨n, hn⟩ : ∃ n, n = l.length := ⟨_, rfl⟩
  have HN := Lib.hid hn
  rw [← hn] at hib ⊢
  clear hl hc1 hc2 hr hn
  have h0 : Hid (∀ j (h : j < l.length), j < 0 → l[j] ≠ k) := Lib.hid fun j _ h => absurd h (Nat.not_lt_zero _)
  go_enter Tryz.func19, Tryz.ntmps19
  go_wp2_with fail
  go_loopw [5] (fun iv wr => ∃ i : Nat, iv = .int .i64 (i : Int) ∧ i ≤ n ∧ Hid (∀ j (h : j < l.length), j < i → l[j] ≠ k) ∧ w = wr) (fun iv _ => n - (intOf iv).toNat)
  case atStart => exact ⟨0, rfl, Nat.zero_le _, h0, rfl⟩
  case round =>
    obtain ⟨i, rfl, hi, HM, rfl⟩ := hrel
    clear h0
    rcases Nat.lt_or_ge i n with hlt | hge
    · have hil : i < l.length := by rw [← HN.out]; exact hlt
      obtain ⟨g, off, cap, ev, _, hg, _, _, hc⟩ := HL.out.at (fun _ => rfl) hil
      rw [← HN.out] at ev
      injection ev with e1 e2 e3
      subst e1 e3
      have d0 := hc 0 _ rfl
      have hiz : (i : Int) < (n : Int) := by omega
      have hfi := sIdx_at (k := k) hil
      generalize hs : l[i] = s at *
      have hstep : s ≠ k → ∀ j (h : j < l.length), j < i + 1 → l[j] ≠ k := fun h j hj hj2 => by
        rcases Nat.lt_or_ge j i with h3 | h3
        · exact HM.out j hj h3
        · obtain rfl : j = i := by omega
          rw [hs]
          exact h
      have hfi2 : s = k → r = (i : Int) := fun h => by
        rw [HR.out]
        unfold sIdxZ
        rw [hfi h fun j hj => HM.out j (by omega) hj]
      clear hc hs hfi e2
      rw [Nat.mul_one, Nat.add_zero] at d0
      have HS := Lib.hid hstep
      have HF := Lib.hid hfi2
      clear hstep hfi2
      by_cases h : s = k
      · have hr := HF.out h
        subst hr
        have hq : (s == k) = true := by rw [beq_iff_eq]; exact h
        go_wp2_with fail
        go_ret
        exact ⟨rfl, rfl⟩
      · have hq : (s == k) = false := by rw [beq_eq_false_iff_ne]; exact h
        have HM2 := Lib.hid (HS.out h)
        go_wp2_with fail
        go_roundw
        case rel => exact ⟨i + 1, by go_num, hlt, HM2, trivial⟩
        case measure => simp [intOf]; omega
    · obtain rfl : i = n := Nat.le_antisymm hi hge
      have hr : r = -1 := by
        rw [HR.out]
        unfold sIdxZ
        rw [sIdx_none fun j hj => HM.out j hj (by rw [HN.out]; exact hj)]
      subst hr
      go_wp2_with fail
      go_ret
      exact ⟨rfl, rfl⟩
set_option maxRecDepth 100000 in
theorem r09strs_any (l m : List BS) (hl : Fl A w 1 encS v l) (hm : Fl B w 1 encS v2 m) : Calls Tryz.prog 33 #[v, v2] w fun e w' => e = .returned (.bool (decide (l = m))) ∧ Keep No w w' := by
  have HL := Lib.hid hl
  have HM := Lib.hid hm
  obtain ⟨ao, co, rfl, hc1, hc2⟩ := hl.shape
  obtain ⟨a2, c2, rfl, hc3, hc4⟩ := hm.shape
  have hib : (l.length : Int) ≤ 9223372036854775807 := by unfold maxLen at hc2; omega
  obtain ⟨r, hr⟩ : ∃ r, r = decide (l = m) := ⟨_, rfl⟩
  rw [← hr]
  have HR := Lib.hid hr
  clear hl hm hr hc1 hc2 hc3 hc4
  by_cases hn : l.length = m.length
  · have hb : ((l.length : Int) != (m.length : Int)) = false := by rw [bne_eq_false_iff_eq]; omega
    rw [← hn] at hb ⊢
    have HN2 := Lib.hid hn
    obtain ⟨n, hn1⟩ : ∃ n, n = l.length := ⟨_, rfl⟩
    have HN := Lib.hid hn1
    rw [← hn1] at hb hib ⊢
    clear hn hn1
    have h0 : Hid (l.take 0 = m.take 0) := Lib.hid rfl
    go_enter Tryz.func33, Tryz.ntmps33
    go_wp2_with fail
    go_loopw [5] (fun iv wr => ∃ i : Nat, iv = .int .i64 (i : Int) ∧ i ≤ n ∧ Hid (l.take i = m.take i) ∧ Keep No w wr) (fun iv _ => n - (intOf iv).toNat)
    case atStart => exact ⟨0, rfl, Nat.zero_le _, h0, Keep.refl _ _⟩
    case round =>
      obtain ⟨i, rfl, hi, HT, hk⟩ := hrel
      clear h0
      generalize wr = wz at *
      rcases Nat.lt_or_ge i n with hlt | hge
      · have hil : i < l.length := by rw [← HN.out]; exact hlt
        have him : i < m.length := by rw [← HN2.out]; exact hil
        obtain ⟨g1, o1, p1, ev, _, hg1, _, _, hd1⟩ := (HL.out.no hk).at (fun _ => rfl) hil
        rw [← HN.out] at ev
        injection ev with e1 e2 e3
        subst e1 e3
        obtain ⟨g2, o2, p2, ev, _, hg2, _, _, hd2⟩ := (HM.out.no hk).at (fun _ => rfl) him
        rw [← HN2.out, ← HN.out] at ev
        injection ev with e4 e5 e6
        subst e4 e6
        have d1 := hd1 0 _ rfl
        have d2 := hd2 0 _ rfl
        rw [Nat.mul_one, Nat.add_zero] at d1 d2
        have hiz : (i : Int) < (n : Int) := by omega
        have t1 : l.take (i + 1) = l.take i ++ [l[i]] := List.take_succ_eq_append_getElem hil
        have t2 : m.take (i + 1) = m.take i ++ [m[i]] := List.take_succ_eq_append_getElem him
        have hno : l[i] ≠ m[i] → r = false := fun h => by
          rw [HR.out, decide_eq_false_iff_not]
          intro e
          exact h (by simp only [e])
        have hyes : l[i] = m[i] → l.take (i + 1) = m.take (i + 1) := fun h => by rw [t1, t2, HT.out, h]
        generalize l[i] = x at *
        generalize m[i] = y at *
        have HNO := Lib.hid hno
        have HY := Lib.hid hyes
        clear hd1 hd2 e2 e5 t1 t2 hno hyes
        by_cases h : x = y
        · have hq : (x != y) = false := by rw [bne_eq_false_iff_eq]; exact h
          have HT2 := Lib.hid (HY.out h)
          go_wp2_with fail
          go_quiet (fail)
          go_wp2_with fail
          go_roundw
          case rel => exact ⟨i + 1, by go_num, hlt, HT2, hk.drewN _⟩
          case measure => simp [intOf]; omega
        · have hq : (x != y) = true := by rw [bne_iff_ne]; exact h
          have hq2 : (x == y) = false := by rw [beq_eq_false_iff_ne]; exact h
          have hr := HNO.out h
          subst hr
          go_wp2_with fail
          go_quiet (fail)
          go_wp2_with fail
          go_ret
          exact ⟨rfl, hk.drewN _⟩
      · obtain rfl : i = n := Nat.le_antisymm hi hge
        have hr : r = true := by
          have h := HT.out
          rw [List.take_of_length_le (by rw [← HN.out]; exact Nat.le_refl _), List.take_of_length_le (by rw [← HN2.out, ← HN.out]; exact Nat.le_refl _)] at h
          rw [HR.out, decide_eq_true h]
        subst hr
        go_wp2_with fail
        go_ret
        exact ⟨rfl, hk⟩
  · have hb : ((l.length : Int) != (m.length : Int)) = true := by rw [bne_iff_ne]; omega
    have hr : r = false := by
      rw [HR.out, decide_eq_false_iff_not]
      intro e
      exact hn (by rw [e])
    subst hr
    generalize l.length = n1 at *
    generalize m.length = n2 at *
    go_enter Tryz.func33, Tryz.ntmps33
    go_wp2_with fail
    go_ret
    exact ⟨rfl, Keep.refl _ _⟩
end
end Go.Proofs.YtbnahidopemkiaaGreat
namespace Go.Proofs.YtbnahidopemkiaaGreat
open Go.RowKit Go.Dm Go.Dm.Oc
def e8 (b : UInt8) : List Value := [bv b]
theorem e8_one (b : UInt8) : ∀ u ∈ e8 b, u.oneCell' = true := by
  intro u hu; simp only [e8, List.mem_singleton] at hu; subst hu; rfl
theorem e8_map (l : List UInt8) : l.flatMap e8 = l.map bv := List.map_eq_flatMap.symm
/-- v' is v with bytes put behind it; what else was there stays -/
structure Pushed (base : Nat) (w w' : World) (v v' : Value) (l' : List UInt8) : Prop where
  row : FlO w' base 5 1 e8 v' l'
  kept : Keep (fun j => some j = v.ownBlock) w w'
  own : v'.ownBlock = v.ownBlock ∨ ∃ g, v'.ownBlock = some g ∧ w.heap.size ≤ g
section
variable {base : Nat} {w w1 w2 : World} {v v1 v2 : Value} {l l1 l2 : List UInt8}
theorem Pushed.refl (h : FlO w base 5 1 e8 v l) : Pushed base w w v v l := ⟨h, Keep.refl _ _, .inl rfl⟩
theorem Pushed.trans (h : Pushed base w w1 v v1 l1) (h2 : Pushed base w1 w2 v1 v2 l2) : Pushed base w w2 v v2 l2 := by
  refine ⟨h2.row, h.kept.trans h2.kept fun j hj e => ?_, ?_⟩
  · rcases h.own with e1 | ⟨g, e1, hg⟩
    · rw [e1] at e; exact e
    · rw [e1] at e
      cases e
      omega
  · rcases h2.own with e2 | ⟨g, e2, hg⟩
    · rw [e2]; exact h.own
    · exact .inr ⟨g, e2, Nat.le_trans h.kept.size hg⟩
theorem Pushed.step (h : Pushed base w w1 v v1 l1) (ho : FlO w2 base 5 1 e8 v2 l2) (hk : Keep (fun j => some j = v1.ownBlock) w1 w2) (hn : v2.ownBlock = v1.ownBlock ∨ v2.ownBlock = some (w1.heap.size + 1)) : Pushed base w w2 v v2 l2 :=
  h.trans ⟨ho, hk, hn.imp id fun e => ⟨_, e, Nat.le_succ _⟩⟩
/-- in a row of one's own -/
theorem Pushed.no {w0 : World} (h : Pushed base w w1 v v1 l1) (hb : w0.heap.size ≤ base) (ho : FlO w base 5 1 e8 v l) (hk : Keep No w0 w) : Keep No w0 w1 :=
  hk.trans h.kept fun j hj e => absurd (World.ownsRow.lt ho j e.symm).1 (by omega)
theorem wrapU64 (n : Int) : IntKind.u64.wrap n = n % 18446744073709551616 := by simp [IntKind.wrap, IntKind.bits, IntKind.signed]
theorem le_step {n k q : Nat} {acc all : List UInt8} (hk : k < n) (h : acc ++ le (n - k) q = all) : (acc ++ [UInt8.ofNat (q % 256)]) ++ le (n - (k + 1)) (q / 256) = all := by
  rw [← h, show n - k = (n - (k + 1)) + 1 from by omega]
  rw [List.append_assoc]
  rfl
set_option maxRecDepth 100000 in
set_option maxHeartbeats 4000000 in
theorem r03num_any (x n : Nat) (ho : FlO w base 5 1 e8 v l) (hx : x < 18446744073709551616) (hb : base ≤ w.heap.size)(hn : n ≤ 64) (hl : l.length ≤ 1000000) :
    Calls Tryz.prog 69 #[v, .int .u64 (x : Int), .int .i64 (n : Int)] w fun e w' => ∃ v', e = .returned v' ∧ Pushed base w w' v v' (l ++ le n x) := by
  have HO := Lib.hid ho
  obtain ⟨ao, co, rfl, _, _⟩ := ho.fl.shape
  clear ho
  go_enter Tryz.func69, Tryz.ntmps69
  go_wp2_with fail
  go_loopw [0, 1, 7] (fun ov xv kv wr => ∃ (k q : Nat) (acc : List UInt8), xv = .int .u64 (q : Int) ∧ kv = .int .i64 (k : Int) ∧ k ≤ n ∧ q < 18446744073709551616 ∧ acc.length = l.length + k ∧ Hid (acc ++ le (n - k) q = l ++ le n x) ∧ Pushed base w wr (.slice ao l.length co) ov acc) (fun _ _ kv _ => n - (intOf kv).toNat)
  case atStart => exact ⟨0, x, l, rfl, rfl, Nat.zero_le _, hx, rfl, Lib.hid rfl, Pushed.refl HO.out⟩
  case round =>
    obtain ⟨k, q, acc, rfl, rfl, hk, hq, hal, HA, hP⟩ := hrel
    generalize wr = wy at *
    obtain ⟨a1, c1, e1, _, _⟩ := hP.row.fl.shape
    subst e1
    rcases Nat.lt_or_ge k n with hlt | hge
    · have hkz : (k : Int) < (n : Int) := by omega
      have HL := Lib.hid hal
      have hs := hP.kept.size
      clear hal
      go_wp2_with (at_builtin; refine wl_append rfl _ _ _ _ rfl _ _ rfl rfl ?_)
      have hbv : Value.int .u8 ((q : Int) % 256) = bv (UInt8.ofNat (q % 256)) := by
        unfold bv
        rw [UInt8.toNat_ofNat', Nat.mod_mod]
        rfl
      rw [hbv]
      refine rg_push (w := wy) (cs := #[bv (UInt8.ofNat (q % 256))]) (enc := e8) (x := UInt8.ofNat (q % 256)) (l := acc) (base := base) _ 1 Tryz.underlying24 o_info rfl (by decide) rfl rfl (e8_one _) hP.row (by rw [HL.out]; omega) (by decide) (by omega) ?_
      intro v4 w4 ho4 hk4 hb4
      have hP4 := hP.step ho4 hk4 hb4
      have HA4 := Lib.hid (le_step hlt HA.out)
      obtain ⟨a4, n4, c4, rfl⟩ : ∃ a n c, v4 = .slice a n c := by
        obtain ⟨a, c, e, _⟩ := ho4.fl.shape
        exact ⟨_, _, _, e⟩
      clear hbv ho4 hk4 hb4 hP hs
      have hq2 : IntKind.u64.wrap ((q : Int).tdiv 256) = ((q / 256 : Nat) : Int) := by
        rw [Int.tdiv_eq_ediv_of_nonneg (by omega), wrapU64, Int.natCast_ediv]
        omega
      go_wp2_with fail
      go_roundw
      case rel => exact ⟨k + 1, q / 256, _, by go_num, by go_num, hlt, by omega, by rw [List.length_append, HL.out]; rfl, HA4, hP4⟩
      case measure => simp [intOf]; omega
    · obtain rfl : k = n := Nat.le_antisymm hk hge
      have hA := HA.out
      rw [Nat.sub_self] at hA
      have hA : acc ++ [] = l ++ le _ x := hA
      rw [List.append_nil] at hA
      subst hA
      clear hal HA
      go_wp2_with fail
      go_ret
      exact ⟨_, rfl, hP⟩
set_option maxRecDepth 100000 in
set_option maxHeartbeats 4000000 in
theorem r04eight_any (x n : Nat) (ho : FlO w base 5 1 e8 v l) (hx : x < 18446744073709551616) (hb : base ≤ w.heap.size)(hn : n ≤ 64) (hl : l.length ≤ 1000000) :
    Calls Tryz.prog 70 #[v, .int .u64 (x : Int), .int .i64 (n : Int)] w fun e w' => ∃ v', e = .returned v' ∧ Pushed base w w' v v' (l ++ le n x) := by
  have HO := Lib.hid ho
  obtain ⟨ao, co, rfl, _, _⟩ := ho.fl.shape
  clear ho
  go_enter Tryz.func70, Tryz.ntmps70
  go_wp2_with fail
  go_loopw [0, 1, 7] (fun ov xv kv wr => ∃ (k q : Nat) (acc : List UInt8), xv = .int .u64 (q : Int) ∧ kv = .int .i64 (k : Int) ∧ k ≤ n ∧ q < 18446744073709551616 ∧ acc.length = l.length + k ∧ Hid (acc ++ le (n - k) q = l ++ le n x) ∧ Pushed base w wr (.slice ao l.length co) ov acc) (fun _ _ kv _ => n - (intOf kv).toNat)
  case atStart => exact ⟨0, x, l, rfl, rfl, Nat.zero_le _, hx, rfl, Lib.hid rfl, Pushed.refl HO.out⟩
  case round =>
    obtain ⟨k, q, acc, rfl, rfl, hk, hq, hal, HA, hP⟩ := hrel
    generalize wr = wy at *
    obtain ⟨a1, c1, e1, _, _⟩ := hP.row.fl.shape
    subst e1
    rcases Nat.lt_or_ge k n with hlt | hge
    · have hkz : (k : Int) < (n : Int) := by omega
      have HL := Lib.hid hal
      have hs := hP.kept.size
      clear hal
      go_wp2_with (at_builtin; refine wl_append rfl _ _ _ _ rfl _ _ rfl rfl ?_)
      have hbv : Value.int .u8 ((q : Int) % 256) = bv (UInt8.ofNat (q % 256)) := by
        unfold bv
        rw [UInt8.toNat_ofNat', Nat.mod_mod]
        rfl
      rw [hbv]
      refine rg_push (w := wy) (cs := #[bv (UInt8.ofNat (q % 256))]) (enc := e8) (x := UInt8.ofNat (q % 256)) (l := acc) (base := base) _ 1 Tryz.underlying24 o_info rfl (by decide) rfl rfl (e8_one _) hP.row (by rw [HL.out]; omega) (by decide) (by omega) ?_
      intro v4 w4 ho4 hk4 hb4
      have hP4 := hP.step ho4 hk4 hb4
      have HA4 := Lib.hid (le_step hlt HA.out)
      obtain ⟨a4, n4, c4, rfl⟩ : ∃ a n c, v4 = .slice a n c := by
        obtain ⟨a, c, e, _⟩ := ho4.fl.shape
        exact ⟨_, _, _, e⟩
      clear hbv ho4 hk4 hb4 hP hs
      have hq2 : IntKind.u64.wrap ((q : Int).tdiv 256) = ((q / 256 : Nat) : Int) := by
        rw [Int.tdiv_eq_ediv_of_nonneg (by omega), wrapU64, Int.natCast_ediv]
        omega
      go_wp2_with fail
      go_roundw
      case rel => exact ⟨k + 1, q / 256, _, by go_num, by go_num, hlt, by omega, by rw [List.length_append, HL.out]; rfl, HA4, hP4⟩
      case measure => simp [intOf]; omega
    · obtain rfl : k = n := Nat.le_antisymm hk hge
      have hA := HA.out
      rw [Nat.sub_self] at hA
      have hA : acc ++ [] = l ++ le _ x := hA
      rw [List.append_nil] at hA
      subst hA
      clear hal HA
      go_wp2_with fail
      go_ret
      exact ⟨_, rfl, hP⟩
set_option maxRecDepth 100000 in
set_option maxHeartbeats 4000000 in
theorem r06num_any (x n : Nat) (ho : FlO w base 5 1 e8 v l) (hx : x < 18446744073709551616) (hb : base ≤ w.heap.size)(hn : n ≤ 64) (hl : l.length ≤ 1000000) :
    Calls Tryz.prog 71 #[v, .int .u64 (x : Int), .int .i64 (n : Int)] w fun e w' => ∃ v', e = .returned v' ∧ Pushed base w w' v v' (l ++ le n x) := by
  have HO := Lib.hid ho
  obtain ⟨ao, co, rfl, _, _⟩ := ho.fl.shape
  clear ho
  go_enter Tryz.func71, Tryz.ntmps71
  go_wp2_with fail
  go_loopw [0, 1, 7] (fun ov xv kv wr => ∃ (k q : Nat) (acc : List UInt8), xv = .int .u64 (q : Int) ∧ kv = .int .i64 (k : Int) ∧ k ≤ n ∧ q < 18446744073709551616 ∧ acc.length = l.length + k ∧ Hid (acc ++ le (n - k) q = l ++ le n x) ∧ Pushed base w wr (.slice ao l.length co) ov acc) (fun _ _ kv _ => n - (intOf kv).toNat)
  case atStart => exact ⟨0, x, l, rfl, rfl, Nat.zero_le _, hx, rfl, Lib.hid rfl, Pushed.refl HO.out⟩
  case round =>
    obtain ⟨k, q, acc, rfl, rfl, hk, hq, hal, HA, hP⟩ := hrel
    generalize wr = wy at *
    obtain ⟨a1, c1, e1, _, _⟩ := hP.row.fl.shape
    subst e1
    rcases Nat.lt_or_ge k n with hlt | hge
    · have hkz : (k : Int) < (n : Int) := by omega
      have HL := Lib.hid hal
      have hs := hP.kept.size
      clear hal
      go_wp2_with (at_builtin; refine wl_append rfl _ _ _ _ rfl _ _ rfl rfl ?_)
      have hbv : Value.int .u8 ((q : Int) % 256) = bv (UInt8.ofNat (q % 256)) := by
        unfold bv
        rw [UInt8.toNat_ofNat', Nat.mod_mod]
        rfl
      rw [hbv]
      refine rg_push (w := wy) (cs := #[bv (UInt8.ofNat (q % 256))]) (enc := e8) (x := UInt8.ofNat (q % 256)) (l := acc) (base := base) _ 1 Tryz.underlying24 o_info rfl (by decide) rfl rfl (e8_one _) hP.row (by rw [HL.out]; omega) (by decide) (by omega) ?_
      intro v4 w4 ho4 hk4 hb4
      have hP4 := hP.step ho4 hk4 hb4
      have HA4 := Lib.hid (le_step hlt HA.out)
      obtain ⟨a4, n4, c4, rfl⟩ : ∃ a n c, v4 = .slice a n c := by
        obtain ⟨a, c, e, _⟩ := ho4.fl.shape
        exact ⟨_, _, _, e⟩
      clear hbv ho4 hk4 hb4 hP hs
      have hq2 : IntKind.u64.wrap ((q : Int).tdiv 256) = ((q / 256 : Nat) : Int) := by
        rw [Int.tdiv_eq_ediv_of_nonneg (by omega), wrapU64, Int.natCast_ediv]
        omega
      go_wp2_with fail
      go_roundw
      case rel => exact ⟨k + 1, q / 256, _, by go_num, by go_num, hlt, by omega, by rw [List.length_append, HL.out]; rfl, HA4, hP4⟩
      case measure => simp [intOf]; omega
    · obtain rfl : k = n := Nat.le_antisymm hk hge
      have hA := HA.out
      rw [Nat.sub_self] at hA
      have hA : acc ++ [] = l ++ le _ x := hA
      rw [List.append_nil] at hA
      subst hA
      clear hal HA
      go_wp2_with fail
      go_ret
      exact ⟨_, rfl, hP⟩
set_option maxRecDepth 100000 in
set_option maxHeartbeats 4000000 in
theorem r07eight_any (x : Nat) (ho : FlO w base 5 1 e8 v l) (hx : x < 18446744073709551616) (hb : base ≤ w.heap.size) (hl : l.length ≤ 1000000) :
    Calls Tryz.prog 72 #[v, .int .u64 (x : Int)] w fun e w' => ∃ v', e = .returned v' ∧ Pushed base w w' v v' (l ++ le 8 x) := by
  have HO := Lib.hid ho
  obtain ⟨ao, co, rfl, _, _⟩ := ho.fl.shape
  clear ho
  go_enter Tryz.func72, Tryz.ntmps72
  go_wp2_with fail
  go_loopw [0, 1, 5] (fun ov xv kv wr => ∃ (k q : Nat) (acc : List UInt8), xv = .int .u64 (q : Int) ∧ kv = .int .i64 (k : Int) ∧ k ≤ 8 ∧ q < 18446744073709551616 ∧ acc.length = l.length + k ∧ Hid (acc ++ le (8 - k) q = l ++ le 8 x) ∧ Pushed base w wr (.slice ao l.length co) ov acc) (fun _ _ kv _ => 8 - (intOf kv).toNat)
  case atStart => exact ⟨0, x, l, rfl, rfl, Nat.zero_le _, hx, rfl, Lib.hid rfl, Pushed.refl HO.out⟩
  case round =>
    obtain ⟨k, q, acc, rfl, rfl, hk, hq, hal, HA, hP⟩ := hrel
    generalize wr = wy at *
    obtain ⟨a1, c1, e1, _, _⟩ := hP.row.fl.shape
    subst e1
    rcases Nat.lt_or_ge k 8 with hlt | hge
    · have hkz : (k : Int) < (8 : Int) := by omega
      have HL := Lib.hid hal
      have hs := hP.kept.size
      clear hal
      go_wp2_with (at_builtin; refine wl_append rfl _ _ _ _ rfl _ _ rfl rfl ?_)
      have hbv : Value.int .u8 ((q : Int) % 256) = bv (UInt8.ofNat (q % 256)) := by
        unfold bv
        rw [UInt8.toNat_ofNat', Nat.mod_mod]
        rfl
      rw [hbv]
      refine rg_push (w := wy) (cs := #[bv (UInt8.ofNat (q % 256))]) (enc := e8) (x := UInt8.ofNat (q % 256)) (l := acc) (base := base) _ 1 Tryz.underlying24 o_info rfl (by decide) rfl rfl (e8_one _) hP.row (by rw [HL.out]; omega) (by decide) (by omega) ?_
      intro v4 w4 ho4 hk4 hb4
      have hP4 := hP.step ho4 hk4 hb4
      have HA4 := Lib.hid (le_step hlt HA.out)
      obtain ⟨a4, n4, c4, rfl⟩ : ∃ a n c, v4 = .slice a n c := by
        obtain ⟨a, c, e, _⟩ := ho4.fl.shape
        exact ⟨_, _, _, e⟩
      clear hbv ho4 hk4 hb4 hP hs
      have hq2 : IntKind.u64.wrap ((q : Int).tdiv 256) = ((q / 256 : Nat) : Int) := by
        rw [Int.tdiv_eq_ediv_of_nonneg (by omega), wrapU64, Int.natCast_ediv]
        omega
      go_wp2_with fail
      go_roundw
      case rel => exact ⟨k + 1, q / 256, _, by go_num, by go_num, hlt, by omega, by rw [List.length_append, HL.out]; rfl, HA4, hP4⟩
      case measure => simp [intOf]; omega
    · obtain rfl : k = 8 := Nat.le_antisymm hk hge
      have hA := HA.out
      rw [Nat.sub_self] at hA
      have hA : acc ++ [] = l ++ le _ x := hA
      rw [List.append_nil] at hA
      subst hA
      clear hal HA
      go_wp2_with fail
      go_ret
      exact ⟨_, rfl, hP⟩
end
end Go.Proofs.YtbnahidopemkiaaGreat
namespace Go.Dm.Ld
open Go Go.Dm.Oc
/-- bytes up to a multiple -/
def padM (l : BS) (n : Nat) : BS := l ++ List.replicate ((n - l.length % n) % n) 0
def upM (x n : Nat) : Nat := (x + n - 1) / n * n
end Go.Dm.Ld
namespace Go.Proofs.YtbnahidopemkiaaGreat
open Go.RowKit Go.Dm Go.Dm.Oc Go.Dm.Ld
section
variable {base : Nat} {w w1 w2 : World} {v v1 v2 : Value} {l l1 l2 : List UInt8}
theorem pad_done {l : List UInt8} {n : Nat} (h : l.length % n = 0) : padM l n = l := by
  unfold padM
  rw [h, Nat.sub_zero, Nat.mod_self]
  simp
theorem pad_step {l : List UInt8} {n : Nat} (hn : 0 < n) (h : l.length % n ≠ 0) : padM (l ++ [0]) n = padM l n := by
  unfold padM
  rw [List.length_append, List.append_assoc]
  have h1 := Nat.mod_lt l.length hn
  have e : (n - l.length % n) % n = (n - (l.length + 1) % n) % n + 1 := by
    rw [Nat.mod_eq_of_lt (show n - l.length % n < n by omega)]
    rcases Nat.lt_or_ge (l.length % n + 1) n with h2 | h2
    · have e2 : (l.length + 1) % n = l.length % n + 1 := by
        rw [Nat.add_mod, Nat.mod_eq_of_lt (show 1 < n by omega), Nat.mod_eq_of_lt h2]
      rw [e2, Nat.mod_eq_of_lt (show n - (l.length % n + 1) < n by omega)]
      omega
    · have e3 : l.length % n + 1 = n := by omega
      have e2 : (l.length + 1) % n = 0 := by
        rw [Nat.add_mod]
        rcases Nat.eq_or_lt_of_le (show 1 ≤ n from hn) with h4 | h4
        · rw [← h4]; exact Nat.mod_one _
        · rw [Nat.mod_eq_of_lt h4, e3, Nat.mod_self]
      rw [e2, Nat.sub_zero, Nat.mod_self]
      omega
  rw [e]
  simp only [List.length_cons, List.length_nil]
  rw [List.replicate_succ]
  rfl
theorem pad_len (l : List UInt8) (n : Nat) : (padM l n).length = l.length + (n - l.length % n) % n := by
  unfold padM
  rw [List.length_append, List.length_replicate]
set_option maxRecDepth 100000 in
set_option maxHeartbeats 4000000 in
theorem r09fill_any (n : Nat) (ho : FlO w base 5 1 e8 v l) (hb : base ≤ w.heap.size) (hn0 : 0 < n) (hn : n ≤ 4096) (hl : l.length ≤ 100000000) :
    Calls Tryz.prog 40 #[v, .int .i64 (n : Int)] w fun e w' => ∃ v', e = .returned v' ∧ Pushed base w w' v v' (padM l n) := by
  have HO := Lib.hid ho
  obtain ⟨ao, co, rfl, _, _⟩ := ho.fl.shape
  clear ho
  go_enter Tryz.func40, Tryz.ntmps40
  go_wp2_with fail
  go_loopw [0] (fun ov wr => ∃ acc : List UInt8, Hid (padM acc n = padM l n) ∧ Pushed base w wr (.slice ao l.length co) ov acc) (fun ov _ => match ov with | .slice _ k _ => (n - k % n) % n | _ => 0)
  case atStart => exact ⟨l, Lib.hid rfl, Pushed.refl HO.out⟩
  case round =>
    obtain ⟨acc, HA, hP⟩ := hrel
    generalize wr = wy at *
    obtain ⟨a1, c1, e1, _, _⟩ := hP.row.fl.shape
    subst e1
    have hs := hP.kept.size
    have hal : acc.length ≤ l.length + n := by
      have h1 := pad_len acc n
      have h2 := pad_len l n
      have h3 := Nat.mod_lt (n - l.length % n) hn0
      rw [HA.out] at h1
      omega
    have htm : ((acc.length : Int)).tmod (n : Int) = ((acc.length % n : Nat) : Int) := by
      rw [Int.tmod_eq_emod_of_nonneg (by omega)]; push_cast; rfl
    have hn00 : ((n : Int) == 0) = false := by rw [beq_eq_false_iff_ne]; omega
    have hnz : (n : Int) ≠ 0 := by omega
    have hr1 := Nat.mod_lt acc.length hn0
    have hrb : acc.length % n < 4096 := Nat.lt_of_lt_of_le hr1 hn
    have hwr : wrap64 ((acc.length % n : Nat) : Int) = ((acc.length % n : Nat) : Int) := by
      generalize acc.length % n = r at *
      clear htm hr1 hal
      unfold wrap64
      have : r < 4096 := hrb
      clear hrb
      omega
    rcases Nat.eq_zero_or_pos (acc.length % n) with hz | hz
    · have hpd := pad_done hz
      rw [HA.out] at hpd
      subst hpd
      rw [hz] at htm
      clear hwr hr1 HA hrb
      go_wp2_with fail
      go_ret
      exact ⟨_, rfl, hP⟩
    · have hst := pad_step (l := acc) hn0 (Nat.pos_iff_ne_zero.1 hz)
      have h1 := pad_len (acc ++ [0]) n
      have h2 := pad_len acc n
      rw [hst, List.length_append] at h1
      simp only [List.length_cons, List.length_nil] at h1
      have hmeas : (n - (acc.length + 1) % n) % n < (n - acc.length % n) % n := by
        revert h1 h2
        generalize (n - (acc.length + 1) % n) % n = p1
        generalize (n - acc.length % n) % n = p2
        generalize (padM acc n).length = p3
        intro h1 h2
        clear hal htm hr1 hrb hwr hz
        omega
      have HM := Lib.hid hmeas
      have HS := Lib.hid hst
      have hnz2 : (((acc.length % n : Nat) : Int) != 0) = true := by
        rw [bne_iff_ne]
        exact fun h => Nat.pos_iff_ne_zero.1 hz (Int.ofNat.inj h)
      clear h1 h2 hmeas hst hz
      generalize hr : acc.length % n = r at *
      have HRR := Lib.hid hr
      clear hr
      go_wp2_with (at_builtin; refine wl_append rfl _ _ _ _ rfl _ _ rfl rfl ?_)
      refine rg_push (w := wy) (cs := #[bv 0]) (enc := e8) (x := 0) (l := acc) (base := base) _ 1 Tryz.underlying24 o_info rfl (by decide) rfl rfl (e8_one _) hP.row (by omega) (by decide) (by omega) ?_
      intro v4 w4 ho4 hk4 hb4
      have hP4 := hP.step ho4 hk4 hb4
      obtain ⟨a4, c4, e4, _, _⟩ := ho4.fl.shape
      obtain ⟨n4, hn4⟩ : ∃ n4, n4 = (acc ++ [0]).length := ⟨_, rfl⟩
      rw [← hn4] at e4
      subst e4
      have HN4 := Lib.hid hn4
      clear hn4
      clear ho4 hk4 hb4 hP hs
      go_wp2_with fail
      go_roundw
      case rel => exact ⟨_, Lib.hid (HS.out.trans HA.out), hP4⟩
      case measure =>
        have h := HN4.out
        rw [List.length_append] at h
        show (n - n4 % n) % n < (n - acc.length % n) % n
        rw [h, HRR.out]
        exact HM.out
set_option maxHeartbeats 1000000 in
theorem r09up_any (x n : Nat) (h : x + n < 18446744073709551616) (hn : 0 < n) :
    Calls Tryz.prog 37 #[.int .u64 (x : Int), .int .u64 (n : Int)] w fun e w' => e = .returned (.int .u64 (upM x n : Int)) ∧ w' = w := by
  have hnz : ((n : Int) == 0) = false := by rw [beq_eq_false_iff_ne]; omega
  have hn0 : (n : Int) ≠ 0 := by omega
  have e1 : IntKind.u64.wrap ((x : Int) + n) = ((x + n : Nat) : Int) := by rw [wrapU64]; omega
  have e2 : IntKind.u64.wrap (((x + n : Nat) : Int) - 1) = ((x + n - 1 : Nat) : Int) := by rw [wrapU64]; omega
  have hle : (x + n - 1) / n * n ≤ x + n - 1 := Nat.div_mul_le_self _ _
  have hle2 : (x + n - 1) / n ≤ x + n - 1 := Nat.div_le_self _ _
  have e3 : IntKind.u64.wrap (((x + n - 1 : Nat) : Int).tdiv (n : Int)) = (((x + n - 1) / n : Nat) : Int) := by
    rw [Int.tdiv_eq_ediv_of_nonneg (by omega), wrapU64, ← Int.natCast_ediv]
    generalize (x + n - 1) / n = q at *
    omega
  have e4 : IntKind.u64.wrap ((((x + n - 1) / n : Nat) : Int) * (n : Int)) = (upM x n : Int) := by
    rw [wrapU64, ← Int.natCast_mul]
    unfold upM
    generalize (x + n - 1) / n * n = z at *
    omega
  have e5 : IntKind.u64.wrap (((x + n - 1 : Nat) : Int) / (n : Int)) = (((x + n - 1) / n : Nat) : Int) := by
    rw [wrapU64, ← Int.natCast_ediv]
    generalize (x + n - 1) / n = q at *
    omega
  generalize upM x n = y at *
  generalize (x + n - 1) / n = q at *
  generalize x + n - 1 = p at *
  generalize x + n = s at *
  go_enter Tryz.func37, Tryz.ntmps37
  go_wp2_with fail
  go_ret
  exact ⟨rfl, rfl⟩
end
end Go.Proofs.YtbnahidopemkiaaGreat
