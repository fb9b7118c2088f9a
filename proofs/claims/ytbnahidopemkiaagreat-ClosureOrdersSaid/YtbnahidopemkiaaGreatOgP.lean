/- Circles, plainly: a square of truths closed over its middles says who reaches whom; who reaches himself is a circle. No condition. -/
import Derived.Test.YtbnahidopemkiaaGreatClN
import Derived.Test.YtbnahidopemkiaaGreatWhN
set_option linter.unusedVariables false
set_option linter.unusedSimpArgs false
namespace Go.Dm.Ld
open Go
/-- i needs j -/
def E15 (us : List (BS × Im)) (i j : Nat) : Prop := i < us.length ∧ j < us.length ∧ nmAt us j ∈ ndAt us i
inductive Reach (us : List (BS × Im)) : Nat → Nat → Prop
  | one {a b : Nat} (h : E15 us a b) : Reach us a b
  | cat {a b c : Nat} (h : Reach us a c) (k : Reach us c b) : Reach us a b
/-- the same, with middles below k alone -/
inductive Via (us : List (BS × Im)) (k : Nat) : Nat → Nat → Prop
  | one {a b : Nat} (h : E15 us a b) : Via us k a b
  | cat {a b c : Nat} (hc : c < k) (h : Via us k a c) (q : Via us k c b) : Via us k a b
variable {us : List (BS × Im)}
theorem Reach.lt {a b : Nat} (h : Reach us a b) : a < us.length ∧ b < us.length := by
  induction h with
  | one h => exact ⟨h.1, h.2.1⟩
  | cat _ _ h1 h2 => exact ⟨h1.1, h2.2⟩
theorem Via.lt {k a b : Nat} (h : Via us k a b) : a < us.length ∧ b < us.length := by
  induction h with
  | one h => exact ⟨h.1, h.2.1⟩
  | cat _ _ _ h1 h2 => exact ⟨h1.1, h2.2⟩
theorem Via.zero {a b : Nat} (h : Via us 0 a b) : E15 us a b := by
  cases h with
  | one h => exact h
  | cat hc _ _ => exact absurd hc (Nat.not_lt_zero _)
theorem Via.up {k a b : Nat} (h : Via us (k + 1) a b) : Via us k a b ∨ (Via us k a k ∧ Via us k k b) := by
  induction h with
  | one h => exact .inl (.one h)
  | @cat a b c hc _ _ h1 h2 =>
    rcases Nat.lt_or_ge c k with hl | hl
    · rcases h1 with h1 | ⟨h1, h3⟩
      · rcases h2 with h2 | ⟨h2, h4⟩
        · exact .inl (.cat hl h1 h2)
        · exact .inr ⟨.cat hl h1 h2, h4⟩
      · rcases h2 with h2 | ⟨h2, h4⟩
        · exact .inr ⟨h1, .cat hl h3 h2⟩
        · exact .inr ⟨h1, h4⟩
    · obtain rfl : c = k := by omega
      refine .inr ⟨?_, ?_⟩
      · rcases h1 with h1 | ⟨h1, _⟩ <;> exact h1
      · rcases h2 with h2 | ⟨_, h2⟩ <;> exact h2
theorem Reach.via {a b : Nat} (h : Reach us a b) : Via us us.length a b := by
  induction h with
  | one h => exact .one h
  | cat h _ h1 h2 => exact .cat h.lt.2 h1 h2
/-! circles are what strip leaves -/
theorem stuck_le {S T : List BS} (hs : Stuck us S) (hT : ∀ x ∈ S, x ∈ T) : ∀ k, ∀ x ∈ S, x ∈ stripN us k T
  | 0 => hT
  | k + 1 => by
    intro x hx
    rw [stripN_succ]
    have ih := stuck_le hs hT k
    obtain ⟨u, hu, e, n, hn, hs2⟩ := hs x hx
    exact strip_mem.2 ⟨ih x hx, u, hu, e, n, hn, ih n hs2⟩
theorem len_lt {α : Type} {p q : α → Bool} : ∀ (l : List α), (∀ x ∈ l, p x = true → q x = true) → (∃ x ∈ l, q x = true ∧ p x = false) → (l.filter p).length < (l.filter q).length
  | [], _, h => by
    obtain ⟨x, hx, _⟩ := h
    cases hx
  | y :: r, h1, h2 => by
    have hle : (r.filter p).length ≤ (r.filter q).length := by
      have hgo : ∀ l : List α, (∀ x ∈ l, p x = true → q x = true) → (l.filter p).length ≤ (l.filter q).length := fun l => by
        induction l with
        | nil => intro _; exact Nat.le_refl _
        | cons z s ih =>
          intro h
          have ih := ih fun x hx => h x (List.mem_cons_of_mem _ hx)
          rw [List.filter_cons, List.filter_cons]
          cases hp : p z with
          | true =>
            rw [h z (List.mem_cons_self ..) hp]
            simp only [if_true, List.length_cons]
            omega
          | false =>
            cases q z <;> simp <;> omega
      exact hgo r fun x hx => h1 x (List.mem_cons_of_mem _ hx)
    rw [List.filter_cons, List.filter_cons]
    cases hp : p y with
    | true =>
      have hq := h1 y (List.mem_cons_self ..) hp
      rw [hq]
      simp only [if_true, List.length_cons]
      refine Nat.succ_lt_succ (len_lt r (fun x hx => h1 x (List.mem_cons_of_mem _ hx)) ?_)
      obtain ⟨x, hx, h3, h4⟩ := h2
      rcases List.mem_cons.1 hx with rfl | hx
      · rw [hp] at h4; cases h4
      · exact ⟨x, hx, h3, h4⟩
    | false =>
      cases hq : q y with
      | true => simp only [Bool.false_eq_true, if_false, if_true, List.length_cons]; omega
      | false =>
        simp only [Bool.false_eq_true, if_false]
        refine len_lt r (fun x hx => h1 x (List.mem_cons_of_mem _ hx)) ?_
        obtain ⟨x, hx, h3, h4⟩ := h2
        rcases List.mem_cons.1 hx with rfl | hx
        · rw [hq] at h3; cases h3
        · exact ⟨x, hx, h3, h4⟩
theorem nmAt_at {i : Nat} (h : i < us.length) : nmAt us i = us[i].1 := by unfold nmAt; rw [List.getD_eq_getElem?_getD, List.getElem?_eq_getElem h]; rfl
theorem ndAt_at {i : Nat} (h : i < us.length) : ndAt us i = us[i].2.need := by unfold ndAt; rw [List.getD_eq_getElem?_getD, List.getElem?_eq_getElem h]; rfl
theorem nm_inj (hnd : (us.map (·.1)).Nodup) {i j : Nat} (hi : i < us.length) (hj : j < us.length) (h : nmAt us i = nmAt us j) : i = j := by
  rw [nmAt_at hi, nmAt_at hj] at h
  have h1 : (us.map (·.1))[i]'(by rw [List.length_map]; exact hi) = (us.map (·.1))[j]'(by rw [List.length_map]; exact hj) := by rw [List.getElem_map, List.getElem_map]; exact h
  have hp := List.pairwise_iff_getElem.1 hnd
  rcases Nat.lt_trichotomy i j with hl | hl | hl
  · exact absurd h1 (hp i j _ _ hl)
  · exact hl
  · exact absurd h1.symm (hp j i _ _ hl)
theorem cyc_iff (hnd : (us.map (·.1)).Nodup) : cycB us = true ↔ ∃ i, Reach us i i := by
  classical
  have hst : Stuck us (stripN us us.length (us.map (·.1))) := stuck_stripN _ _ (by rw [List.length_map]; exact Nat.le_refl _)
  unfold cycB
  rw [Bool.not_eq_true', List.isEmpty_eq_false_iff]
  constructor
  · intro hne
    have hsub := stripN_sub (us := us) us.length (us.map (·.1))
    generalize stripN us us.length (us.map (·.1)) = S at *
    -- every place of S has a next one in S
    have hnext : ∀ i, i < us.length → nmAt us i ∈ S → ∃ j, E15 us i j ∧ nmAt us j ∈ S := fun i hi hm => by
      obtain ⟨u, hu, e, n, hn, hs⟩ := hst _ hm
      obtain ⟨k, hk, rfl⟩ := List.mem_iff_getElem.1 hu
      obtain rfl : k = i := nm_inj hnd hk hi (by rw [nmAt_at hk]; exact e)
      obtain ⟨v, hv, e2⟩ := List.mem_map.1 (hsub n hs)
      obtain ⟨j, hj, rfl⟩ := List.mem_iff_getElem.1 hv
      refine ⟨j, ⟨hi, hj, ?_⟩, ?_⟩
      · rw [nmAt_at hj, e2, ndAt_at hi]; exact hn
      · rw [nmAt_at hj, e2]; exact hs
    refine Classical.byContradiction fun hno => ?_
    have hno : ∀ i, ¬ Reach us i i := fun i h => hno ⟨i, h⟩
    have hdesc : ∀ (m i : Nat), i < us.length → nmAt us i ∈ S → ((List.range us.length).filter fun j => decide (Reach us i j)).length ≤ m → False := fun m => by
      induction m with
      | zero =>
        intro i hi hm hl
        obtain ⟨j, hj, _⟩ := hnext i hi hm
        have hz := List.eq_nil_of_length_eq_zero (Nat.le_zero.1 hl)
        have : j ∈ ((List.range us.length).filter fun j => decide (Reach us i j)) := List.mem_filter.2 ⟨List.mem_range.2 hj.2.1, decide_eq_true (.one hj)⟩
        rw [hz] at this
        cases this
      | succ m ih =>
        intro i hi hm hl
        obtain ⟨j, hj, hjS⟩ := hnext i hi hm
        refine ih j hj.2.1 hjS ?_
        have hlt := len_lt (p := fun k => decide (Reach us j k)) (q := fun k => decide (Reach us i k)) (List.range us.length) (fun x _ h => decide_eq_true (.cat (.one hj) (of_decide_eq_true h)))
          ⟨j, List.mem_range.2 hj.2.1, decide_eq_true (.one hj), decide_eq_false (hno j)⟩
        omega
    obtain ⟨x, hx⟩ := List.exists_mem_of_ne_nil S hne
    obtain ⟨u, hu, e⟩ := List.mem_map.1 (hsub x hx)
    obtain ⟨i, hi, rfl⟩ := List.mem_iff_getElem.1 hu
    exact hdesc _ i hi (by rw [nmAt_at hi, e]; exact hx) (Nat.le_refl _)
  · rintro ⟨i, hi⟩ he
    -- those on the circle are stuck
    let S := (us.map (·.1)).filter fun x => decide (∃ j, j < us.length ∧ nmAt us j = x ∧ Reach us j i ∧ Reach us i j)
    have hS : Stuck us S := fun x hx => by
      obtain ⟨hx1, hx2⟩ := List.mem_filter.1 hx
      obtain ⟨j, hj, e, h1, h2⟩ := of_decide_eq_true hx2
      have hfirst : ∀ {a b : Nat}, Reach us a b → ∃ c, E15 us a c ∧ (c = b ∨ Reach us c b) := fun h => by
        induction h with
        | one h => exact ⟨_, h, .inl rfl⟩
        | cat _ k h1 _ =>
          obtain ⟨c, hc, hr⟩ := h1
          refine ⟨c, hc, .inr ?_⟩
          rcases hr with rfl | hr
          · exact k
          · exact .cat hr k
      obtain ⟨c, hc, hr⟩ := hfirst h1
      refine ⟨us[j], List.getElem_mem hj, by rw [← nmAt_at hj]; exact e, nmAt us c, by rw [← ndAt_at hj]; exact hc.2.2, ?_⟩
      refine List.mem_filter.2 ⟨?_, decide_eq_true ⟨c, hc.2.1, rfl, ?_, ?_⟩⟩
      · rw [nmAt_at hc.2.1]
        exact List.mem_map.2 ⟨_, List.getElem_mem hc.2.1, rfl⟩
      · rcases hr with rfl | hr
        · exact hi
        · exact hr
      · exact .cat h2 (.one hc)
    have hin : nmAt us i ∈ S := List.mem_filter.2 ⟨by rw [nmAt_at hi.lt.1]; exact List.mem_map.2 ⟨_, List.getElem_mem hi.lt.1, rfl⟩, decide_eq_true ⟨i, hi.lt.1, rfl, hi, hi⟩⟩
    have := stuck_le hS (T := us.map (·.1)) (fun x hx => (List.mem_filter.1 hx).1) us.length _ hin
    rw [he] at this
    cases this
/-! the square -/
def atW (n : Nat) (W : List Bool) (i j : Nat) : Bool := W.getD (i * n + j) false
theorem idx_inj {n a b i j : Nat} (hb : b < n) (hj : j < n) (h : i * n + j = a * n + b) : i = a ∧ j = b := by
  have h1 : (i * n + j) / n = i := by rw [Nat.mul_comm, Nat.mul_add_div (by omega), Nat.div_eq_of_lt hj, Nat.add_zero]
  have h2 : (a * n + b) / n = a := by rw [Nat.mul_comm, Nat.mul_add_div (by omega), Nat.div_eq_of_lt hb, Nat.add_zero]
  have h3 : i = a := by rw [← h1, h, h2]
  subst h3
  exact ⟨rfl, by omega⟩
theorem idx_lt {n i j : Nat} (hi : i < n) (hj : j < n) : i * n + j < n * n := by
  have := Nat.mul_le_mul_right n (show i + 1 ≤ n from hi)
  rw [Nat.add_mul, Nat.one_mul] at this
  omega
theorem atW_set {n : Nat} {W : List Bool} (hW : W.length = n * n) {i j a b : Nat} (hi : i < n) (hj : j < n) (hb : b < n) : atW n (W.set (i * n + j) true) a b = if a = i ∧ b = j then true else atW n W a b := by
  unfold atW
  rw [List.getD_eq_getElem?_getD, List.getD_eq_getElem?_getD, List.getElem?_set]
  by_cases h : i * n + j = a * n + b
  · obtain ⟨rfl, rfl⟩ := idx_inj hb hj h
    rw [if_pos rfl, if_pos (by rw [hW]; exact idx_lt hi hj), if_pos ⟨rfl, rfl⟩]
    rfl
  · rw [if_neg h, if_neg]
    rintro ⟨rfl, rfl⟩
    exact h rfl
/-- the square, while it is filled: row i's first k needs are in -/
structure FillI (us : List (BS × Im)) (W : List Bool) (i k : Nat) : Prop where
  len : W.length = us.length * us.length
  at_ : ∀ a b, a < us.length → b < us.length → (atW us.length W a b = true ↔ E15 us a b ∧ (a < i ∨ a = i ∧ ∃ q, q < k ∧ (ndAt us i)[q]? = some (nmAt us b)))
theorem FillI.init : FillI us (List.replicate (us.length * us.length) false) 0 0 := by
  refine ⟨List.length_replicate, fun a b ha hb => ?_⟩
  unfold atW
  rw [List.getD_eq_getElem?_getD, List.getElem?_replicate, if_pos (idx_lt ha hb)]
  constructor
  · intro h; cases h
  · rintro ⟨_, h | ⟨_, q, hq, _⟩⟩
    · exact absurd h (Nat.not_lt_zero _)
    · exact absurd hq (Nat.not_lt_zero _)
theorem FillI.put {W : List Bool} {i k p : Nat} (h : FillI us W i k) (hnd : (us.map (·.1)).Nodup) (hi : i < us.length) (hp : p < us.length) (hk : (ndAt us i)[k]? = some (nmAt us p)) : FillI us (W.set (i * us.length + p) true) i (k + 1) := by
  refine ⟨by rw [List.length_set]; exact h.len, fun a b ha hb => ?_⟩
  rw [atW_set h.len hi hp hb]
  by_cases hab : a = i ∧ b = p
  · obtain ⟨rfl, rfl⟩ := hab
    rw [if_pos ⟨rfl, rfl⟩]
    exact ⟨fun _ => ⟨⟨ha, hb, List.mem_iff_getElem?.2 ⟨k, hk⟩⟩, .inr ⟨rfl, k, Nat.lt_succ_self _, hk⟩⟩, fun _ => rfl⟩
  · rw [if_neg hab, h.at_ a b ha hb]
    constructor
    · rintro ⟨h1, h2 | ⟨h2, q, h3, h4⟩⟩
      · exact ⟨h1, .inl h2⟩
      · exact ⟨h1, .inr ⟨h2, q, Nat.lt_succ_of_lt h3, h4⟩⟩
    · rintro ⟨h1, h2 | ⟨h2, q, h3, h4⟩⟩
      · exact ⟨h1, .inl h2⟩
      · refine ⟨h1, .inr ⟨h2, q, ?_, h4⟩⟩
        rcases Nat.lt_or_ge q k with hl | hl
        · exact hl
        · obtain rfl : q = k := by omega
          rw [hk] at h4
          exact absurd ⟨h2, (nm_inj hnd hp hb (by injection h4)).symm⟩ hab
theorem FillI.next {W : List Bool} {i k : Nat} (h : FillI us W i k) (hk : (ndAt us i).length ≤ k) : FillI us W (i + 1) 0 := by
  refine ⟨h.len, fun a b ha hb => ?_⟩
  rw [h.at_ a b ha hb]
  constructor
  · rintro ⟨h1, h2⟩
    exact ⟨h1, .inl (by rcases h2 with h2 | ⟨h2, _⟩ <;> omega)⟩
  · rintro ⟨h1, h2 | ⟨_, q, hq, _⟩⟩
    · refine ⟨h1, ?_⟩
      rcases Nat.lt_or_ge a i with hl | hl
      · exact .inl hl
      · obtain rfl : a = i := by omega
        obtain ⟨q, hq⟩ := List.mem_iff_getElem?.1 h1.2.2
        exact .inr ⟨rfl, q, Nat.lt_of_lt_of_le (List.getElem?_eq_some_iff.1 hq).1 hk, hq⟩
    · exact absurd hq (Nat.not_lt_zero _)
/-- the square, while it is closed over its k-th middle: done for rows below i, and of row i below j -/
structure WI (us : List (BS × Im)) (W : List Bool) (k i j : Nat) : Prop where
  len : W.length = us.length * us.length
  sound : ∀ a b, a < us.length → b < us.length → atW us.length W a b = true → Reach us a b
  cmp : ∀ a b, Via us k a b → atW us.length W a b = true
  did : ∀ a b, (a < i ∨ a = i ∧ b < j) → Via us k a k → Via us k k b → atW us.length W a b = true
theorem FillI.start {W : List Bool} (h : FillI us W us.length 0) : WI us W 0 0 0 :=
  ⟨h.len, fun a b ha hb q => .one ((h.at_ a b ha hb).1 q).1, fun a b q => (h.at_ a b q.lt.1 q.lt.2).2 ⟨q.zero, .inl q.lt.1⟩, fun a b q => by omega⟩
theorem WI.yes {W : List Bool} {k i j : Nat} (h : WI us W k i j) (hk : k < us.length) (hi : i < us.length) (hj : j < us.length) (h1 : atW us.length W i k = true) (h2 : atW us.length W k j = true) : WI us (W.set (i * us.length + j) true) k i (j + 1) := by
  have hup : ∀ a b, b < us.length → atW us.length W a b = true → atW us.length (W.set (i * us.length + j) true) a b = true := fun a b hb q => by
    rw [atW_set h.len hi hj hb]
    split
    · rfl
    · exact q
  refine ⟨by rw [List.length_set]; exact h.len, fun a b ha hb q => ?_, fun a b q => hup a b q.lt.2 (h.cmp a b q), fun a b q r s => ?_⟩
  · rw [atW_set h.len hi hj hb] at q
    split at q
    · rename_i e
      obtain ⟨rfl, rfl⟩ := e
      exact .cat (h.sound _ _ ha hk h1) (h.sound _ _ hk hb h2)
    · exact h.sound a b ha hb q
  · by_cases e : a = i ∧ b = j
    · obtain ⟨rfl, rfl⟩ := e
      rw [atW_set h.len hi hj hj, if_pos ⟨rfl, rfl⟩]
    · exact hup a b s.lt.2 (h.did a b (by omega) r s)
theorem WI.no {W : List Bool} {k i j : Nat} (h : WI us W k i j) (h12 : (atW us.length W i k && atW us.length W k j) = false) : WI us W k i (j + 1) := by
  refine ⟨h.len, h.sound, h.cmp, fun a b q r s => ?_⟩
  by_cases e : a = i ∧ b = j
  · obtain ⟨rfl, rfl⟩ := e
    rw [h.cmp _ _ r, h.cmp _ _ s] at h12
    cases h12
  · exact h.did a b (by omega) r s
theorem WI.row {W : List Bool} {k i : Nat} (h : WI us W k i us.length) : WI us W k (i + 1) 0 :=
  ⟨h.len, h.sound, h.cmp, fun a b q r s => h.did a b (by have := s.lt.2; omega) r s⟩
theorem WI.stage {W : List Bool} {k : Nat} (h : WI us W k us.length 0) : WI us W (k + 1) 0 0 :=
  ⟨h.len, h.sound, fun a b q => by
    rcases q.up with q | ⟨q, r⟩
    · exact h.cmp a b q
    · exact h.did a b (.inl q.lt.1) q r, fun a b q => by omega⟩
theorem WI.found {W : List Bool} {k i j a : Nat} (h : WI us W k i j) (hnd : (us.map (·.1)).Nodup) (ha : a < us.length) (q : atW us.length W a a = true) : cycB us = true := (cyc_iff hnd).2 ⟨a, h.sound a a ha ha q⟩
theorem WI.none {W : List Bool} {i j : Nat} (h : WI us W us.length i j) (hnd : (us.map (·.1)).Nodup) (q : ∀ a, a < us.length → atW us.length W a a = false) : cycB us = false := by
  rw [Bool.eq_false_iff]
  intro hc
  obtain ⟨a, ha⟩ := (cyc_iff hnd).1 hc
  have h1 := h.cmp a a ha.via
  rw [q a ha.lt.1] at h1
  cases h1
end Go.Dm.Ld
