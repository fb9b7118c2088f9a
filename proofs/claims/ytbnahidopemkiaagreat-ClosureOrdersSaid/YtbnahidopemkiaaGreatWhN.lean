/- What the closure's order is, plainly: each name once, each needed by one ahead, all needed there. What ClosureWhole asks of an order, plainly. No condition. -/
import Derived.Test.YtbnahidopemkiaaGreatEnt
set_option linter.unusedVariables false
set_option linter.unusedSimpArgs false
namespace Go.Dm.Ld
open Go
theorem addN_ok : ∀ (need names names' : List BS), addN names need = some names' →
    ∃ t, names' = names ++ t ∧ (∀ x ∈ t, x ∈ need) ∧ (∀ x ∈ need, x ∈ names') ∧ (names.Nodup → names'.Nodup) ∧ (names.length ≤ 8 → names'.length ≤ 8)
  | [], names, names', h => by
    have h : some names = some names' := h
    injection h with h
    subst h
    exact ⟨[], by rw [List.append_nil], by simp, by simp, id, id⟩
  | n :: r, names, names', h => by
    have h : (if n ∈ names then addN names r else if names.length = 8 then none else addN (names ++ [n]) r) = some names' := h
    split at h
    · rename_i hn
      obtain ⟨t, h1, h2, h3, h4, h5⟩ := addN_ok r names names' h
      refine ⟨t, h1, fun x hx => List.mem_cons_of_mem _ (h2 x hx), fun x hx => ?_, h4, h5⟩
      rcases List.mem_cons.1 hx with rfl | hx
      · rw [h1]; exact List.mem_append_left _ hn
      · exact h3 x hx
    · rename_i hn
      split at h
      · cases h
      · rename_i h8
        obtain ⟨t, h1, h2, h3, h4, h5⟩ := addN_ok r (names ++ [n]) names' h
        refine ⟨n :: t, by rw [h1, List.append_assoc]; rfl, fun x hx => ?_, fun x hx => ?_, fun hnd => ?_, fun hl => ?_⟩
        · rcases List.mem_cons.1 hx with rfl | hx
          · exact List.mem_cons_self ..
          · exact List.mem_cons_of_mem _ (h2 x hx)
        · rcases List.mem_cons.1 hx with rfl | hx
          · rw [h1]; exact List.mem_append_left _ (List.mem_append_right _ (List.mem_singleton.2 rfl))
          · exact h3 x hx
        · refine h4 ?_
          rw [List.nodup_append]
          refine ⟨hnd, by simp, fun a ha b hb e => ?_⟩
          rw [List.mem_singleton.1 hb] at e
          exact hn (e ▸ ha)
        · refine h5 ?_
          rw [List.length_append]
          simp only [List.length_cons, List.length_nil]
          omega
structure WhI (names : List BS) (out : List (BS × Im)) : Prop where
  nm : out.map (·.1) = names.take out.length
  le : out.length ≤ names.length
  h8 : names.length ≤ 8
  nd : names.Nodup
  by_ : ∀ i (h : i < names.length), 0 < i → ∃ k u, k < i ∧ out[k]? = some u ∧ names[i] ∈ u.2.need
  all : ∀ u ∈ out, ∀ n ∈ u.2.need, n ∈ names
theorem WhI.step {names names' : List BS} {out : List (BS × Im)} (h : WhI names out) {n : BS} {u : Im} (hn : names[out.length]? = some n) (ha : addN names u.need = some names') : WhI names' (out ++ [(n, u)]) := by
  obtain ⟨hlt, hn⟩ := List.getElem?_eq_some_iff.1 hn
  obtain ⟨t, h1, h2, h3, h4, h5⟩ := addN_ok _ _ _ ha
  subst h1
  refine ⟨?_, ?_, h5 h.h8, h4 h.nd, fun i hi h0 => ?_, fun v hv x hx => ?_⟩
  · rw [List.map_append, h.nm, List.length_append]
    show names.take out.length ++ [n] = (names ++ t).take (out.length + 1)
    rw [List.take_append_of_le_length hlt, List.take_succ_eq_append_getElem hlt, hn]
  · rw [List.length_append, List.length_append]
    simp only [List.length_cons, List.length_nil]
    omega
  · rcases Nat.lt_or_ge i names.length with hl | hl
    · obtain ⟨k, v, hk, hv, hm⟩ := h.by_ i hl h0
      refine ⟨k, v, hk, ?_, ?_⟩
      · rw [List.getElem?_append_left (List.getElem?_eq_some_iff.1 hv).1]; exact hv
      · rw [List.getElem_append_left hl]; exact hm
    · refine ⟨out.length, (n, u), by omega, ?_, ?_⟩
      · rw [List.getElem?_append_right (Nat.le_refl _), Nat.sub_self]; rfl
      · rw [List.getElem_append_right hl]
        exact h2 _ (List.getElem_mem _)
  · rcases List.mem_append.1 hv with hv | hv
    · exact List.mem_append_left _ (h.all v hv x hx)
    · rw [List.mem_singleton.1 hv] at hx
      exact h3 x hx
structure WhO (l : List (BS × Im)) : Prop where
  h8 : l.length ≤ 8
  nd : (l.map (·.1)).Nodup
  by_ : ∀ i u, l[i]? = some u → 0 < i → ∃ k v, k < i ∧ l[k]? = some v ∧ u.1 ∈ v.2.need
  all : ∀ u ∈ l, ∀ n ∈ u.2.need, ∃ v ∈ l, v.1 = n
theorem WhI.done {names : List BS} {out : List (BS × Im)} (h : WhI names out) (hl : names.length ≤ out.length) : WhO out := by
  have hl2 : out.length = names.length := Nat.le_antisymm h.le hl
  have hnm : out.map (·.1) = names := by rw [h.nm, List.take_of_length_le hl]
  refine ⟨hl2 ▸ h.h8, hnm ▸ h.nd, fun i u hu h0 => ?_, fun u hu n hn => ?_⟩
  · obtain ⟨hi, hu⟩ := List.getElem?_eq_some_iff.1 hu
    obtain ⟨k, v, hk, hv, hm⟩ := h.by_ i (hl2 ▸ hi) h0
    refine ⟨k, v, hk, hv, ?_⟩
    have : names[i]'(hl2 ▸ hi) = u.1 := by
      subst hnm
      rw [List.getElem_map, hu]
    rwa [this] at hm
  · have := h.all u hu n hn
    rw [← hnm] at this
    obtain ⟨v, hv, e⟩ := List.mem_map.1 this
    exact ⟨v, hv, e⟩
end Go.Dm.Ld
namespace Go.Dm.Ld
open Go
def nmAt (us : List (BS × Im)) (i : Nat) : BS := (us.getD i ([], im0)).1
def ndAt (us : List (BS × Im)) (i : Nat) : List BS := (us.getD i ([], im0)).2.need
/-- is the unit i needed by one of the first k that stands ahead of it? -/
def aheadB (us : List (BS × Im)) (i k : Nat) : Bool := decide (i = 0) || (List.range k).any fun j => decide (j < i) && (ndAt us j).any (· == nmAt us i)
/-- is there a unit of this name among the first k? -/
def thereB (us : List (BS × Im)) (n : BS) (k : Nat) : Bool := (List.range k).any fun j => nmAt us j == n
theorem nmAt_get {us : List (BS × Im)} {i : Nat} (h : i < us.length) : us[i]? = some (us.getD i ([], im0)) := by
  rw [List.getD_eq_getElem?_getD, List.getElem?_eq_getElem h]
  rfl
theorem WhO.ahead {us : List (BS × Im)} (h : WhO us) {i : Nat} (hi : i < us.length) : aheadB us i us.length = true := by
  unfold aheadB
  rcases Nat.eq_zero_or_pos i with h0 | h0
  · rw [decide_eq_true h0]; rfl
  · obtain ⟨k, v, hk, hv, hm⟩ := h.by_ i _ (nmAt_get hi) h0
    rw [Bool.or_eq_true]
    refine .inr (List.any_eq_true.2 ⟨k, List.mem_range.2 (by omega), ?_⟩)
    rw [Bool.and_eq_true, decide_eq_true_eq]
    refine ⟨hk, List.any_eq_true.2 ⟨_, ?_, beq_self_eq_true _⟩⟩
    have e : us.getD k ([], im0) = v := by
      rw [List.getD_eq_getElem?_getD, hv]
      rfl
    show nmAt us i ∈ (us.getD k ([], im0)).2.need
    rw [e]
    exact hm
theorem WhO.there {us : List (BS × Im)} (h : WhO us) {i : Nat} (hi : i < us.length) {n : BS} (hn : n ∈ ndAt us i) : thereB us n us.length = true := by
  have hu : us.getD i ([], im0) ∈ us := (List.mem_iff_getElem?.2 ⟨i, nmAt_get hi⟩)
  obtain ⟨v, hv, e⟩ := h.all _ hu n hn
  obtain ⟨k, hk⟩ := List.mem_iff_getElem?.1 hv
  obtain ⟨hkl, _⟩ := List.getElem?_eq_some_iff.1 hk
  unfold thereB
  refine List.any_eq_true.2 ⟨k, List.mem_range.2 hkl, ?_⟩
  unfold nmAt
  rw [List.getD_eq_getElem?_getD, hk]
  show (v.1 == n) = true
  rw [e]
  exact beq_self_eq_true _
theorem WhO.apart {us : List (BS × Im)} (h : WhO us) {i k : Nat} (hi : i < us.length) (hk : k < us.length) (hne : k ≠ i) : (nmAt us k == nmAt us i) = false := by
  rw [beq_eq_false_iff_ne]
  intro e
  have h1 : (us.map (·.1))[k]? = some (nmAt us k) := by rw [List.getElem?_map, nmAt_get hk]; rfl
  have h2 : (us.map (·.1))[i]? = some (nmAt us i) := by rw [List.getElem?_map, nmAt_get hi]; rfl
  rw [← e] at h2
  obtain ⟨g1, e1⟩ := List.getElem?_eq_some_iff.1 h1
  obtain ⟨g2, e2⟩ := List.getElem?_eq_some_iff.1 h2
  have hp := List.pairwise_iff_getElem.1 h.nd
  rcases Nat.lt_or_gt_of_ne hne with hlt | hlt
  · exact hp k i g1 g2 hlt (e1.trans e2.symm)
  · exact hp i k g2 g1 hlt (e2.trans e1.symm)
end Go.Dm.Ld
