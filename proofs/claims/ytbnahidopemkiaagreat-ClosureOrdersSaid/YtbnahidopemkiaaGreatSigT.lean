/- A region that draws its order, walked in one order that is given: operations that yield the same in every world of a class S are taken first; behind each of the others S is shown anew, where something may still come that leans on it. A region that draws its order, walked in orders that are given as a tree: where two operations that turn memory may both come next, both ways are shown. No condition. -/
import Derived.Test.YtbnahidopemkiaaGreatEnt
import Derived.OrdersHeld
set_option linter.unusedVariables false
set_option linter.unusedSimpArgs false
namespace Go.Dm
open Go

section
variable {P : Program} {ops : Array Oper} {Q : Exit → Act → World → Prop} {md : Region.Mode} {S : World → Prop} {kb : Nat → Bool}

/-- Whatever order is picked from here on, and S behind each operation of kb. -/
def wpAnyK (P : Program) (md : Region.Mode) (ops : Array Oper) (Q : Exit → Act → World → Prop) (S : World → Prop) (kb : Nat → Bool) : Nat → Array Bool → Act → World → Prop
  | 0, listed, a, w => Region.ready md ops listed = [] ∧ Q .normal a w
  | fuel + 1, listed, a, w =>
    (Region.ready md ops listed = [] → Q .normal a w) ∧
    ∀ i ∈ Region.ready md ops listed, wpOp P ops Q i (fun a' w' => (kb i = true → S w') ∧ wpAnyK P md ops Q S kb fuel (listed.setIfInBounds i true) a' w') a w

theorem wpAny_of_K : ∀ (fuel : Nat) (listed : Array Bool) (a : Act) (w : World), wpAnyK P md ops Q S kb fuel listed a w → wpAny P md ops Q fuel listed a w
  | 0, _, _, _, h => h
  | fuel + 1, _, _, _, h => ⟨h.1, fun i hi => wpOp_mono (fun a' w' h' => wpAny_of_K fuel _ a' w' h'.2) (h.2 i hi)⟩

/-- does number j wait for number i, at once or through others? -/
def reach (md : Region.Mode) (ops : Array Oper) : Nat → Nat → Nat → Bool
  | 0, _, _ => false
  | f + 1, j, i => match ops[j]? with
    | none => false
    | some oj => oj.after.any fun e => Region.binds md e && (e.on == i || reach md ops f e.on i)
def Closed (md : Region.Mode) (ops : Array Oper) (listed : Array Bool) : Prop :=
  ∀ (k : Nat) (ok : Oper), ops[k]? = some ok → listed.getD k false = true → ∀ e ∈ ok.after, Region.binds md e = true → listed.getD e.on false = true
theorem reach_listed {listed : Array Bool} (hc : Closed md ops listed) {i : Nat} : ∀ (f j : Nat) (oj : Oper), ops[j]? = some oj → (∀ e ∈ oj.after, Region.binds md e = true → listed.getD e.on false = true) → reach md ops f j i = true → listed.getD i false = true
  | 0, _, _, _, _, h => by simp [reach] at h
  | f + 1, j, oj, hj, ha, h => by
    simp only [reach, hj] at h
    obtain ⟨e, he, hb⟩ := Array.any_eq_true'.1 h
    simp only [Bool.and_eq_true, Bool.or_eq_true, beq_iff_eq] at hb
    obtain ⟨hb, h1 | h1⟩ := hb
    · rw [← h1]; exact ha e he hb
    · cases hk : ops[e.on]? with
      | none => cases f with
        | zero => simp [reach] at h1
        | succ f => simp [reach, hk] at h1
      | some ok => exact reach_listed hc f e.on ok hk (hc e.on ok hk (ha e he hb)) h1
theorem getD_set_same {listed : Array Bool} {i : Nat} (h : i < listed.size) : (listed.setIfInBounds i true).getD i false = true := by simp [h]
theorem Closed.step {listed : Array Bool} (hc : Closed md ops listed) {i : Nat} (hr : i ∈ Region.ready md ops listed) : Closed md ops (listed.setIfInBounds i true) := by
  have hmono : ∀ k, listed.getD k false = true → (listed.setIfInBounds i true).getD k false = true := by
    intro k hk
    by_cases e : i = k
    · subst e
      refine getD_set_same ?_
      rcases Nat.lt_or_ge i listed.size with h | h
      · exact h
      · simp [Array.getElem?_eq_none h] at hk
    · rw [getD_set_ne false e]; exact hk
  intro k ok hk hl e he hb
  by_cases ek : i = k
  · subst ek
    obtain ⟨_, oj, hoj, hall⟩ := mem_ready.1 hr
    rw [hk] at hoj; cases hoj
    exact hmono _ (hall e he hb)
  · rw [getD_set_ne false ek] at hl
    exact hmono _ (hc k ok hk hl e he hb)

theorem wpAnyK_first {i : Nat} {oi : Oper} {v : Value} (hi : ops[i]? = some oi) (hsel : ∀ (j : Nat) (o : Oper) cs b, ops[j]? = some o → o.op ≠ .select cs b)
    (hQ : ∀ c a w, Q (.panic c) (a.put oi.dst v) w → Q (.panic c) a w) :
    ∀ (fuel : Nat) (listed : Array Bool) (a : Act) (w : World),
      (∀ j oj, ops[j]? = some oj → j ≠ i → listed.getD j true = false → reach md ops ops.size j i = false → oi.apart ops oj = true ∧ kb j = true) →
      Closed md ops listed → i ∈ Region.ready md ops listed → YieldsIf P ops S oi v a → S w →
      wpAnyK P md ops Q S kb fuel (listed.setIfInBounds i true) (a.put oi.dst v) w → wpAnyK P md ops Q S kb (fuel + 1) listed a w := by
  intro fuel
  induction fuel with
  | zero =>
    intro listed a w _ _ hr hy hS H
    refine ⟨fun h => (by rw [h] at hr; cases hr), fun j hj => ?_⟩
    by_cases hji : j = i
    · subst hji; exact hy.wpOp hi hS ⟨fun _ => hS, H⟩
    · have := ready_mono hj hji
      rw [H.1] at this
      cases this
  | succ fuel ih =>
    intro listed a w hfree hcl hr hy hS H
    refine ⟨fun h => (by rw [h] at hr; cases hr), fun j hj => ?_⟩
    by_cases hji : j = i
    · subst hji; exact hy.wpOp hi hS ⟨fun _ => hS, H⟩
    · have h1 := H.2 j (ready_mono hj hji)
      obtain ⟨hjun, oj, hoj, hall⟩ := mem_ready.1 hj
      have hnot : reach md ops ops.size j i = false := by
        cases hq : reach md ops ops.size j i with
        | false => rfl
        | true =>
          have h1 := reach_listed hcl _ j oj hoj hall hq
          have h0 := (mem_ready.1 hr).1
          rcases Nat.lt_or_ge i listed.size with h' | h'
          · simp [h'] at h0 h1; rw [h0] at h1; cases h1
          · simp [Array.getElem?_eq_none h'] at h1
      obtain ⟨hap, hkb⟩ := hfree j oj hoj hji hjun hnot
      have h2 := wpOp_putIf hoj hap (fun cs b => hsel i oi cs b hi) (fun cs b => hsel j oj cs b hoj) hQ hy h1
      have hfree' : ∀ k ok, ops[k]? = some ok → k ≠ i → (listed.setIfInBounds j true).getD k true = false →
          reach md ops ops.size k i = false → oi.apart ops ok = true ∧ kb k = true := fun k ok hk hki hun hno => by
        refine hfree k ok hk hki ?_ hno
        by_cases hjk : j = k
        · subst hjk; exact hjun
        · rw [getD_set_ne true hjk] at hun; exact hun
      refine wpOp_mono (fun a' w' h3 => ⟨h3.2.1, ih (listed.setIfInBounds j true) a' w' hfree' (hcl.step hj) (ready_mono hr (Ne.symm hji)) h3.1 (h3.2.1 hkb) ?_⟩) h2
      rw [Array.setIfInBounds_comm _ _ hji]
      exact h3.2.2

/-- does it wait for number i at once? -/
def direct (md : Region.Mode) (oj : Oper) (i : Nat) : Bool := oj.after.any fun e => e.on == i && Region.binds md e
theorem direct_reach {i j f : Nat} {oj : Oper} (hj : ops[j]? = some oj) (h : direct md oj i = true) : reach md ops (f + 1) j i = true := by
  obtain ⟨e, he, hb⟩ := Array.any_eq_true'.1 h
  simp only [reach, hj]
  refine Array.any_eq_true'.2 ⟨e, he, ?_⟩
  simp only [Bool.and_eq_true] at hb
  rw [hb.2, hb.1]
  rfl
/-- may number i be taken first? -/
def freeK (md : Region.Mode) (ops : Array Oper) (kb : Nat → Bool) (listed : Array Bool) (i : Nat) : Bool :=
  match ops[i]? with
  | none => false
  | some oi => (List.range ops.size).all fun j => j == i || listed.getD j true || match ops[j]? with
      | some oj => (oi.apart ops oj && kb j) || direct md oj i || reach md ops ops.size j i
      | none => true

theorem freeK_spec {i : Nat} {oi : Oper} {listed : Array Bool} (hi : ops[i]? = some oi) (h : freeK md ops kb listed i = true) (j : Nat) (oj : Oper)
    (hj : ops[j]? = some oj) (hne : j ≠ i) (hun : listed.getD j true = false) (hno : reach md ops ops.size j i = false) :
    oi.apart ops oj = true ∧ kb j = true := by
  simp only [freeK, hi, List.all_eq_true, List.mem_range] at h
  have h1 := h j (Array.getElem?_eq_some_iff.1 hj).1
  simp only [hj, Bool.or_eq_true, beq_iff_eq, hne, false_or, hun, Bool.false_eq_true] at h1
  rw [hno] at h1
  have hsz := (Array.getElem?_eq_some_iff.1 hj).1
  have hd : direct md oj i = false := by
    cases hd : direct md oj i with
    | false => rfl
    | true =>
      obtain ⟨f, hf⟩ : ∃ f, ops.size = f + 1 := ⟨ops.size - 1, by omega⟩
      rw [hf, direct_reach hj hd] at hno
      cases hno
  rw [hd] at h1
  simpa using h1

/-- The given order: (number, does it yield the same in every world of S?). -/
def sigB (md : Region.Mode) (ops : Array Oper) (kb : Nat → Bool) : List (Nat × Bool) → Array Bool → Bool → Bool
  | [], listed, _ => (Region.ready md ops listed).isEmpty
  | (i, true) :: r, listed, s => s && (Region.ready md ops listed).contains i && freeK md ops kb listed i && sigB md ops kb r (listed.setIfInBounds i true) s
  | (i, false) :: r, listed, s => (Region.ready md ops listed == [i]) && sigB md ops kb r (listed.setIfInBounds i true) (s && kb i)

/-- The walk in that order. -/
def wpSig (P : Program) (ops : Array Oper) (Q : Exit → Act → World → Prop) (S : World → Prop) (kb : Nat → Bool) : List (Nat × Bool) → Act → World → Prop
  | [], a, w => Q .normal a w
  | (i, true) :: r, a, w => ∃ o v, ops[i]? = some o ∧ YieldsIf P ops S o v a ∧ wpSig P ops Q S kb r (a.put o.dst v) w
  | (i, false) :: r, a, w => wpOp P ops Q i (fun a' w' => (kb i = true → S w') ∧ wpSig P ops Q S kb r a' w') a w

theorem wpSig_sound (hs : Region.noSelect ops = true) (hQ : ∀ c a d v w, Q (.panic c) (a.put d v) w → Q (.panic c) a w) :
    ∀ (l : List (Nat × Bool)) (listed : Array Bool) (s : Bool) (a : Act) (w : World), sigB md ops kb l listed s = true → Closed md ops listed → (s = true → S w) → wpSig P ops Q S kb l a w → wpAnyK P md ops Q S kb l.length listed a w
  | [], listed, s, a, w, h, _, _, hq => by
    have : Region.ready md ops listed = [] := by simpa [sigB] using h
    exact ⟨this, hq⟩
  | (i, true) :: r, listed, s, a, w, h, hcl, hS, ⟨o, v, ho, hy, hq⟩ => by
    simp only [sigB, Bool.and_eq_true] at h
    obtain ⟨⟨⟨h1, h2⟩, h3⟩, h4⟩ := h
    exact wpAnyK_first ho (Region.noSelect_spec hs) (fun c a w => hQ c a _ _ w) r.length listed a w (freeK_spec ho h3) hcl (by simpa using h2) hy (hS h1)
      (wpSig_sound hs hQ r _ s _ w h4 (hcl.step (by simpa using h2)) hS hq)
  | (i, false) :: r, listed, s, a, w, h, hcl, hS, hq => by
    simp only [sigB, Bool.and_eq_true, beq_iff_eq] at h
    refine ⟨fun h0 => (by rw [h.1] at h0; cases h0), fun j hj => ?_⟩
    rw [h.1] at hj
    obtain rfl : j = i := by simpa using hj
    exact wpOp_mono (fun a' w' h' => ⟨h'.1, wpSig_sound hs hQ r _ (s && kb j) a' w' h.2 (hcl.step (by rw [h.1]; simp)) (fun hsk => h'.1 (Bool.and_eq_true_iff.1 hsk).2) h'.2⟩) hq

/-- The beginning. -/
theorem wp_region_sig {id : Nat} {a : Act} {w : World} (S : World → Prop) (kb : Nat → Bool) (l : List (Nat × Bool)) {o : List Oper} (hm : P.follows .mixedOrders = true)
    (hB : (Region.noSelect o.toArray && sigB .any o.toArray kb l (Array.replicate o.toArray.size false) true && (l.length == o.toArray.size)) = true)
    (hQ : ∀ c a d v w, Q (.panic c) (a.put d v) w → Q (.panic c) a w) (hS : S w.drew)
    (h : wpSig P o.toArray Q S kb l a w.drew) : (Code.region id o.toArray true).wp P Q a w := by
  simp only [Bool.and_eq_true, beq_iff_eq] at hB
  refine wp_region_any hm (wpAny_of_K (S := S) (kb := kb) _ _ _ _ ?_)
  have h2 := wpSig_sound (md := .any) hB.1.1 hQ l _ true a _ hB.1.2 (fun k ok _ hl => by rw [Array.getD_eq_getD_getElem?, Array.getElem?_replicate] at hl; split at hl <;> cases hl) (fun _ => hS) h
  rw [hB.2] at h2
  exact h2

theorem sig_nil {a : Act} {w : World} (h : Q .normal a w) : wpSig P ops Q S kb [] a w := h
theorem sig_still {i : Nat} {r : List (Nat × Bool)} {a : Act} {w : World} {o : Oper} {v : Value} (ho : ops[i]? = some o) (hg : o.guard = none)
    (hy : ∀ w', S w' → (execOp a.eval o).run P w' = .ok (.value v) w') (h : wpSig P ops Q S kb r (a.put o.dst v) w) : wpSig P ops Q S kb ((i, true) :: r) a w :=
  ⟨o, v, ho, .inl ⟨by simp [Region.wanted, hg], hy⟩, h⟩
theorem sig_eff {i : Nat} {r : List (Nat × Bool)} {a : Act} {w : World} {o : Oper} (ho : ops[i]? = some o) (hg : o.guard = none)
    (h : ∀ K : Act → World → Prop, (∀ a' w', ((kb i = true → S w') ∧ wpSig P ops Q S kb r a' w') → K a' w') → o.wp P a w K Q) : wpSig P ops Q S kb ((i, false) :: r) a w := by
  show wpOp _ _ _ _ _ _ _
  unfold wpOp
  simp only [ho, Region.wanted, hg, if_true]
  exact .inl (h _ fun _ _ h => h)

theorem wo_append {o : Oper} {a : Act} {w : World} {K : Act → World → Prop} (x y : Operand) (t1 t2 : TypeId) (ho : o.op = .call { callee := .builtin .append, args := #[x, y], argTypes := #[t1, t2] })
    (v1 v2 : Value) (h1 : a.eval x = v1) (h2 : a.eval y = v2) (h : AppendGoal P t1 t2 o.type v1 v2 w fun v w' => K (a.put o.dst v) w') : o.wp P a w K Q := by
  obtain ⟨v, w', hr, hk⟩ := h
  unfold Oper.wp execOp
  simp only [ho, resolve, invoke, builtin, Sem.run_bind, Sem.run_pure, Result.andThen_ok, List.map_toArray, List.map_cons, List.map_nil, h1, h2, hr]
  exact hk
end
end Go.Dm
namespace Go.Dm
open Go

/-- st: it yields the same in every world of S; ef: the only one that may come; br: i or j may come -/
inductive Tr where
  | nil
  | st (i : Nat) (r : Tr)
  | ef (i : Nat) (r : Tr)
  | br (i j : Nat) (l r : Tr)
def Tr.len : Tr → Nat
  | .nil => 0 | .st _ r => r.len + 1 | .ef _ r => r.len + 1 | .br _ _ l _ => l.len + 1

section
variable {P : Program} {ops : Array Oper} {Q : Exit → Act → World → Prop} {md : Region.Mode} {S : World → Prop} {kb : Nat → Bool}

def treeB (md : Region.Mode) (ops : Array Oper) (kb : Nat → Bool) : Tr → Array Bool → Bool → Bool
  | .nil, listed, _ => (Region.ready md ops listed).isEmpty
  | .st i r, listed, s => s && (Region.ready md ops listed).contains i && freeK md ops kb listed i && treeB md ops kb r (listed.setIfInBounds i true) s
  | .ef i r, listed, s => (Region.ready md ops listed == [i]) && treeB md ops kb r (listed.setIfInBounds i true) (s && kb i)
  | .br i j l r, listed, s => (Region.ready md ops listed == [i, j]) && (l.len == r.len) && treeB md ops kb l (listed.setIfInBounds i true) (s && kb i) && treeB md ops kb r (listed.setIfInBounds j true) (s && kb j)

def wpTree (P : Program) (ops : Array Oper) (Q : Exit → Act → World → Prop) (S : World → Prop) (kb : Nat → Bool) : Tr → Act → World → Prop
  | .nil, a, w => Q .normal a w
  | .st i r, a, w => ∃ o v, ops[i]? = some o ∧ YieldsIf P ops S o v a ∧ wpTree P ops Q S kb r (a.put o.dst v) w
  | .ef i r, a, w => wpOp P ops Q i (fun a' w' => (kb i = true → S w') ∧ wpTree P ops Q S kb r a' w') a w
  | .br i j l r, a, w => wpOp P ops Q i (fun a' w' => (kb i = true → S w') ∧ wpTree P ops Q S kb l a' w') a w ∧ wpOp P ops Q j (fun a' w' => (kb j = true → S w') ∧ wpTree P ops Q S kb r a' w') a w

theorem wpTree_sound (hs : Region.noSelect ops = true) (hQ : ∀ c a d v w, Q (.panic c) (a.put d v) w → Q (.panic c) a w) :
    ∀ (l : Tr) (listed : Array Bool) (s : Bool) (a : Act) (w : World), treeB md ops kb l listed s = true → Closed md ops listed → (s = true → S w) → wpTree P ops Q S kb l a w → wpAnyK P md ops Q S kb l.len listed a w
  | .nil, listed, s, a, w, h, _, _, hq => by
    have : Region.ready md ops listed = [] := by simpa [treeB] using h
    exact ⟨this, hq⟩
  | .st i r, listed, s, a, w, h, hcl, hS, ⟨o, v, ho, hy, hq⟩ => by
    simp only [treeB, Bool.and_eq_true] at h
    obtain ⟨⟨⟨h1, h2⟩, h3⟩, h4⟩ := h
    exact wpAnyK_first ho (Region.noSelect_spec hs) (fun c a w => hQ c a _ _ w) r.len listed a w (freeK_spec ho h3) hcl (by simpa using h2) hy (hS h1)
      (wpTree_sound hs hQ r _ s _ w h4 (hcl.step (by simpa using h2)) hS hq)
  | .ef i r, listed, s, a, w, h, hcl, hS, hq => by
    simp only [treeB, Bool.and_eq_true, beq_iff_eq] at h
    refine ⟨fun h0 => (by rw [h.1] at h0; cases h0), fun j hj => ?_⟩
    rw [h.1] at hj
    obtain rfl : j = i := by simpa using hj
    exact wpOp_mono (fun a' w' h' => ⟨h'.1, wpTree_sound hs hQ r _ (s && kb j) a' w' h.2 (hcl.step (by rw [h.1]; simp)) (fun hsk => h'.1 (Bool.and_eq_true_iff.1 hsk).2) h'.2⟩) hq
  | .br i j l r, listed, s, a, w, h, hcl, hS, hq => by
    simp only [treeB, Bool.and_eq_true, beq_iff_eq] at h
    obtain ⟨⟨⟨h1, h2⟩, h3⟩, h4⟩ := h
    refine ⟨fun h0 => (by rw [h1] at h0; cases h0), fun k hk => ?_⟩
    have hk0 := hk
    rw [h1] at hk
    rcases (by simpa using hk : k = i ∨ k = j) with rfl | rfl
    · exact wpOp_mono (fun a' w' h' => ⟨h'.1, wpTree_sound hs hQ l _ (s && kb k) a' w' h3 (hcl.step hk0) (fun hsk => h'.1 (Bool.and_eq_true_iff.1 hsk).2) h'.2⟩) hq.1
    · show wpOp P ops Q k (fun a' w' => (kb k = true → S w') ∧ wpAnyK P md ops Q S kb l.len _ a' w') a w
      rw [h2]
      exact wpOp_mono (fun a' w' h' => ⟨h'.1, wpTree_sound hs hQ r _ (s && kb k) a' w' h4 (hcl.step hk0) (fun hsk => h'.1 (Bool.and_eq_true_iff.1 hsk).2) h'.2⟩) hq.2

theorem wp_region_tree {id : Nat} {a : Act} {w : World} (S : World → Prop) (kb : Nat → Bool) (l : Tr) {o : List Oper} (hm : P.follows .mixedOrders = true)
    (hB : (Region.noSelect o.toArray && treeB .any o.toArray kb l (Array.replicate o.toArray.size false) true && (l.len == o.toArray.size)) = true)
    (hQ : ∀ c a d v w, Q (.panic c) (a.put d v) w → Q (.panic c) a w) (hS : S w.drew)
    (h : wpTree P o.toArray Q S kb l a w.drew) : (Code.region id o.toArray true).wp P Q a w := by
  simp only [Bool.and_eq_true, beq_iff_eq] at hB
  refine wp_region_any hm (wpAny_of_K (S := S) (kb := kb) _ _ _ _ ?_)
  have h2 := wpTree_sound (md := .any) hB.1.1 hQ l _ true a _ hB.1.2 (fun k ok _ hl => by rw [Array.getD_eq_getD_getElem?, Array.getElem?_replicate] at hl; split at hl <;> cases hl) (fun _ => hS) h
  rw [hB.2] at h2
  exact h2

theorem tr_nil {a : Act} {w : World} (h : Q .normal a w) : wpTree P ops Q S kb .nil a w := h
theorem tr_still {i : Nat} {r : Tr} {a : Act} {w : World} {o : Oper} {v : Value} (ho : ops[i]? = some o) (hg : o.guard = none)
    (hy : ∀ w', S w' → (execOp a.eval o).run P w' = .ok (.value v) w') (h : wpTree P ops Q S kb r (a.put o.dst v) w) : wpTree P ops Q S kb (.st i r) a w :=
  ⟨o, v, ho, .inl ⟨by simp [Region.wanted, hg], hy⟩, h⟩
theorem wo_eff {i : Nat} {a : Act} {w : World} {o : Oper} {R : Act → World → Prop} (ho : ops[i]? = some o) (hg : o.guard = none)
    (h : ∀ K : Act → World → Prop, (∀ a' w', R a' w' → K a' w') → o.wp P a w K Q) : wpOp P ops Q i R a w := by
  unfold wpOp
  simp only [ho, Region.wanted, hg, if_true]
  exact .inl (h _ fun _ _ h => h)
theorem tr_eff {i : Nat} {r : Tr} {a : Act} {w : World} {o : Oper} (ho : ops[i]? = some o) (hg : o.guard = none)
    (h : ∀ K : Act → World → Prop, (∀ a' w', ((kb i = true → S w') ∧ wpTree P ops Q S kb r a' w') → K a' w') → o.wp P a w K Q) : wpTree P ops Q S kb (.ef i r) a w := wo_eff ho hg h
theorem tr_br {i j : Nat} {l r : Tr} {a : Act} {w : World} {o o' : Oper} (ho : ops[i]? = some o) (hg : o.guard = none) (ho' : ops[j]? = some o') (hg' : o'.guard = none)
    (h : ∀ K : Act → World → Prop, (∀ a' w', ((kb i = true → S w') ∧ wpTree P ops Q S kb l a' w') → K a' w') → o.wp P a w K Q)
    (h' : ∀ K : Act → World → Prop, (∀ a' w', ((kb j = true → S w') ∧ wpTree P ops Q S kb r a' w') → K a' w') → o'.wp P a w K Q) : wpTree P ops Q S kb (.br i j l r) a w := ⟨wo_eff ho hg h, wo_eff ho' hg' h'⟩
end
end Go.Dm
