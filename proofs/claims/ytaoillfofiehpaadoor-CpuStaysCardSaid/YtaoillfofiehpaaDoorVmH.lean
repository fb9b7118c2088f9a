/- A region that draws its order, walked in one order that is given: operations that yield the same in every world of a class S are taken first; behind each of the others S is shown anew, where something may still come that leans on it. Masks of few bits. held, allowed: the errors of spans. No condition. -/
import Derived.Test.YtaoillfofiehpaaDoorRd
import Derived.OrdersHeld
import Derived.Test.YtaoillfofiehpaaDoorVmR
namespace Go.Dm
open Go

section
variable {P : Program} {ops : Array Oper} {Q : Exit → Act → World → Prop} {md : Region.Mode} {S : World → Prop} {kb : Nat → Bool}

/-- Whatever order is picked from here on, and S behind each operation of kb. -/
def wpAnyK (P : Program) (md : Region.Mode) (ops : Array Oper) (Q : Exit → Act → World → Prop) (S : World → Prop) (kb : Nat → Bool) : Nat → Array Bool → Act → World → Prop
  | 0, listed, a, w => Region.ready md ops listed = [] ∧ Q .normal a w
  | fuel + 1, listed, a, w =>
    (Region.ready md ops listed = [] → Q .normal a w) ∧
    ∀ i ∈ Region.ready md ops listed, wpOp P ops Q i (fun a' w' => (kb i = true → S w') ∧ wpAnyK P md ops Q S kb fuel (listed.setIfInBounds i true) a' w') a w

theorem wpAny_of_K : ∀ (fuel : Nat) (listed : Array Bool) (a : Act) (w : World), wpAnyK P md ops Q S kb fuel listed a w → wpAny P md ops Q fuel listed a w
  | 0, _, _, _, h => h
  | fuel + 1, _, _, _, h => ⟨h.1, fun i hi => wpOp_mono (fun a' w' h' => wpAny_of_K fuel _ a' w' h'.2) (h.2 i hi)⟩

/-- does number j wait for number i, at once or through others? -/
def reach (md : Region.Mode) (ops : Array Oper) : Nat → Nat → Nat → Bool
  | 0, _, _ => false
  | f + 1, j, i => match ops[j]? with
    | none => false
    | some oj => oj.after.any fun e => Region.binds md e && (e.on == i || reach md ops f e.on i)
def Closed (md : Region.Mode) (ops : Array Oper) (listed : Array Bool) : Prop :=
  ∀ (k : Nat) (ok : Oper), ops[k]? = some ok → listed.getD k false = true → ∀ e ∈ ok.after, Region.binds md e = true → listed.getD e.on false = true
theorem reach_listed {listed : Array Bool} (hc : Closed md ops listed) {i : Nat} : ∀ (f j : Nat) (oj : Oper), ops[j]? = some oj → (∀ e ∈ oj.after, Region.binds md e = true → listed.getD e.on false = true) → reach md ops f j i = true → listed.getD i false = true
  | 0, _, _, _, _, h => by simp [reach] at h
  | f + 1, j, oj, hj, ha, h => by
    simp only [reach, hj] at h
    obtain ⟨e, he, hb⟩ := Array.any_eq_true'.1 h
    simp only [Bool.and_eq_true, Bool.or_eq_true, beq_iff_eq] at hb
    obtain ⟨hb, h1 | h1⟩ := hb
    · rw [← h1]; exact ha e he hb
    · cases hk : ops[e.on]? with
      | none => cases f with
        | zero => simp [reach] at h1
        | succ f => simp [reach, hk] at h1
      | some ok => exact reach_listed hc f e.on ok hk (hc e.on ok hk (ha e he hb)) h1
theorem getD_set_same {listed : Array Bool} {i : Nat} (h : i < listed.size) : (listed.setIfInBounds i true).getD i false = true := by simp [h]
theorem Closed.step {listed : Array Bool} (hc : Closed md ops listed) {i : Nat} (hr : i ∈ Region.ready md ops listed) : Closed md ops (listed.setIfInBounds i true) := by
  have hmono : ∀ k, listed.getD k false = true → (listed.setIfInBounds i true).getD k false = true := by
    intro k hk
    by_cases e : i = k
    · subst e
      refine getD_set_same ?_
      rcases Nat.lt_or_ge i listed.size with h | h
      · exact h
      · simp [Array.getElem?_eq_none h] at hk
    · rw [getD_set_ne false e]; exact hk
  intro k ok hk hl e he hb
  by_cases ek : i = k
  · subst ek
    obtain ⟨_, oj, hoj, hall⟩ := mem_ready.1 hr
    rw [hk] at hoj; cases hoj
    exact hmono _ (hall e he hb)
  · rw [getD_set_ne false ek] at hl
    exact hmono _ (hc k ok hk hl e he hb)

theorem wpAnyK_first {i : Nat} {oi : Oper} {v : Value} (hi : ops[i]? = some oi) (hsel : ∀ (j : Nat) (o : Oper) cs b, ops[j]? = some o → o.op ≠ .select cs b)
    (hQ : ∀ c a w, Q (.panic c) (a.put oi.dst v) w → Q (.panic c) a w) :
    ∀ (fuel : Nat) (listed : Array Bool) (a : Act) (w : World),
      (∀ j oj, ops[j]? = some oj → j ≠ i → listed.getD j true = false → reach md ops ops.size j i = false → oi.apart ops oj = true ∧ kb j = true) →
      Closed md ops listed → i ∈ Region.ready md ops listed → YieldsIf P ops S oi v a → S w →
      wpAnyK P md ops Q S kb fuel (listed.setIfInBounds i true) (a.put oi.dst v) w → wpAnyK P md ops Q S kb (fuel + 1) listed a w := by
  intro fuel
  induction fuel with
  | zero =>
    intro listed a w _ _ hr hy hS H
    refine ⟨fun h => (by rw [h] at hr; cases hr), fun j hj => ?_⟩
    by_cases hji : j = i
    · subst hji; exact hy.wpOp hi hS ⟨fun _ => hS, H⟩
    · have := ready_mono hj hji
      rw [H.1] at this
      cases this
  | succ fuel ih =>
    intro listed a w hfree hcl hr hy hS H
    refine ⟨fun h => (by rw [h] at hr; cases hr), fun j hj => ?_⟩
    by_cases hji : j = i
    · subst hji; exact hy.wpOp hi hS ⟨fun _ => hS, H⟩
    · have h1 := H.2 j (ready_mono hj hji)
      obtain ⟨hjun, oj, hoj, hall⟩ := mem_ready.1 hj
      have hnot : reach md ops ops.size j i = false := by
        cases hq : reach md ops ops.size j i with
        | false => rfl
        | true =>
          have h1 := reach_listed hcl _ j oj hoj hall hq
          have h0 := (mem_ready.1 hr).1
          rcases Nat.lt_or_ge i listed.size with h' | h'
          · simp [h'] at h0 h1; rw [h0] at h1; cases h1
          · simp [Array.getElem?_eq_none h'] at h1
      obtain ⟨hap, hkb⟩ := hfree j oj hoj hji hjun hnot
      have h2 := wpOp_putIf hoj hap (fun cs b => hsel i oi cs b hi) (fun cs b => hsel j oj cs b hoj) hQ hy h1
      have hfree' : ∀ k ok, ops[k]? = some ok → k ≠ i → (listed.setIfInBounds j true).getD k true = false →
          reach md ops ops.size k i = false → oi.apart ops ok = true ∧ kb k = true := fun k ok hk hki hun hno => by
        refine hfree k ok hk hki ?_ hno
        by_cases hjk : j = k
        · subst hjk; exact hjun
        · rw [getD_set_ne true hjk] at hun; exact hun
      refine wpOp_mono (fun a' w' h3 => ⟨h3.2.1, ih (listed.setIfInBounds j true) a' w' hfree' (hcl.step hj) (ready_mono hr (Ne.symm hji)) h3.1 (h3.2.1 hkb) ?_⟩) h2
      rw [Array.setIfInBounds_comm _ _ hji]
      exact h3.2.2

/-- does it wait for number i at once? -/
def direct (md : Region.Mode) (oj : Oper) (i : Nat) : Bool := oj.after.any fun e => e.on == i && Region.binds md e
theorem direct_reach {i j f : Nat} {oj : Oper} (hj : ops[j]? = some oj) (h : direct md oj i = true) : reach md ops (f + 1) j i = true := by
  obtain ⟨e, he, hb⟩ := Array.any_eq_true'.1 h
  simp only [reach, hj]
  refine Array.any_eq_true'.2 ⟨e, he, ?_⟩
  simp only [Bool.and_eq_true] at hb
  rw [hb.2, hb.1]
  rfl
/-- may number i be taken first? -/
def freeK (md : Region.Mode) (ops : Array Oper) (kb : Nat → Bool) (listed : Array Bool) (i : Nat) : Bool :=
  match ops[i]? with
  | none => false
  | some oi => (List.range ops.size).all fun j => j == i || listed.getD j true || match ops[j]? with
      | some oj => (oi.apart ops oj && kb j) || direct md oj i || reach md ops ops.size j i
      | none => true

theorem freeK_spec {i : Nat} {oi : Oper} {listed : Array Bool} (hi : ops[i]? = some oi) (h : freeK md ops kb listed i = true) (j : Nat) (oj : Oper)
    (hj : ops[j]? = some oj) (hne : j ≠ i) (hun : listed.getD j true = false) (hno : reach md ops ops.size j i = false) :
    oi.apart ops oj = true ∧ kb j = true := by
  simp only [freeK, hi, List.all_eq_true, List.mem_range] at h
  have h1 := h j (Array.getElem?_eq_some_iff.1 hj).1
  simp only [hj, Bool.or_eq_true, beq_iff_eq, hne, false_or, hun, Bool.false_eq_true] at h1
  rw [hno] at h1
  have hsz := (Array.getElem?_eq_some_iff.1 hj).1
  have hd : direct md oj i = false := by
    cases hd : direct md oj i with
    | false => rfl
    | true =>
      obtain ⟨f, hf⟩ : ∃ f, ops.size = f + 1 := ⟨ops.size - 1, by omega⟩
      rw [hf, direct_reach hj hd] at hno
      cases hno
  rw [hd] at h1
  simpa using h1

/-- The given order: (number, does it yield the same in every world of S?). -/
def sigB (md : Region.Mode) (ops : Array Oper) (kb : Nat → Bool) : List (Nat × Bool) → Array Bool → Bool → Bool
  | [], listed, _ => (Region.ready md ops listed).isEmpty
  | (i, true) :: r, listed, s => s && (Region.ready md ops listed).contains i && freeK md ops kb listed i && sigB md ops kb r (listed.setIfInBounds i true) s
  | (i, false) :: r, listed, s => (Region.ready md ops listed == [i]) && sigB md ops kb r (listed.setIfInBounds i true) (s && kb i)

/-- The walk in that order. -/
def wpSig (P : Program) (ops : Array Oper) (Q : Exit → Act → World → Prop) (S : World → Prop) (kb : Nat → Bool) : List (Nat × Bool) → Act → World → Prop
  | [], a, w => Q .normal a w
  | (i, true) :: r, a, w => ∃ o v, ops[i]? = some o ∧ YieldsIf P ops S o v a ∧ wpSig P ops Q S kb r (a.put o.dst v) w
  | (i, false) :: r, a, w => wpOp P ops Q i (fun a' w' => (kb i = true → S w') ∧ wpSig P ops Q S kb r a' w') a w

theorem wpSig_sound (hs : Region.noSelect ops = true) (hQ : ∀ c a d v w, Q (.panic c) (a.put d v) w → Q (.panic c) a w) :
    ∀ (l : List (Nat × Bool)) (listed : Array Bool) (s : Bool) (a : Act) (w : World), sigB md ops kb l listed s = true → Closed md ops listed → (s = true → S w) → wpSig P ops Q S kb l a w → wpAnyK P md ops Q S kb l.length listed a w
  | [], listed, s, a, w, h, _, _, hq => by
    have : Region.ready md ops listed = [] := by simpa [sigB] using h
    exact ⟨this, hq⟩
  | (i, true) :: r, listed, s, a, w, h, hcl, hS, ⟨o, v, ho, hy, hq⟩ => by
    simp only [sigB, Bool.and_eq_true] at h
    obtain ⟨⟨⟨h1, h2⟩, h3⟩, h4⟩ := h
    exact wpAnyK_first ho (Region.noSelect_spec hs) (fun c a w => hQ c a _ _ w) r.length listed a w (freeK_spec ho h3) hcl (by simpa using h2) hy (hS h1)
      (wpSig_sound hs hQ r _ s _ w h4 (hcl.step (by simpa using h2)) hS hq)
  | (i, false) :: r, listed, s, a, w, h, hcl, hS, hq => by
    simp only [sigB, Bool.and_eq_true, beq_iff_eq] at h
    refine ⟨fun h0 => (by rw [h.1] at h0; cases h0), fun j hj => ?_⟩
    rw [h.1] at hj
    obtain rfl : j = i := by simpa using hj
    exact wpOp_mono (fun a' w' h' => ⟨h'.1, wpSig_sound hs hQ r _ (s && kb j) a' w' h.2 (hcl.step (by rw [h.1]; simp)) (fun hsk => h'.1 (Bool.and_eq_true_iff.1 hsk).2) h'.2⟩) hq

/-- The beginning. -/
theorem wp_region_sig {id : Nat} {a : Act} {w : World} (S : World → Prop) (kb : Nat → Bool) (l : List (Nat × Bool)) {o : List Oper} (hm : P.follows .mixedOrders = true)
    (hB : (Region.noSelect o.toArray && sigB .any o.toArray kb l (Array.replicate o.toArray.size false) true && (l.length == o.toArray.size)) = true)
    (hQ : ∀ c a d v w, Q (.panic c) (a.put d v) w → Q (.panic c) a w) (hS : S w.drew)
    (h : wpSig P o.toArray Q S kb l a w.drew) : (Code.region id o.toArray true).wp P Q a w := by
  simp only [Bool.and_eq_true, beq_iff_eq] at hB
  refine wp_region_any hm (wpAny_of_K (S := S) (kb := kb) _ _ _ _ ?_)
  have h2 := wpSig_sound (md := .any) hB.1.1 hQ l _ true a _ hB.1.2 (fun k ok _ hl => by rw [Array.getD_eq_getD_getElem?, Array.getElem?_replicate] at hl; split at hl <;> cases hl) (fun _ => hS) h
  rw [hB.2] at h2
  exact h2

theorem sig_nil {a : Act} {w : World} (h : Q .normal a w) : wpSig P ops Q S kb [] a w := h
theorem sig_still {i : Nat} {r : List (Nat × Bool)} {a : Act} {w : World} {o : Oper} {v : Value} (ho : ops[i]? = some o) (hg : o.guard = none)
    (hy : ∀ w', S w' → (execOp a.eval o).run P w' = .ok (.value v) w') (h : wpSig P ops Q S kb r (a.put o.dst v) w) : wpSig P ops Q S kb ((i, true) :: r) a w :=
  ⟨o, v, ho, .inl ⟨by simp [Region.wanted, hg], hy⟩, h⟩
theorem sig_guard {i : Nat} {r : List (Nat × Bool)} {a : Act} {w : World} {o : Oper} {v : Value} (ho : ops[i]? = some o) (hg : Region.wanted o (yielded ops a.tmps) = true)
    (hy : ∀ w', S w' → (execOp a.eval o).run P w' = .ok (.value v) w') (h : wpSig P ops Q S kb r (a.put o.dst v) w) : wpSig P ops Q S kb ((i, true) :: r) a w :=
  ⟨o, v, ho, .inl ⟨hg, hy⟩, h⟩
theorem sig_skip {i : Nat} {r : List (Nat × Bool)} {a : Act} {w : World} {o : Oper} (ho : ops[i]? = some o) (hg : Region.wanted o (yielded ops a.tmps) = false)
    (h : wpSig P ops Q S kb r (a.put o.dst undef) w) : wpSig P ops Q S kb ((i, true) :: r) a w :=
  ⟨o, undef, ho, .inr ⟨hg, rfl⟩, h⟩
theorem sig_eff {i : Nat} {r : List (Nat × Bool)} {a : Act} {w : World} {o : Oper} (ho : ops[i]? = some o) (hg : o.guard = none)
    (h : ∀ K : Act → World → Prop, (∀ a' w', ((kb i = true → S w') ∧ wpSig P ops Q S kb r a' w') → K a' w') → o.wp P a w K Q) : wpSig P ops Q S kb ((i, false) :: r) a w := by
  show wpOp _ _ _ _ _ _ _
  unfold wpOp
  simp only [ho, Region.wanted, hg, if_true]
  exact .inl (h _ fun _ _ h => h)

theorem sig_effg {i : Nat} {r : List (Nat × Bool)} {a : Act} {w : World} {o : Oper} (ho : ops[i]? = some o) (hg : Region.wanted o (yielded ops a.tmps) = true)
    (h : ∀ K : Act → World → Prop, (∀ a' w', ((kb i = true → S w') ∧ wpSig P ops Q S kb r a' w') → K a' w') → o.wp P a w K Q) : wpSig P ops Q S kb ((i, false) :: r) a w := by
  show wpOp _ _ _ _ _ _ _
  unfold wpOp
  simp only [ho, hg, if_true]
  exact .inl (h _ fun _ _ h => h)
theorem wo_append {o : Oper} {a : Act} {w : World} {K : Act → World → Prop} (x y : Operand) (t1 t2 : TypeId) (ho : o.op = .call { callee := .builtin .append, args := #[x, y], argTypes := #[t1, t2] })
    (v1 v2 : Value) (h1 : a.eval x = v1) (h2 : a.eval y = v2) (h : AppendGoal P t1 t2 o.type v1 v2 w fun v w' => K (a.put o.dst v) w') : o.wp P a w K Q := by
  obtain ⟨v, w', hr, hk⟩ := h
  unfold Oper.wp execOp
  simp only [ho, resolve, invoke, builtin, Sem.run_bind, Sem.run_pure, Result.andThen_ok, List.map_toArray, List.map_cons, List.map_nil, h1, h2, hr]
  exact hk
end
end Go.Dm
namespace Go.Dm
open Go Go.RowKit

/-- x & b, for numbers b of few bits -/
def mask (x : Int) (b : Nat) : Nat := (BitVec.ofInt 64 x).toNat &&& b
theorem mask_le (x : Int) (b : Nat) : mask x b ≤ b := Nat.and_le_right
theorem mask_eq (x : Int) (b : Nat) (hb : b < 4294967296) : bits .and .i64 x (b : Int) = (mask x b : Int) := by
  have h2 : (BitVec.ofInt 64 (b : Int)).toNat = b := by
    rw [BitVec.ofInt_natCast, BitVec.toNat_ofNat]; exact Nat.mod_eq_of_lt (by omega)
  have hx := mask_le x b
  unfold mask at hx
  show IntKind.i64.wrap ((BitVec.ofInt 64 x &&& BitVec.ofInt 64 (b : Int)).toNat : Int) = _
  rw [BitVec.toNat_and, h2, IntKind.wrap_i64]
  unfold mask
  omega
end Go.Dm
namespace Go.Proofs.YtaoillfofiehpaaDoor
open Go.RowKit Go.Dm Go.Dm.Vm Go.Maps

section
variable {A : Nat → Prop} {w : World} {d mb x y : Nat} {f : Nat → Nat} {m : V}
def held1E (m : V) (a : Nat) : Nat := if (pageAt m a).isSome then 0 else 40
set_option maxRecDepth 100000 in
set_option maxHeartbeats 1000000 in
theorem vheld1_any (a : Nat) (ha : a < 18446744073709551616) (h : SRep A w d m mb f) (hx : Blk w x #[ptrTo d] 27) :
    Calls Tryd.prog 32 #[.int .u64 (a : Int), ptrTo x] w fun e w' => e = .returned (.int .i64 (held1E m a : Nat)) ∧ w = w' := by
  have q0 : w.cell? ⟨x, 0, none⟩ = some (ptrTo d) := hx.cell 0
  have q1 : w.cell? ⟨d, 0, none⟩ = some (.map (some mb)) := h.blk.cell 0
  unfold ptrTo at q0 ⊢
  clear hx
  go_enter Tryd.func32, Tryd.ntmps32
  go_wp2_with (first | (at_builtin; refine wl_append rfl _ _ _ _ rfl _ _ rfl rfl ?_) | (at_make; refine wl_make rfl _ _ _ rfl _ _ rfl rfl ?_) | (at_mapUpdate; refine wl_mapUpdate rfl _ _ _ _ rfl _ _ _ rfl rfl rfl ?_) | (at_lookup; refine wl_lookup rfl _ _ _ _ rfl _ _ rfl rfl ?_) | (at_delete; refine wl_delete rfl _ _ _ _ rfl _ _ rfl rfl ?_) | (with_reducible refine wl_len rfl _ _ rfl _ rfl ?_) | (with_reducible refine wl_range rfl _ _ rfl _ rfl ?_) | (with_reducible refine wl_next rfl _ rfl _ rfl ?_) | (with_reducible refine wl_copy rfl _ _ _ _ rfl _ _ rfl rfl ?_) | (with_reducible refine wl_max rfl _ _ _ _ rfl _ _ rfl rfl ?_) | (with_reducible refine wl_min rfl _ _ _ _ rfl _ _ rfl rfl ?_))
  refine rg_lookup h.mp kU64 Tryd.underlying45 (zPage w) (kOf ha) ?_
  rw [findL_VL]
  cases hg : pageAt m a with
  | none =>
    have HE : Hid (held1E m a = 40) := Lib.hid (by unfold held1E; rw [hg]; rfl)
    simp only [Option.map_none, Option.getD_none]
    go_wp2_with (first | (at_builtin; refine wl_append rfl _ _ _ _ rfl _ _ rfl rfl ?_) | (at_make; refine wl_make rfl _ _ _ rfl _ _ rfl rfl ?_) | (at_mapUpdate; refine wl_mapUpdate rfl _ _ _ _ rfl _ _ _ rfl rfl rfl ?_) | (at_lookup; refine wl_lookup rfl _ _ _ _ rfl _ _ rfl rfl ?_) | (at_delete; refine wl_delete rfl _ _ _ _ rfl _ _ rfl rfl ?_) | (with_reducible refine wl_len rfl _ _ rfl _ rfl ?_) | (with_reducible refine wl_range rfl _ _ rfl _ rfl ?_) | (with_reducible refine wl_next rfl _ rfl _ rfl ?_) | (with_reducible refine wl_copy rfl _ _ _ _ rfl _ _ rfl rfl ?_) | (with_reducible refine wl_max rfl _ _ _ _ rfl _ _ rfl rfl ?_) | (with_reducible refine wl_min rfl _ _ _ _ rfl _ _ rfl rfl ?_))
    go_ret
    rw [HE.out]
    exact ⟨rfl, rfl⟩
  | some p =>
    have HE : Hid (held1E m a = 0) := Lib.hid (by unfold held1E; rw [hg]; rfl)
    simp only [Option.map_some, Option.getD_some]
    unfold ptrTo
    go_wp2_with (first | (at_builtin; refine wl_append rfl _ _ _ _ rfl _ _ rfl rfl ?_) | (at_make; refine wl_make rfl _ _ _ rfl _ _ rfl rfl ?_) | (at_mapUpdate; refine wl_mapUpdate rfl _ _ _ _ rfl _ _ _ rfl rfl rfl ?_) | (at_lookup; refine wl_lookup rfl _ _ _ _ rfl _ _ rfl rfl ?_) | (at_delete; refine wl_delete rfl _ _ _ _ rfl _ _ rfl rfl ?_) | (with_reducible refine wl_len rfl _ _ rfl _ rfl ?_) | (with_reducible refine wl_range rfl _ _ rfl _ rfl ?_) | (with_reducible refine wl_next rfl _ rfl _ rfl ?_) | (with_reducible refine wl_copy rfl _ _ _ _ rfl _ _ rfl rfl ?_) | (with_reducible refine wl_max rfl _ _ _ _ rfl _ _ rfl rfl ?_) | (with_reducible refine wl_min rfl _ _ _ _ rfl _ _ rfl rfl ?_))
    go_ret
    rw [HE.out]
    exact ⟨rfl, rfl⟩
theorem Enters.of2 {f : Nat} (h : ∀ a b : Value, Enters f #[a, b]) (b : Value) : ∀ a, Enters f (#[a] ++ #[b]) := fun a => h a b
theorem there_take (m : V) (addr size : Nat) : there m addr size = true ↔ ∀ k, k < pagesN addr size → (pageAt m (pageOf addr + 256 * k)).isSome = true := by
  unfold there pagesOf
  rw [List.all_eq_true]
  constructor
  · intro h k hk
    exact h _ (List.mem_map.2 ⟨k, List.mem_range.2 hk, rfl⟩)
  · intro h a ha
    obtain ⟨k, hk, rfl⟩ := List.mem_map.1 ha
    exact h k (List.mem_range.1 hk)
set_option maxRecDepth 100000 in
set_option maxHeartbeats 1000000 in
theorem vheld_any (addr size : Nat) (hs : 0 < size) (ha : addr < 18446744073709551616) (hz : size < 18446744073709551616) (h : SRep A w d m mb f) (hA : ∀ k, A k → k < w.heap.size) :
    Calls Tryd.prog 22 #[ptrTo d, .int .u64 (addr : Int), .int .u64 (size : Int)] w fun e w' => e = .returned (.int .i64 (heldE m addr size : Nat)) ∧ Keep No w w' := by
  have hdef : heldE m addr size = if addr > top ∨ size > top - addr ∨ size > 131328 then 40 else if there m addr size then 0 else 40 := rfl
  have HD := Lib.hid hdef
  have ht : top = 4294967296 := rfl
  clear hdef
  unfold ptrTo
  go_enter Tryd.func22, Tryd.ntmps22
  by_cases hbad : addr > top ∨ size > top - addr ∨ size > 131328
  · have he : heldE m addr size = 40 := by rw [HD.out, if_pos hbad]
    have HE := Lib.hid he
    clear he HD
    have h3 : (addr : Int) > 4294967296 ∨ ((addr : Int) ≤ 4294967296 ∧ (size : Int) > 4294967296 - (addr : Int)) ∨ ((addr : Int) ≤ 4294967296 ∧ (size : Int) ≤ 4294967296 - (addr : Int) ∧ (size : Int) > 131328) := by omega
    rcases h3 with h3 | ⟨h3, h4⟩ | ⟨h3, h4, h5⟩
    all_goals
      go_wp2_with (first | (at_builtin; refine wl_append rfl _ _ _ _ rfl _ _ rfl rfl ?_) | (at_make; refine wl_make rfl _ _ _ rfl _ _ rfl rfl ?_) | (at_mapUpdate; refine wl_mapUpdate rfl _ _ _ _ rfl _ _ _ rfl rfl rfl ?_) | (at_lookup; refine wl_lookup rfl _ _ _ _ rfl _ _ rfl rfl ?_) | (at_delete; refine wl_delete rfl _ _ _ _ rfl _ _ rfl rfl ?_) | (with_reducible refine wl_len rfl _ _ rfl _ rfl ?_) | (with_reducible refine wl_range rfl _ _ rfl _ rfl ?_) | (with_reducible refine wl_next rfl _ rfl _ rfl ?_) | (with_reducible refine wl_copy rfl _ _ _ _ rfl _ _ rfl rfl ?_) | (with_reducible refine wl_max rfl _ _ _ _ rfl _ _ rfl rfl ?_) | (with_reducible refine wl_min rfl _ _ _ _ rfl _ _ rfl rfl ?_))
      go_ret
      rw [HE.out]
      exact ⟨rfl, (Keep.refl _ _).alloc _⟩
  · have h3 : (addr : Int) ≤ 4294967296 := by omega
    have h4 : (size : Int) ≤ 4294967296 - (addr : Int) := by omega
    have h5 : (size : Int) ≤ 131328 := by omega
    have he : heldE m addr size = if there m addr size then 0 else 40 := by rw [HD.out, if_neg hbad]
    have HE := Lib.hid he
    clear he HD
    go_wp2_with (first | (at_builtin; refine wl_append rfl _ _ _ _ rfl _ _ rfl rfl ?_) | (at_make; refine wl_make rfl _ _ _ rfl _ _ rfl rfl ?_) | (at_mapUpdate; refine wl_mapUpdate rfl _ _ _ _ rfl _ _ _ rfl rfl rfl ?_) | (at_lookup; refine wl_lookup rfl _ _ _ _ rfl _ _ rfl rfl ?_) | (at_delete; refine wl_delete rfl _ _ _ _ rfl _ _ rfl rfl ?_) | (with_reducible refine wl_len rfl _ _ rfl _ rfl ?_) | (with_reducible refine wl_range rfl _ _ rfl _ rfl ?_) | (with_reducible refine wl_next rfl _ rfl _ rfl ?_) | (with_reducible refine wl_copy rfl _ _ _ _ rfl _ _ rfl rfl ?_) | (with_reducible refine wl_max rfl _ _ _ _ rfl _ _ rfl rfl ?_) | (with_reducible refine wl_min rfl _ _ _ _ rfl _ _ rfl rfl ?_))
    have hkW : Keep No w (w.alloc (.cells #[.pointer (some ⟨d, 0, none⟩)] 27)) := (Keep.refl _ _).alloc _
    have hBW : Blk (w.alloc (.cells #[.pointer (some ⟨d, 0, none⟩)] 27)) w.heap.size #[.pointer (some ⟨d, 0, none⟩)] 27 := Blk.new _ _ _
    have hzW : (w.alloc (.cells #[.pointer (some ⟨d, 0, none⟩)] 27)).heap.size = w.heap.size + 1 := World.size_alloc _ _
    generalize w.alloc (.cells #[.pointer (some ⟨d, 0, none⟩)] 27) = W at *
    refine (veach_any addr size (fun k w' => Keep No W w' ∧ ∀ j, j < k → (pageAt m (pageOf addr + 256 * j)).isSome = true) (fun er w' => er = 40 ∧ Keep No W w' ∧ there m addr size = false) hs (by omega) (by omega) (Enters.of2 (fun a b w => by kernel_rfl) _) ⟨Keep.refl _ _, fun j hj => absurd hj (Nat.not_lt_zero _)⟩ ?_).mono ?_
    · rintro k w' hk ⟨hK, hall⟩
      have hpl := pageOf_le addr
      have hiff := (pages_step addr size k hs).2 hk
      refine (vheld1_any (x := w.heap.size) (pageOf addr + 256 * k) (by omega) (h.same fun j hj => ?_) (hBW.keep hK fun h => h)).mono ?_
      · exact ((hkW.trans' hK).block j (hA j hj) fun h => h)
      · rintro e w2 ⟨rfl, rfl⟩
        cases hg : (pageAt m (pageOf addr + 256 * k)).isSome with
        | true =>
          refine .inl ⟨by simp [held1E, hg], hK, fun j hj => ?_⟩
          rcases Nat.lt_or_ge j k with h | h
          · exact hall j h
          · obtain rfl : j = k := by omega
            exact hg
        | false =>
          refine .inr ⟨40, by decide, by simp [held1E, hg], rfl, hK, ?_⟩
          cases ht : there m addr size with
          | false => rfl
          | true => rw [(there_take m addr size).1 ht k hk] at hg; cases hg
    · rintro e w' (⟨rfl, hK, hall⟩ | ⟨er, hne, rfl, rfl, hK, hth⟩)
      · have hth : there m addr size = true := (there_take m addr size).2 hall
        go_wp2_with (first | (at_builtin; refine wl_append rfl _ _ _ _ rfl _ _ rfl rfl ?_) | (at_make; refine wl_make rfl _ _ _ rfl _ _ rfl rfl ?_) | (at_mapUpdate; refine wl_mapUpdate rfl _ _ _ _ rfl _ _ _ rfl rfl rfl ?_) | (at_lookup; refine wl_lookup rfl _ _ _ _ rfl _ _ rfl rfl ?_) | (at_delete; refine wl_delete rfl _ _ _ _ rfl _ _ rfl rfl ?_) | (with_reducible refine wl_len rfl _ _ rfl _ rfl ?_) | (with_reducible refine wl_range rfl _ _ rfl _ rfl ?_) | (with_reducible refine wl_next rfl _ rfl _ rfl ?_) | (with_reducible refine wl_copy rfl _ _ _ _ rfl _ _ rfl rfl ?_) | (with_reducible refine wl_max rfl _ _ _ _ rfl _ _ rfl rfl ?_) | (with_reducible refine wl_min rfl _ _ _ _ rfl _ _ rfl rfl ?_))
        go_ret
        rw [HE.out, if_pos hth]
        exact ⟨rfl, hkW.trans' hK⟩
      · go_wp2_with (first | (at_builtin; refine wl_append rfl _ _ _ _ rfl _ _ rfl rfl ?_) | (at_make; refine wl_make rfl _ _ _ rfl _ _ rfl rfl ?_) | (at_mapUpdate; refine wl_mapUpdate rfl _ _ _ _ rfl _ _ _ rfl rfl rfl ?_) | (at_lookup; refine wl_lookup rfl _ _ _ _ rfl _ _ rfl rfl ?_) | (at_delete; refine wl_delete rfl _ _ _ _ rfl _ _ rfl rfl ?_) | (with_reducible refine wl_len rfl _ _ rfl _ rfl ?_) | (with_reducible refine wl_range rfl _ _ rfl _ rfl ?_) | (with_reducible refine wl_next rfl _ rfl _ rfl ?_) | (with_reducible refine wl_copy rfl _ _ _ _ rfl _ _ rfl rfl ?_) | (with_reducible refine wl_max rfl _ _ _ _ rfl _ _ rfl rfl ?_) | (with_reducible refine wl_min rfl _ _ _ _ rfl _ _ rfl rfl ?_))
        go_ret
        rw [HE.out, if_neg (by rw [hth]; decide)]
        exact ⟨rfl, hkW.trans' hK⟩
theorem and_nat (a b : Nat) (ha : a < 4294967296) (hb : b < 4294967296) : bits .and .i64 (a : Int) (b : Int) = ((a &&& b : Nat) : Int) := by
  rw [mask_eq (a : Int) b hb]
  unfold mask
  rw [BitVec.ofInt_natCast, BitVec.toNat_ofNat, Nat.mod_eq_of_lt (by omega)]
def allow1E (m : V) (what a : Nat) : Nat := match pageAt m a with | some p => if p.prot &&& what = 0 then 41 else 0 | none => 41
def allowedE (m : V) (addr size what : Nat) : Nat := if (pagesOf addr size).all (fun a => allow1E m what a == 0) then 0 else 41
set_option maxRecDepth 100000 in
set_option maxHeartbeats 1000000 in
theorem vallowed1_any (a what : Nat) (hw : what < 8) {p : Pg} (ha : a < 18446744073709551616) (h : SRep A w d m mb f) (hg : pageAt m a = some p) (hx : Blk w x #[ptrTo d] 27) (hy : Blk w y #[.int .i64 (what : Int)] 3) :
    Calls Tryd.prog 39 #[.int .u64 (a : Int), ptrTo x, ptrTo y] w fun e w' => e = .returned (.int .i64 (allow1E m what a : Nat)) ∧ Keep No w w' := by
  have q0 : w.cell? ⟨x, 0, none⟩ = some (ptrTo d) := hx.cell 0
  have q1 : w.cell? ⟨y, 0, none⟩ = some (.int .i64 (what : Int)) := hy.cell 0
  have q2 : w.cell? ⟨d, 0, none⟩ = some (.map (some mb)) := h.blk.cell 0
  obtain ⟨hpm, hpa⟩ := get_mem hg
  have hB := (h.pg p hpm).2
  have q3 : w.cell? ⟨f p.addr, 0, none⟩ = some (.int .i64 (p.prot : Int)) := hB.cell 0
  have hpr := (h.ok.pg p hpm).pr
  have hlk : (Instr.lookup 45 (.map (some mb)) (.int .u64 (a : Int)) false).run Tryd.prog w = .ok (.pointer (some ⟨f p.addr, 0, none⟩)) w := by
    have h1 := h.mp.lookup kU64 Tryd.underlying45 (zPage w) (kOf ha)
    rw [findL_VL, hg] at h1
    exact h1
  have hlkd : (Instr.lookup 45 (.map (some mb)) (.int .u64 (a : Int)) false).run Tryd.prog w.drew = .ok (.pointer (some ⟨f p.addr, 0, none⟩)) w.drew := by
    have h1 := (h.mp.same (w' := w.drew) rfl).lookup kU64 Tryd.underlying45 (zPage w.drew) (kOf ha)
    rw [findL_VL, hg] at h1
    exact h1
  have he : allow1E m what a = if p.prot &&& what = 0 then 41 else 0 := by unfold allow1E; rw [hg]
  have hand := and_nat p.prot what (by omega) (by omega)
  have HE := Lib.hid he
  clear he hx hy hB hg hpa
  unfold ptrTo at q0 ⊢
  generalize f p.addr = g at *
  generalize p.prot &&& what = z at *
  by_cases hz : z = 0
  · subst hz
    go_enter Tryd.func39, Tryd.ntmps39
    go_wp2_with (first | (at_builtin; refine wl_append rfl _ _ _ _ rfl _ _ rfl rfl ?_) | (at_make; refine wl_make rfl _ _ _ rfl _ _ rfl rfl ?_) | (at_mapUpdate; refine wl_mapUpdate rfl _ _ _ _ rfl _ _ _ rfl rfl rfl ?_) | (at_lookup; refine wl_lookup rfl _ _ _ _ rfl _ _ rfl rfl ?_) | (at_delete; refine wl_delete rfl _ _ _ _ rfl _ _ rfl rfl ?_) | (with_reducible refine wl_len rfl _ _ rfl _ rfl ?_) | (with_reducible refine wl_range rfl _ _ rfl _ rfl ?_) | (with_reducible refine wl_next rfl _ rfl _ rfl ?_) | (with_reducible refine wl_copy rfl _ _ _ _ rfl _ _ rfl rfl ?_) | (with_reducible refine wl_max rfl _ _ _ _ rfl _ _ rfl rfl ?_) | (with_reducible refine wl_min rfl _ _ _ _ rfl _ _ rfl rfl ?_))
    refine wp_region_sig (fun w' => w'.cell? ⟨x, 0, none⟩ = some (.pointer (some ⟨d, 0, none⟩)) ∧ w'.cell? ⟨y, 0, none⟩ = some (.int .i64 (what : Int)) ∧ w'.cell? ⟨d, 0, none⟩ = some (.map (some mb)) ∧ w'.cell? ⟨g, 0, none⟩ = some (.int .i64 (p.prot : Int)) ∧ (Instr.lookup 45 (.map (some mb)) (.int .u64 (a : Int)) false).run Tryd.prog w' = .ok (.pointer (some ⟨g, 0, none⟩)) w') (fun j => decide (j ≤ 99)) [(0, true), (1, true), (2, true), (3, true), (4, true), (5, true), (6, true), (7, true), (8, true), (9, true), (10, true), (11, true)] (by kernel_rfl) (by kernel_rfl) (by intro c a d v w h; cases d <;> exact h) ⟨q0, q1, q2, q3, hlkd⟩ ?_
    apply sig_still (o := ⟨some 5, _, _, _, _, _⟩) rfl rfl
    · intro w' hS
      obtain ⟨q1, q2, q3, q4, q5⟩ := hS
      first | (go_simp; done) | (go_simp; rfl) | rfl
    go_frame
    apply sig_still (o := ⟨some 6, _, _, _, _, _⟩) rfl rfl
    · intro w' hS
      obtain ⟨q1, q2, q3, q4, q5⟩ := hS
      first | (go_simp; done) | (go_simp; rfl) | rfl
    go_frame
    apply sig_still (o := ⟨some 7, _, _, _, _, _⟩) rfl rfl
    · intro w' hS
      obtain ⟨q1, q2, q3, q4, q5⟩ := hS
      first | (go_simp; done) | (go_simp; rfl) | rfl
    go_frame
    apply sig_still (o := ⟨some 8, _, _, _, _, _⟩) rfl rfl
    · intro w' hS
      obtain ⟨q1, q2, q3, q4, q5⟩ := hS
      first | (go_simp; done) | (go_simp; rfl) | rfl
    go_frame
    apply sig_still (o := ⟨some 9, _, _, _, _, _⟩) rfl rfl
    · intro w' hS
      obtain ⟨q1, q2, q3, q4, q5⟩ := hS
      first | (go_simp; done) | (go_simp; rfl) | rfl
    go_frame
    apply sig_still (o := ⟨some 10, _, _, _, _, _⟩) rfl rfl
    · intro w' hS
      obtain ⟨q1, q2, q3, q4, q5⟩ := hS
      first | (go_simp; done) | (go_simp; rfl) | rfl
    go_frame
    apply sig_still (o := ⟨some 11, _, _, _, _, _⟩) rfl rfl
    · intro w' hS
      obtain ⟨q1, q2, q3, q4, q5⟩ := hS
      first | (go_simp; done) | (go_simp; rfl) | rfl
    go_frame
    apply sig_still (o := ⟨some 12, _, _, _, _, _⟩) rfl rfl
    · intro w' hS
      obtain ⟨q1, q2, q3, q4, q5⟩ := hS
      first | (go_simp; done) | (go_simp; rfl) | rfl
    go_frame
    apply sig_still (o := ⟨some 13, _, _, _, _, _⟩) rfl rfl
    · intro w' hS
      obtain ⟨q1, q2, q3, q4, q5⟩ := hS
      first | (go_simp; done) | (go_simp; rfl) | rfl
    go_frame
    apply sig_still (o := ⟨some 14, _, _, _, _, _⟩) rfl rfl
    · intro w' hS
      obtain ⟨q1, q2, q3, q4, q5⟩ := hS
      first | (go_simp; done) | (go_simp; rfl) | rfl
    go_frame
    apply sig_still (o := ⟨some 15, _, _, _, _, _⟩) rfl rfl
    · intro w' hS
      obtain ⟨q1, q2, q3, q4, q5⟩ := hS
      first | (go_simp; done) | (go_simp; rfl) | rfl
    go_frame
    apply sig_still (o := ⟨some 16, _, _, _, _, _⟩) rfl rfl
    · intro w' hS
      obtain ⟨q1, q2, q3, q4, q5⟩ := hS
      first | (go_simp; done) | (go_simp; rfl) | rfl
    go_frame
    refine sig_nil ?_
    go_wp2_with (first | (at_builtin; refine wl_append rfl _ _ _ _ rfl _ _ rfl rfl ?_) | (at_make; refine wl_make rfl _ _ _ rfl _ _ rfl rfl ?_) | (at_mapUpdate; refine wl_mapUpdate rfl _ _ _ _ rfl _ _ _ rfl rfl rfl ?_) | (at_lookup; refine wl_lookup rfl _ _ _ _ rfl _ _ rfl rfl ?_) | (at_delete; refine wl_delete rfl _ _ _ _ rfl _ _ rfl rfl ?_) | (with_reducible refine wl_len rfl _ _ rfl _ rfl ?_) | (with_reducible refine wl_range rfl _ _ rfl _ rfl ?_) | (with_reducible refine wl_next rfl _ rfl _ rfl ?_) | (with_reducible refine wl_copy rfl _ _ _ _ rfl _ _ rfl rfl ?_) | (with_reducible refine wl_max rfl _ _ _ _ rfl _ _ rfl rfl ?_) | (with_reducible refine wl_min rfl _ _ _ _ rfl _ _ rfl rfl ?_))
    go_ret
    exact ⟨by rw [HE.out]; rfl, (Keep.refl _ _).drew⟩
  · have hz' : ((z : Int) == 0) = false := by simpa using hz
    go_enter Tryd.func39, Tryd.ntmps39
    go_wp2_with (first | (at_builtin; refine wl_append rfl _ _ _ _ rfl _ _ rfl rfl ?_) | (at_make; refine wl_make rfl _ _ _ rfl _ _ rfl rfl ?_) | (at_mapUpdate; refine wl_mapUpdate rfl _ _ _ _ rfl _ _ _ rfl rfl rfl ?_) | (at_lookup; refine wl_lookup rfl _ _ _ _ rfl _ _ rfl rfl ?_) | (at_delete; refine wl_delete rfl _ _ _ _ rfl _ _ rfl rfl ?_) | (with_reducible refine wl_len rfl _ _ rfl _ rfl ?_) | (with_reducible refine wl_range rfl _ _ rfl _ rfl ?_) | (with_reducible refine wl_next rfl _ rfl _ rfl ?_) | (with_reducible refine wl_copy rfl _ _ _ _ rfl _ _ rfl rfl ?_) | (with_reducible refine wl_max rfl _ _ _ _ rfl _ _ rfl rfl ?_) | (with_reducible refine wl_min rfl _ _ _ _ rfl _ _ rfl rfl ?_))
    refine wp_region_sig (fun w' => w'.cell? ⟨x, 0, none⟩ = some (.pointer (some ⟨d, 0, none⟩)) ∧ w'.cell? ⟨y, 0, none⟩ = some (.int .i64 (what : Int)) ∧ w'.cell? ⟨d, 0, none⟩ = some (.map (some mb)) ∧ w'.cell? ⟨g, 0, none⟩ = some (.int .i64 (p.prot : Int)) ∧ (Instr.lookup 45 (.map (some mb)) (.int .u64 (a : Int)) false).run Tryd.prog w' = .ok (.pointer (some ⟨g, 0, none⟩)) w') (fun j => decide (j ≤ 99)) [(0, true), (1, true), (2, true), (3, true), (4, true), (5, true), (6, true), (7, true), (8, true), (9, true), (10, true), (11, true)] (by kernel_rfl) (by kernel_rfl) (by intro c a d v w h; cases d <;> exact h) ⟨q0, q1, q2, q3, hlkd⟩ ?_
    apply sig_still (o := ⟨some 5, _, _, _, _, _⟩) rfl rfl
    · intro w' hS
      obtain ⟨q1, q2, q3, q4, q5⟩ := hS
      first | (go_simp; done) | (go_simp; rfl) | rfl
    go_frame
    apply sig_still (o := ⟨some 6, _, _, _, _, _⟩) rfl rfl
    · intro w' hS
      obtain ⟨q1, q2, q3, q4, q5⟩ := hS
      first | (go_simp; done) | (go_simp; rfl) | rfl
    go_frame
    apply sig_still (o := ⟨some 7, _, _, _, _, _⟩) rfl rfl
    · intro w' hS
      obtain ⟨q1, q2, q3, q4, q5⟩ := hS
      first | (go_simp; done) | (go_simp; rfl) | rfl
    go_frame
    apply sig_still (o := ⟨some 8, _, _, _, _, _⟩) rfl rfl
    · intro w' hS
      obtain ⟨q1, q2, q3, q4, q5⟩ := hS
      first | (go_simp; done) | (go_simp; rfl) | rfl
    go_frame
    apply sig_still (o := ⟨some 9, _, _, _, _, _⟩) rfl rfl
    · intro w' hS
      obtain ⟨q1, q2, q3, q4, q5⟩ := hS
      first | (go_simp; done) | (go_simp; rfl) | rfl
    go_frame
    apply sig_still (o := ⟨some 10, _, _, _, _, _⟩) rfl rfl
    · intro w' hS
      obtain ⟨q1, q2, q3, q4, q5⟩ := hS
      first | (go_simp; done) | (go_simp; rfl) | rfl
    go_frame
    apply sig_still (o := ⟨some 11, _, _, _, _, _⟩) rfl rfl
    · intro w' hS
      obtain ⟨q1, q2, q3, q4, q5⟩ := hS
      first | (go_simp; done) | (go_simp; rfl) | rfl
    go_frame
    apply sig_still (o := ⟨some 12, _, _, _, _, _⟩) rfl rfl
    · intro w' hS
      obtain ⟨q1, q2, q3, q4, q5⟩ := hS
      first | (go_simp; done) | (go_simp; rfl) | rfl
    go_frame
    apply sig_still (o := ⟨some 13, _, _, _, _, _⟩) rfl rfl
    · intro w' hS
      obtain ⟨q1, q2, q3, q4, q5⟩ := hS
      first | (go_simp; done) | (go_simp; rfl) | rfl
    go_frame
    apply sig_still (o := ⟨some 14, _, _, _, _, _⟩) rfl rfl
    · intro w' hS
      obtain ⟨q1, q2, q3, q4, q5⟩ := hS
      first | (go_simp; done) | (go_simp; rfl) | rfl
    go_frame
    apply sig_still (o := ⟨some 15, _, _, _, _, _⟩) rfl rfl
    · intro w' hS
      obtain ⟨q1, q2, q3, q4, q5⟩ := hS
      first | (go_simp; done) | (go_simp; rfl) | rfl
    go_frame
    apply sig_still (o := ⟨some 16, _, _, _, _, _⟩) rfl rfl
    · intro w' hS
      obtain ⟨q1, q2, q3, q4, q5⟩ := hS
      first | (go_simp; done) | (go_simp; rfl) | rfl
    go_frame
    refine sig_nil ?_
    go_wp2_with (first | (at_builtin; refine wl_append rfl _ _ _ _ rfl _ _ rfl rfl ?_) | (at_make; refine wl_make rfl _ _ _ rfl _ _ rfl rfl ?_) | (at_mapUpdate; refine wl_mapUpdate rfl _ _ _ _ rfl _ _ _ rfl rfl rfl ?_) | (at_lookup; refine wl_lookup rfl _ _ _ _ rfl _ _ rfl rfl ?_) | (at_delete; refine wl_delete rfl _ _ _ _ rfl _ _ rfl rfl ?_) | (with_reducible refine wl_len rfl _ _ rfl _ rfl ?_) | (with_reducible refine wl_range rfl _ _ rfl _ rfl ?_) | (with_reducible refine wl_next rfl _ rfl _ rfl ?_) | (with_reducible refine wl_copy rfl _ _ _ _ rfl _ _ rfl rfl ?_) | (with_reducible refine wl_max rfl _ _ _ _ rfl _ _ rfl rfl ?_) | (with_reducible refine wl_min rfl _ _ _ _ rfl _ _ rfl rfl ?_))
    go_ret
    rw [HE.out, if_neg hz]
    exact ⟨rfl, (Keep.refl _ _).drew⟩
theorem Enters.of3 {f : Nat} (h : ∀ a b c : Value, Enters f #[a, b, c]) (b c : Value) : ∀ a, Enters f (#[a] ++ #[b, c]) := fun a => h a b c
set_option maxRecDepth 100000 in
set_option maxHeartbeats 1000000 in
theorem vallowed_any (addr size what : Nat) (hw : what < 8) (hs : 0 < size) (ha : addr ≤ top) (hz : size ≤ top - addr) (hth : there m addr size = true) (h : SRep A w d m mb f) (hA : ∀ k, A k → k < w.heap.size) :
    Calls Tryd.prog 33 #[ptrTo d, .int .u64 (addr : Int), .int .u64 (size : Int), .int .i64 (what : Int)] w fun e w' => e = .returned (.int .i64 (allowedE m addr size what : Nat)) ∧ Keep No w w' := by
  have ht : top = 4294967296 := rfl
  have hdef : allowedE m addr size what = if (pagesOf addr size).all (fun a => allow1E m what a == 0) then 0 else 41 := rfl
  have HD := Lib.hid hdef
  clear hdef
  unfold ptrTo
  go_enter Tryd.func33, Tryd.ntmps33
  go_wp2_with (first | (at_builtin; refine wl_append rfl _ _ _ _ rfl _ _ rfl rfl ?_) | (at_make; refine wl_make rfl _ _ _ rfl _ _ rfl rfl ?_) | (at_mapUpdate; refine wl_mapUpdate rfl _ _ _ _ rfl _ _ _ rfl rfl rfl ?_) | (at_lookup; refine wl_lookup rfl _ _ _ _ rfl _ _ rfl rfl ?_) | (at_delete; refine wl_delete rfl _ _ _ _ rfl _ _ rfl rfl ?_) | (with_reducible refine wl_len rfl _ _ rfl _ rfl ?_) | (with_reducible refine wl_range rfl _ _ rfl _ rfl ?_) | (with_reducible refine wl_next rfl _ rfl _ rfl ?_) | (with_reducible refine wl_copy rfl _ _ _ _ rfl _ _ rfl rfl ?_) | (with_reducible refine wl_max rfl _ _ _ _ rfl _ _ rfl rfl ?_) | (with_reducible refine wl_min rfl _ _ _ _ rfl _ _ rfl rfl ?_))
  have hkW1 : Keep No w (w.alloc (.cells #[.pointer (some ⟨d, 0, none⟩)] 27)) := (Keep.refl _ _).alloc _
  have hBW1 : Blk (w.alloc (.cells #[.pointer (some ⟨d, 0, none⟩)] 27)) w.heap.size #[.pointer (some ⟨d, 0, none⟩)] 27 := Blk.new _ _ _
  have hzW1 : (w.alloc (.cells #[.pointer (some ⟨d, 0, none⟩)] 27)).heap.size = w.heap.size + 1 := World.size_alloc _ _
  generalize w.alloc (.cells #[.pointer (some ⟨d, 0, none⟩)] 27) = W1 at *
  have hkW : Keep No W1 (W1.alloc (.cells #[.int .i64 (what : Int)] 3)) := (Keep.refl _ _).alloc _
  have hBW : Blk (W1.alloc (.cells #[.int .i64 (what : Int)] 3)) W1.heap.size #[.int .i64 (what : Int)] 3 := Blk.new _ _ _
  have hzW : (W1.alloc (.cells #[.int .i64 (what : Int)] 3)).heap.size = W1.heap.size + 1 := World.size_alloc _ _
  generalize W1.alloc (.cells #[.int .i64 (what : Int)] 3) = W at *
  rw [hzW1] at hBW
  replace hBW1 := hBW1.keep hkW fun h => h
  replace hkW := hkW1.trans' hkW
  refine (veach_any addr size (fun k w' => Keep No W w' ∧ ∀ j, j < k → allow1E m what (pageOf addr + 256 * j) = 0) (fun er w' => er = 41 ∧ Keep No W w' ∧ ∃ j, j < pagesN addr size ∧ allow1E m what (pageOf addr + 256 * j) ≠ 0) hs ha hz (Enters.of3 (fun a b c w => by kernel_rfl) _ _) ⟨Keep.refl _ _, fun j hj => absurd hj (Nat.not_lt_zero _)⟩ ?_).mono ?_
  · rintro k w' hk ⟨hK, hall⟩
    have hpl := pageOf_le addr
    have hiff := (pages_step addr size k hs).2 hk
    have hsome := (there_take m addr size).1 hth k hk
    obtain ⟨p, hp⟩ := Option.isSome_iff_exists.1 hsome
    refine (vallowed1_any (x := w.heap.size) (y := w.heap.size + 1) (pageOf addr + 256 * k) what hw (by omega) (h.same fun j hj => (hkW.trans' hK).block j (hA j hj) fun h => h) hp (hBW1.keep hK fun h => h) (hBW.keep hK fun h => h)).mono ?_
    rintro e w2 ⟨rfl, h2⟩
    by_cases h0 : allow1E m what (pageOf addr + 256 * k) = 0
    · refine .inl ⟨by rw [h0]; rfl, hK.trans' h2, fun j hj => ?_⟩
      rcases Nat.lt_or_ge j k with h | h
      · exact hall j h
      · obtain rfl : j = k := by omega
        exact h0
    · have h41 : allow1E m what (pageOf addr + 256 * k) = 41 := by
        unfold allow1E at h0 ⊢
        rw [hp] at h0 ⊢
        simp only at h0 ⊢
        split at h0
        · rename_i hz; rw [if_pos hz]
        · exact absurd rfl h0
      exact .inr ⟨41, by decide, by rw [h41], rfl, hK.trans' h2, k, hk, h0⟩
  · rintro e w' (⟨rfl, hK, hall⟩ | ⟨er, hne, rfl, rfl, hK, j, hj, hbad⟩)
    · have he : allowedE m addr size what = 0 := by
        rw [HD.out, if_pos]
        unfold pagesOf
        rw [List.all_eq_true]
        intro a ha
        obtain ⟨k, hk, rfl⟩ := List.mem_map.1 ha
        simpa using hall k (List.mem_range.1 hk)
      have HE := Lib.hid he
      clear he HD
      go_wp2_with (first | (at_builtin; refine wl_append rfl _ _ _ _ rfl _ _ rfl rfl ?_) | (at_make; refine wl_make rfl _ _ _ rfl _ _ rfl rfl ?_) | (at_mapUpdate; refine wl_mapUpdate rfl _ _ _ _ rfl _ _ _ rfl rfl rfl ?_) | (at_lookup; refine wl_lookup rfl _ _ _ _ rfl _ _ rfl rfl ?_) | (at_delete; refine wl_delete rfl _ _ _ _ rfl _ _ rfl rfl ?_) | (with_reducible refine wl_len rfl _ _ rfl _ rfl ?_) | (with_reducible refine wl_range rfl _ _ rfl _ rfl ?_) | (with_reducible refine wl_next rfl _ rfl _ rfl ?_) | (with_reducible refine wl_copy rfl _ _ _ _ rfl _ _ rfl rfl ?_) | (with_reducible refine wl_max rfl _ _ _ _ rfl _ _ rfl rfl ?_) | (with_reducible refine wl_min rfl _ _ _ _ rfl _ _ rfl rfl ?_))
      go_ret
      rw [HE.out]
      exact ⟨rfl, hkW.trans' hK⟩
    · have he : allowedE m addr size what = 41 := by
        rw [HD.out, if_neg]
        unfold pagesOf
        rw [List.all_eq_true]
        intro hall
        exact hbad (by simpa using hall _ (List.mem_map.2 ⟨j, List.mem_range.2 hj, rfl⟩))
      have HE := Lib.hid he
      clear he HD
      go_wp2_with (first | (at_builtin; refine wl_append rfl _ _ _ _ rfl _ _ rfl rfl ?_) | (at_make; refine wl_make rfl _ _ _ rfl _ _ rfl rfl ?_) | (at_mapUpdate; refine wl_mapUpdate rfl _ _ _ _ rfl _ _ _ rfl rfl rfl ?_) | (at_lookup; refine wl_lookup rfl _ _ _ _ rfl _ _ rfl rfl ?_) | (at_delete; refine wl_delete rfl _ _ _ _ rfl _ _ rfl rfl ?_) | (with_reducible refine wl_len rfl _ _ rfl _ rfl ?_) | (with_reducible refine wl_range rfl _ _ rfl _ rfl ?_) | (with_reducible refine wl_next rfl _ rfl _ rfl ?_) | (with_reducible refine wl_copy rfl _ _ _ _ rfl _ _ rfl rfl ?_) | (with_reducible refine wl_max rfl _ _ _ _ rfl _ _ rfl rfl ?_) | (with_reducible refine wl_min rfl _ _ _ _ rfl _ _ rfl rfl ?_))
      go_ret
      rw [HE.out]
      exact ⟨rfl, hkW.trans' hK⟩
end
end Go.Proofs.YtaoillfofiehpaaDoor
