/- head: Equal of bytes. A region that draws its order, walked in one order that is given: operations that yield the same in every world of a class S are taken first; behind each of the others S is shown anew, where something may still come that leans on it. head.row: numbers, one behind the other. A call of a function value enters its function. segs: IndexFunc and ContainsFunc of segments, Find, single, kind, one, pages. segs: pages, one, within. A region that draws its order, walked in orders that are given as a tree: where two operations that turn memory may both come next, both ways are shown. No condition. -/
import Derived.Test.YtbnahidopemkiaaLo2
import Derived.BigQuiet
import Derived.Test.YtbnahidopemkiaaRd
import Derived.OrdersHeld
import Derived.Test.YtbnahidopemkiaaProg
set_option linter.unusedVariables false
set_option linter.unusedSimpArgs false
namespace Go.Proofs.Ytbnahidopemkiaa
open Go.RowKit Go.Dm Go.Dm.Oc Go.Dm.Ld
section
variable {A B : Nat → Prop} {w : World}
/-- bytes in a row of one's own -/
theorem own_no {base size n : Nat} {e : TypeId} {v : Value} {xs : List Value} {w' : World} (ho : w.ownsRow base e size v n xs) (hk : Keep No w w') : w'.ownsRow base e size v n xs := by
  refine ⟨ho.1, ho.2.imp id ?_⟩
  rintro ⟨g, cap, cur, rfl, a, b, r⟩
  exact ⟨g, cap, cur, rfl, a, (hk.block g (World.ownsRow.lt ho g rfl).2 fun h => h).trans b, r⟩
theorem bts_own {base : Nat} {v : Value} {l : List UInt8} (ho : w.ownsRow base 5 1 v l.length (l.map bv)) : Bts (fun k => base ≤ k ∧ some k = v.ownBlock) w v l := Sl.of_own ho
/-- append(v, m...) -/
theorem rg_bytes {base : Nat} {ty : TypeId} {v vs : Value} {l m : List UInt8} (ho : w.ownsRow base 5 1 v l.length (l.map bv)) (hs : Bts A w vs m) (hlen : l.length + m.length ≤ 1099511627776) (hbase : base ≤ w.heap.size) {K : Value → World → Prop}
    (h : ∀ v' w', w'.ownsRow base 5 1 v' (l ++ m).length ((l ++ m).map bv) → Keep (fun j => some j = v.ownBlock) w w' → (v'.ownBlock = v.ownBlock ∨ v'.ownBlock = some w.heap.size) → K v' w') : AppendGoal Try.prog 26 26 ty v vs w K := by
  refine rg_append base 5 (.int .u8 0) 1 1 Try.underlying26 o_info rfl (by decide) ho hs (bv_one _) (by unfold maxLen; omega) (by omega) hbase ?_
  intro v' w' ho' hk' _ hn
  refine h v' w' ?_ hk' hn
  rw [List.length_append, List.map_append]
  exact ho'
set_option maxRecDepth 100000 in
theorem eqB_any {v u : Value} (b c : List UInt8) (hb : Bts A w v b) (hc : Bts B w u c) (hl : b.length ≤ 1099511627776) (hl2 : c.length ≤ 1099511627776) :
    Calls Try.prog 96 #[v, u] w fun e w' => e = .returned (.bool (decide (b = c))) ∧ Keep No w w' := by
  have HB := Lib.hid hb
  have HC := Lib.hid hc
  obtain ⟨a, k, rfl, hk, hk2⟩ := hb.shape
  obtain ⟨a2, k2, rfl, hk3, hk4⟩ := hc.shape
  clear hb hc
  by_cases hle : b.length = c.length
  · go_enter Try.func96, Try.ntmps96
    go_wp2_with fail
    go_loopw [5, 13] (fun _ iv wr => ∃ i : Nat, iv = .int .i64 i ∧ i ≤ b.length ∧ b.take i = c.take i ∧ Keep No w wr) (fun _ iv _ => b.length - (intOf iv).toNat)
    case atStart => exact ⟨0, rfl, Nat.zero_le _, by simp, Keep.refl _ _⟩
    case round =>
      obtain ⟨i, rfl, hi, hno, hK⟩ := hrel
      rcases Nat.lt_or_ge i b.length with hlt | hge
      · obtain ⟨g, off, cap, ev, _, _, _, _, hr⟩ := Sl.at (Sl.keep HB.out hK fun _ _ _ h => h) (by omega)
        cases ev
        obtain ⟨g2, off2, cap2, ev2, _, _, _, _, hr2⟩ := Sl.at (Sl.keep HC.out hK fun _ _ _ h => h) (by omega)
        cases ev2
        have q0 : wr.cell? ⟨g, off + i, none⟩ = some (.int .u8 ((b[i]).toNat : Int)) := hr i _ (by rw [List.getElem?_map, List.getElem?_eq_getElem hlt]; rfl)
        have q1 : wr.cell? ⟨g2, off2 + i, none⟩ = some (.int .u8 ((c[i]'(by omega)).toNat : Int)) := hr2 i _ (by rw [List.getElem?_map, List.getElem?_eq_getElem (by omega)]; rfl)
        have hx := (b[i]).toNat_lt
        have hy := (c[i]'(by omega)).toNat_lt
        have hz : (b[i]).toNat = (c[i]'(by omega)).toNat ↔ b[i] = c[i]'(by omega) := UInt8.toNat_inj
        clear hr hr2
        have hlc : i < c.length := by omega
        by_cases h0 : b[i] = c[i]'(by omega)
        · have e0 := hz.2 h0
          have hn2 : b.take (i + 1) = c.take (i + 1) := by
            rw [List.take_succ_eq_append_getElem hlt, List.take_succ_eq_append_getElem hlc, hno, h0]
          rw [← e0] at q1
          clear hz e0 hy h0 hno
          have HN := Lib.hid hn2
          clear hn2
          generalize (b[i]).toNat = x at *
          go_wp2_with fail
          go_quiet (fail)
          go_wp2_with fail
          go_roundw
          case rel => exact ⟨i + 1, rfl, hlt, HN.out, hK.drewN _⟩
          case measure => simp [intOf]; omega
        · have e0 : ¬ (b[i]).toNat = (c[i]'(by omega)).toNat := fun h => h0 (hz.1 h)
          have hres : decide (b = c) = false := by
            rw [decide_eq_false_iff_not]
            rintro rfl
            exact h0 rfl
          have HR := Lib.hid hres
          clear hz h0 hno hres
          generalize (b[i]).toNat = x at *
          generalize (c[i]'(by omega)).toNat = y at *
          go_wp2_with fail
          go_quiet (fail)
          go_wp2_with fail
          go_ret
          rw [HR.out]
          exact ⟨rfl, hK.drewN _⟩
      · obtain rfl : i = b.length := by omega
        have hres : decide (b = c) = true := by
          rw [decide_eq_true_iff]
          rw [List.take_length, hle, List.take_length] at hno
          exact hno
        have HR := Lib.hid hres
        clear hno hres
        go_wp2_with fail
        go_ret
        rw [HR.out]
        exact ⟨rfl, hK⟩
  · have hdec : decide (b = c) = false := by
      rw [decide_eq_false_iff_not]
      rintro rfl
      exact hle rfl
    rw [hdec]
    clear hdec HB HC
    generalize b.length = m at *
    generalize c.length = n at *
    go_enter Try.func96, Try.ntmps96
    go_wp2_with fail
    go_ret
    exact ⟨rfl, Keep.refl _ _⟩
end
end Go.Proofs.Ytbnahidopemkiaa
namespace Go.Dm
open Go

section
variable {P : Program} {ops : Array Oper} {Q : Exit → Act → World → Prop} {md : Region.Mode} {S : World → Prop} {kb : Nat → Bool}

/-- Whatever order is picked from here on, and S behind each operation of kb. -/
def wpAnyK (P : Program) (md : Region.Mode) (ops : Array Oper) (Q : Exit → Act → World → Prop) (S : World → Prop) (kb : Nat → Bool) : Nat → Array Bool → Act → World → Prop
  | 0, listed, a, w => Region.ready md ops listed = [] ∧ Q .normal a w
  | fuel + 1, listed, a, w =>
    (Region.ready md ops listed = [] → Q .normal a w) ∧
    ∀ i ∈ Region.ready md ops listed, wpOp P ops Q i (fun a' w' => (kb i = true → S w') ∧ wpAnyK P md ops Q S kb fuel (listed.setIfInBounds i true) a' w') a w

theorem wpAny_of_K : ∀ (fuel : Nat) (listed : Array Bool) (a : Act) (w : World), wpAnyK P md ops Q S kb fuel listed a w → wpAny P md ops Q fuel listed a w
  | 0, _, _, _, h => h
  | fuel + 1, _, _, _, h => ⟨h.1, fun i hi => wpOp_mono (fun a' w' h' => wpAny_of_K fuel _ a' w' h'.2) (h.2 i hi)⟩

/-- does number j wait for number i, at once or through others? -/
def reach (md : Region.Mode) (ops : Array Oper) : Nat → Nat → Nat → Bool
  | 0, _, _ => false
  | f + 1, j, i => match ops[j]? with
    | none => false
    | some oj => oj.after.any fun e => Region.binds md e && (e.on == i || reach md ops f e.on i)
def Closed (md : Region.Mode) (ops : Array Oper) (listed : Array Bool) : Prop :=
  ∀ (k : Nat) (ok : Oper), ops[k]? = some ok → listed.getD k false = true → ∀ e ∈ ok.after, Region.binds md e = true → listed.getD e.on false = true
theorem reach_listed {listed : Array Bool} (hc : Closed md ops listed) {i : Nat} : ∀ (f j : Nat) (oj : Oper), ops[j]? = some oj → (∀ e ∈ oj.after, Region.binds md e = true → listed.getD e.on false = true) → reach md ops f j i = true → listed.getD i false = true
  | 0, _, _, _, _, h => by simp [reach] at h
  | f + 1, j, oj, hj, ha, h => by
    simp only [reach, hj] at h
    obtain ⟨e, he, hb⟩ := Array.any_eq_true'.1 h
    simp only [Bool.and_eq_true, Bool.or_eq_true, beq_iff_eq] at hb
    obtain ⟨hb, h1 | h1⟩ := hb
    · rw [← h1]; exact ha e he hb
    · cases hk : ops[e.on]? with
      | none => cases f with
        | zero => simp [reach] at h1
        | succ f => simp [reach, hk] at h1
      | some ok => exact reach_listed hc f e.on ok hk (hc e.on ok hk (ha e he hb)) h1
theorem getD_set_same {listed : Array Bool} {i : Nat} (h : i < listed.size) : (listed.setIfInBounds i true).getD i false = true := by simp [h]
theorem Closed.step {listed : Array Bool} (hc : Closed md ops listed) {i : Nat} (hr : i ∈ Region.ready md ops listed) : Closed md ops (listed.setIfInBounds i true) := by
  have hmono : ∀ k, listed.getD k false = true → (listed.setIfInBounds i true).getD k false = true := by
    intro k hk
    by_cases e : i = k
    · subst e
      refine getD_set_same ?_
      rcases Nat.lt_or_ge i listed.size with h | h
      · exact h
      · simp [Array.getElem?_eq_none h] at hk
    · rw [getD_set_ne false e]; exact hk
  intro k ok hk hl e he hb
  by_cases ek : i = k
  · subst ek
    obtain ⟨_, oj, hoj, hall⟩ := mem_ready.1 hr
    rw [hk] at hoj; cases hoj
    exact hmono _ (hall e he hb)
  · rw [getD_set_ne false ek] at hl
    exact hmono _ (hc k ok hk hl e he hb)

theorem wpAnyK_first {i : Nat} {oi : Oper} {v : Value} (hi : ops[i]? = some oi) (hsel : ∀ (j : Nat) (o : Oper) cs b, ops[j]? = some o → o.op ≠ .select cs b)
    (hQ : ∀ c a w, Q (.panic c) (a.put oi.dst v) w → Q (.panic c) a w) :
    ∀ (fuel : Nat) (listed : Array Bool) (a : Act) (w : World),
      (∀ j oj, ops[j]? = some oj → j ≠ i → listed.getD j true = false → reach md ops ops.size j i = false → oi.apart ops oj = true ∧ kb j = true) →
      Closed md ops listed → i ∈ Region.ready md ops listed → YieldsIf P ops S oi v a → S w →
      wpAnyK P md ops Q S kb fuel (listed.setIfInBounds i true) (a.put oi.dst v) w → wpAnyK P md ops Q S kb (fuel + 1) listed a w := by
  intro fuel
  induction fuel with
  | zero =>
    intro listed a w _ _ hr hy hS H
    refine ⟨fun h => (by rw [h] at hr; cases hr), fun j hj => ?_⟩
    by_cases hji : j = i
    · subst hji; exact hy.wpOp hi hS ⟨fun _ => hS, H⟩
    · have := ready_mono hj hji
      rw [H.1] at this
      cases this
  | succ fuel ih =>
    intro listed a w hfree hcl hr hy hS H
    refine ⟨fun h => (by rw [h] at hr; cases hr), fun j hj => ?_⟩
    by_cases hji : j = i
    · subst hji; exact hy.wpOp hi hS ⟨fun _ => hS, H⟩
    · have h1 := H.2 j (ready_mono hj hji)
      obtain ⟨hjun, oj, hoj, hall⟩ := mem_ready.1 hj
      have hnot : reach md ops ops.size j i = false := by
        cases hq : reach md ops ops.size j i with
        | false => rfl
        | true =>
          have h1 := reach_listed hcl _ j oj hoj hall hq
          have h0 := (mem_ready.1 hr).1
          rcases Nat.lt_or_ge i listed.size with h' | h'
          · simp [h'] at h0 h1; rw [h0] at h1; cases h1
          · simp [Array.getElem?_eq_none h'] at h1
      obtain ⟨hap, hkb⟩ := hfree j oj hoj hji hjun hnot
      have h2 := wpOp_putIf hoj hap (fun cs b => hsel i oi cs b hi) (fun cs b => hsel j oj cs b hoj) hQ hy h1
      have hfree' : ∀ k ok, ops[k]? = some ok → k ≠ i → (listed.setIfInBounds j true).getD k true = false →
          reach md ops ops.size k i = false → oi.apart ops ok = true ∧ kb k = true := fun k ok hk hki hun hno => by
        refine hfree k ok hk hki ?_ hno
        by_cases hjk : j = k
        · subst hjk; exact hjun
        · rw [getD_set_ne true hjk] at hun; exact hun
      refine wpOp_mono (fun a' w' h3 => ⟨h3.2.1, ih (listed.setIfInBounds j true) a' w' hfree' (hcl.step hj) (ready_mono hr (Ne.symm hji)) h3.1 (h3.2.1 hkb) ?_⟩) h2
      rw [Array.setIfInBounds_comm _ _ hji]
      exact h3.2.2

/-- does it wait for number i at once? -/
def direct (md : Region.Mode) (oj : Oper) (i : Nat) : Bool := oj.after.any fun e => e.on == i && Region.binds md e
theorem direct_reach {i j f : Nat} {oj : Oper} (hj : ops[j]? = some oj) (h : direct md oj i = true) : reach md ops (f + 1) j i = true := by
  obtain ⟨e, he, hb⟩ := Array.any_eq_true'.1 h
  simp only [reach, hj]
  refine Array.any_eq_true'.2 ⟨e, he, ?_⟩
  simp only [Bool.and_eq_true] at hb
  rw [hb.2, hb.1]
  rfl
/-- may number i be taken first? -/
def freeK (md : Region.Mode) (ops : Array Oper) (kb : Nat → Bool) (listed : Array Bool) (i : Nat) : Bool :=
  match ops[i]? with
  | none => false
  | some oi => (List.range ops.size).all fun j => j == i || listed.getD j true || match ops[j]? with
      | some oj => (oi.apart ops oj && kb j) || direct md oj i || reach md ops ops.size j i
      | none => true

theorem freeK_spec {i : Nat} {oi : Oper} {listed : Array Bool} (hi : ops[i]? = some oi) (h : freeK md ops kb listed i = true) (j : Nat) (oj : Oper)
    (hj : ops[j]? = some oj) (hne : j ≠ i) (hun : listed.getD j true = false) (hno : reach md ops ops.size j i = false) :
    oi.apart ops oj = true ∧ kb j = true := by
  simp only [freeK, hi, List.all_eq_true, List.mem_range] at h
  have h1 := h j (Array.getElem?_eq_some_iff.1 hj).1
  simp only [hj, Bool.or_eq_true, beq_iff_eq, hne, false_or, hun, Bool.false_eq_true] at h1
  rw [hno] at h1
  have hsz := (Array.getElem?_eq_some_iff.1 hj).1
  have hd : direct md oj i = false := by
    cases hd : direct md oj i with
    | false => rfl
    | true =>
      obtain ⟨f, hf⟩ : ∃ f, ops.size = f + 1 := ⟨ops.size - 1, by omega⟩
      rw [hf, direct_reach hj hd] at hno
      cases hno
  rw [hd] at h1
  simpa using h1

/-- The given order: (number, does it yield the same in every world of S?). -/
def sigB (md : Region.Mode) (ops : Array Oper) (kb : Nat → Bool) : List (Nat × Bool) → Array Bool → Bool → Bool
  | [], listed, _ => (Region.ready md ops listed).isEmpty
  | (i, true) :: r, listed, s => s && (Region.ready md ops listed).contains i && freeK md ops kb listed i && sigB md ops kb r (listed.setIfInBounds i true) s
  | (i, false) :: r, listed, s => (Region.ready md ops listed == [i]) && sigB md ops kb r (listed.setIfInBounds i true) (s && kb i)

/-- The walk in that order. -/
def wpSig (P : Program) (ops : Array Oper) (Q : Exit → Act → World → Prop) (S : World → Prop) (kb : Nat → Bool) : List (Nat × Bool) → Act → World → Prop
  | [], a, w => Q .normal a w
  | (i, true) :: r, a, w => ∃ o v, ops[i]? = some o ∧ YieldsIf P ops S o v a ∧ wpSig P ops Q S kb r (a.put o.dst v) w
  | (i, false) :: r, a, w => wpOp P ops Q i (fun a' w' => (kb i = true → S w') ∧ wpSig P ops Q S kb r a' w') a w

theorem wpSig_sound (hs : Region.noSelect ops = true) (hQ : ∀ c a d v w, Q (.panic c) (a.put d v) w → Q (.panic c) a w) :
    ∀ (l : List (Nat × Bool)) (listed : Array Bool) (s : Bool) (a : Act) (w : World), sigB md ops kb l listed s = true → Closed md ops listed → (s = true → S w) → wpSig P ops Q S kb l a w → wpAnyK P md ops Q S kb l.length listed a w
  | [], listed, s, a, w, h, _, _, hq => by
    have : Region.ready md ops listed = [] := by simpa [sigB] using h
    exact ⟨this, hq⟩
  | (i, true) :: r, listed, s, a, w, h, hcl, hS, ⟨o, v, ho, hy, hq⟩ => by
    simp only [sigB, Bool.and_eq_true] at h
    obtain ⟨⟨⟨h1, h2⟩, h3⟩, h4⟩ := h
    exact wpAnyK_first ho (Region.noSelect_spec hs) (fun c a w => hQ c a _ _ w) r.length listed a w (freeK_spec ho h3) hcl (by simpa using h2) hy (hS h1)
      (wpSig_sound hs hQ r _ s _ w h4 (hcl.step (by simpa using h2)) hS hq)
  | (i, false) :: r, listed, s, a, w, h, hcl, hS, hq => by
    simp only [sigB, Bool.and_eq_true, beq_iff_eq] at h
    refine ⟨fun h0 => (by rw [h.1] at h0; cases h0), fun j hj => ?_⟩
    rw [h.1] at hj
    obtain rfl : j = i := by simpa using hj
    exact wpOp_mono (fun a' w' h' => ⟨h'.1, wpSig_sound hs hQ r _ (s && kb j) a' w' h.2 (hcl.step (by rw [h.1]; simp)) (fun hsk => h'.1 (Bool.and_eq_true_iff.1 hsk).2) h'.2⟩) hq

/-- The beginning. -/
theorem wp_region_sig {id : Nat} {a : Act} {w : World} (S : World → Prop) (kb : Nat → Bool) (l : List (Nat × Bool)) {o : List Oper} (hm : P.follows .mixedOrders = true)
    (hB : (Region.noSelect o.toArray && sigB .any o.toArray kb l (Array.replicate o.toArray.size false) true && (l.length == o.toArray.size)) = true)
    (hQ : ∀ c a d v w, Q (.panic c) (a.put d v) w → Q (.panic c) a w) (hS : S w.drew)
    (h : wpSig P o.toArray Q S kb l a w.drew) : (Code.region id o.toArray true).wp P Q a w := by
  simp only [Bool.and_eq_true, beq_iff_eq] at hB
  refine wp_region_any hm (wpAny_of_K (S := S) (kb := kb) _ _ _ _ ?_)
  have h2 := wpSig_sound (md := .any) hB.1.1 hQ l _ true a _ hB.1.2 (fun k ok _ hl => by rw [Array.getD_eq_getD_getElem?, Array.getElem?_replicate] at hl; split at hl <;> cases hl) (fun _ => hS) h
  rw [hB.2] at h2
  exact h2

theorem sig_nil {a : Act} {w : World} (h : Q .normal a w) : wpSig P ops Q S kb [] a w := h
theorem sig_still {i : Nat} {r : List (Nat × Bool)} {a : Act} {w : World} {o : Oper} {v : Value} (ho : ops[i]? = some o) (hg : o.guard = none)
    (hy : ∀ w', S w' → (execOp a.eval o).run P w' = .ok (.value v) w') (h : wpSig P ops Q S kb r (a.put o.dst v) w) : wpSig P ops Q S kb ((i, true) :: r) a w :=
  ⟨o, v, ho, .inl ⟨by simp [Region.wanted, hg], hy⟩, h⟩
theorem sig_guard {i : Nat} {r : List (Nat × Bool)} {a : Act} {w : World} {o : Oper} {v : Value} (ho : ops[i]? = some o) (hg : Region.wanted o (yielded ops a.tmps) = true)
    (hy : ∀ w', S w' → (execOp a.eval o).run P w' = .ok (.value v) w') (h : wpSig P ops Q S kb r (a.put o.dst v) w) : wpSig P ops Q S kb ((i, true) :: r) a w :=
  ⟨o, v, ho, .inl ⟨hg, hy⟩, h⟩
theorem sig_skip {i : Nat} {r : List (Nat × Bool)} {a : Act} {w : World} {o : Oper} (ho : ops[i]? = some o) (hg : Region.wanted o (yielded ops a.tmps) = false)
    (h : wpSig P ops Q S kb r (a.put o.dst undef) w) : wpSig P ops Q S kb ((i, true) :: r) a w :=
  ⟨o, undef, ho, .inr ⟨hg, rfl⟩, h⟩
theorem sig_eff {i : Nat} {r : List (Nat × Bool)} {a : Act} {w : World} {o : Oper} (ho : ops[i]? = some o) (hg : o.guard = none)
    (h : ∀ K : Act → World → Prop, (∀ a' w', ((kb i = true → S w') ∧ wpSig P ops Q S kb r a' w') → K a' w') → o.wp P a w K Q) : wpSig P ops Q S kb ((i, false) :: r) a w := by
  show wpOp _ _ _ _ _ _ _
  unfold wpOp
  simp only [ho, Region.wanted, hg, if_true]
  exact .inl (h _ fun _ _ h => h)

theorem sig_effg {i : Nat} {r : List (Nat × Bool)} {a : Act} {w : World} {o : Oper} (ho : ops[i]? = some o) (hg : Region.wanted o (yielded ops a.tmps) = true)
    (h : ∀ K : Act → World → Prop, (∀ a' w', ((kb i = true → S w') ∧ wpSig P ops Q S kb r a' w') → K a' w') → o.wp P a w K Q) : wpSig P ops Q S kb ((i, false) :: r) a w := by
  show wpOp _ _ _ _ _ _ _
  unfold wpOp
  simp only [ho, hg, if_true]
  exact .inl (h _ fun _ _ h => h)
theorem wo_append {o : Oper} {a : Act} {w : World} {K : Act → World → Prop} (x y : Operand) (t1 t2 : TypeId) (ho : o.op = .call { callee := .builtin .append, args := #[x, y], argTypes := #[t1, t2] })
    (v1 v2 : Value) (h1 : a.eval x = v1) (h2 : a.eval y = v2) (h : AppendGoal P t1 t2 o.type v1 v2 w fun v w' => K (a.put o.dst v) w') : o.wp P a w K Q := by
  obtain ⟨v, w', hr, hk⟩ := h
  unfold Oper.wp execOp
  simp only [ho, resolve, invoke, builtin, Sem.run_bind, Sem.run_pure, Result.andThen_ok, List.map_toArray, List.map_cons, List.map_nil, h1, h2, hr]
  exact hk
end
end Go.Dm
namespace Go.Proofs.Ytbnahidopemkiaa
open Go.RowKit Go.Dm Go.Dm.Oc Go.Dm.Ld
theorem wo_make {P : Program} {o : Oper} {a : Act} {w : World} {Q : Exit → Act → World → Prop} {K : Act → World → Prop} (l c : Operand) (t : TypeId) (ho : o.op = Op.makeSlice t l c) (v1 v2 : Value) (h1 : a.eval l = v1) (h2 : a.eval c = v2)
    (h : MakeGoal P t v1 v2 w fun v w' => K (a.put o.dst v) w') : o.wp P a w K Q := by
  obtain ⟨v, w', hr, hk⟩ := h
  unfold Oper.wp execOp
  simp only [ho, h1, h2, hr, Sem.run_bind, Sem.run_pure, Result.andThen_ok]
  exact hk
/-- numbers of so many bytes, one behind the other -/
def rowB (l : List (Nat × Nat)) : BS := l.flatMap fun f => le f.1 f.2
def encF (f : Nat × Nat) : List Value := [.int .i64 (f.1 : Int), .int .u64 (f.2 : Int)]
theorem rowB_len (l : List (Nat × Nat)) (h : ∀ f ∈ l, f.1 ≤ 8) : (rowB l).length ≤ 8 * l.length := by
  induction l with
  | nil => simp [rowB]
  | cons f r ih =>
    have h1 := ih fun g hg => h g (List.mem_cons_of_mem _ hg)
    have h2 := h f (List.mem_cons_self ..)
    unfold rowB at *
    rw [List.flatMap_cons, List.length_append, le_len, List.length_cons]
    omega
theorem encF_len (f : Nat × Nat) : (encF f).length = 2 := rfl
section
variable {A : Nat → Prop} {w : World}
set_option maxRecDepth 100000 in
set_option maxHeartbeats 2000000 in
theorem hrow_any {v : Value} (l : List (Nat × Nat)) (hl : Fl A w 2 encF v l) (hn : l.length ≤ 1000) (hf : ∀ f ∈ l, (f.1 = 1 ∨ f.1 = 2 ∨ f.1 = 4 ∨ f.1 = 8) ∧ f.2 < 18446744073709551616) :
    Calls Try.prog 109 #[v] w fun e w' => ∃ v', e = .returned v' ∧ w'.ownsRow w.heap.size 5 1 v' (rowB l).length ((rowB l).map bv) ∧ Keep No w w' := by
  have HL := Lib.hid hl
  obtain ⟨a, c, rfl, hc1, hc2⟩ := hl.shape
  clear hl
  go_enter Try.func109, Try.ntmps109
  go_wp2_with fail
  go_loopw [3, 10] (fun vv iv wr => ∃ i : Nat, iv = .int .i64 i ∧ i ≤ l.length ∧ wr.ownsRow w.heap.size 5 1 vv (rowB (l.take i)).length ((rowB (l.take i)).map bv) ∧ Keep No w wr) (fun _ iv _ => l.length - (intOf iv).toNat)
  case atStart => exact ⟨0, rfl, Nat.zero_le _, World.ownsRow_nil _ _ _ _, Keep.refl _ _⟩
  case round =>
    obtain ⟨i, rfl, hi, ho, hK⟩ := hrel
    rcases Nat.lt_or_ge i l.length with hlt | hge
    · obtain ⟨g, off, cap, ev, _, _, _, _, hc⟩ := (HL.out.no hK).at encF_len hlt
      cases ev
      have hfi := hf _ (List.getElem_mem hlt)
      have htk : rowB (l.take (i + 1)) = rowB (l.take i) ++ le l[i].1 l[i].2 := by
        rw [List.take_succ_eq_append_getElem hlt, rowB, rowB, List.flatMap_append]
        simp
      have q0 : wr.cell? ⟨g, off + i * 2, none⟩ = some (.int .i64 (l[i].1 : Int)) := hc 0 _ rfl
      have q1 : wr.cell? ⟨g, off + i * 2 + 1, none⟩ = some (.int .u64 (l[i].2 : Int)) := hc 1 _ rfl
      have HT := Lib.hid htk
      clear htk hc
      generalize l[i].1 = n at *
      generalize l[i].2 = x at *
      go_wp2_with fail
      have hkw1 : Keep No wr (wr.alloc (.cells #[.int .i64 (n : Int), .int .u64 (x : Int)] 205)) := (Keep.refl _ _).alloc _
      have hBw1 : Blk (wr.alloc (.cells #[.int .i64 (n : Int), .int .u64 (x : Int)] 205)) wr.heap.size #[.int .i64 (n : Int), .int .u64 (x : Int)] 205 := Blk.new _ _ _
      have hzw1 : (wr.alloc (.cells #[.int .i64 (n : Int), .int .u64 (x : Int)] 205)).heap.size = wr.heap.size + 1 := World.size_alloc _ _
      generalize wr.alloc (.cells #[.int .i64 (n : Int), .int .u64 (x : Int)] 205) = w1 at *
      have c0 := hBw1.cell 0
      have c1 := hBw1.cell 1
      refine wp_region_sig (fun w' => w'.cell? ⟨wr.heap.size, 0, none⟩ = some (.int .i64 (n : Int)) ∧ w'.cell? ⟨wr.heap.size, 1, none⟩ = some (.int .u64 (x : Int))) (fun j => decide (j ≤ 12)) [(0, true), (1, true), (3, true), (4, true), (5, true), (6, true), (2, false), (7, false), (8, false), (9, true), (10, true), (11, true), (12, true)] (by kernel_rfl) (by kernel_rfl) (by intro c a d v w h; cases d <;> exact h) ⟨c0, c1⟩ ?_
      apply sig_still (o := ⟨some 15, _, _, _, _, _⟩) rfl rfl
      · intro w' hS
        obtain ⟨q1, q2⟩ := hS
        first | (go_simp; done) | (go_simp; rfl) | rfl
      go_frame
      apply sig_still (o := ⟨some 16, _, _, _, _, _⟩) rfl rfl
      · intro w' hS
        obtain ⟨q1, q2⟩ := hS
        first | (go_simp; done) | (go_simp; rfl) | rfl
      go_frame
      apply sig_still (o := ⟨some 18, _, _, _, _, _⟩) rfl rfl
      · intro w' hS
        obtain ⟨q1, q2⟩ := hS
        first | (go_simp; done) | (go_simp; rfl) | rfl
      go_frame
      apply sig_still (o := ⟨some 19, _, _, _, _, _⟩) rfl rfl
      · intro w' hS
        obtain ⟨q1, q2⟩ := hS
        first | (go_simp; done) | (go_simp; rfl) | rfl
      go_frame
      apply sig_still (o := ⟨some 20, _, _, _, _, _⟩) rfl rfl
      · intro w' hS
        obtain ⟨q1, q2⟩ := hS
        first | (go_simp; done) | (go_simp; rfl) | rfl
      go_frame
      apply sig_still (o := ⟨some 21, _, _, _, _, _⟩) rfl rfl
      · intro w' hS
        obtain ⟨q1, q2⟩ := hS
        first | (go_simp; done) | (go_simp; rfl) | rfl
      go_frame
      refine sig_eff (o := ⟨some 17, _, _, _, _, _⟩) rfl rfl (fun K hKe => ?_)
      refine wo_make (.tmp 16) (.tmp 16) 26 rfl _ _ rfl rfl ?_
      refine rg_make 5 (.int .u8 0) 1 1 Try.underlying26 o_info (by omega) (by unfold maxLen; omega) ?_
      intro W2 hmk hkm
      have hk2 : Keep No w1 W2 := ((Keep.refl No w1).drew).trans' hkm
      have hB2 := hBw1.keep hk2 fun h => h
      refine hKe _ _ ⟨fun _ => ⟨hB2.cell 0, hB2.cell 1⟩, ?_⟩
      have hmb : Bts (fun k => k = w1.heap.size) W2 (.slice (some ⟨w1.heap.size, 0, none⟩) n n) (List.replicate n 0) := by
        have := hmk
        rw [madeCells_u8] at this
        have hb := Bts.of_blk this (by rw [List.length_replicate]; unfold maxLen; omega)
        rw [List.length_replicate] at hb
        exact hb
      clear hKe hmk
      have hd0 : w1.drew.heap.size = w1.heap.size := rfl
      rw [hd0]
      clear hd0
      rw [hzw1] at hmb
      have hset := oset_any (List.replicate n 0) 0 (n : Int) x hmb (by rw [List.length_replicate]; omega) (by decide) hfi.2 (by
        unfold fitsE widthB hasB
        rw [List.length_replicate]
        rcases hfi.1 with rfl | rfl | rfl | rfl <;> decide)
      have hx0 : setX (List.replicate n 0) 0 (n : Int) x = le n x := by
        unfold setX
        rw [Int.toNat_natCast]
        exact setR_whole _ _ (by rw [le_len, List.length_replicate])
      rw [hx0, List.length_replicate] at hset
      clear hx0
      refine sig_eff (o := ⟨some 22, _, _, _, _, _⟩) rfl rfl (fun K hKe => ?_)
      go_wp2_with fail
      refine hset.mono ?_
      clear hset
      rintro e W3 ⟨v3, rfl, ho3, hk3⟩
      have hB3 := hB2.keep hk3 fun h => h
      go_wp2_with fail
      refine ⟨fun _ => ⟨hB3.cell 0, hB3.cell 1⟩, ?_⟩
      refine sig_eff (o := ⟨some 14, _, _, _, _, _⟩) rfl rfl (fun K hKe => ?_)
      go_wp2_with fail
      refine ⟨fun _ => ⟨hB3.cell 0, hB3.cell 1⟩, ?_⟩
      apply sig_still (o := ⟨some 23, _, _, _, _, _⟩) rfl rfl
      · intro w' hS
        obtain ⟨q1, q2⟩ := hS
        first | (go_simp; done) | (go_simp; rfl) | rfl
      go_frame
      apply sig_still (o := ⟨some 24, _, _, _, _, _⟩) rfl rfl
      · intro w' hS
        obtain ⟨q1, q2⟩ := hS
        first | (go_simp; done) | (go_simp; rfl) | rfl
      go_frame
      apply sig_still (o := ⟨some 6, _, _, _, _, _⟩) rfl rfl
      · intro w' hS
        obtain ⟨q1, q2⟩ := hS
        first | (go_simp; done) | (go_simp; rfl) | rfl
      go_frame
      apply sig_still (o := ⟨some 7, _, _, _, _, _⟩) rfl rfl
      · intro w' hS
        obtain ⟨q1, q2⟩ := hS
        first | (go_simp; done) | (go_simp; rfl) | rfl
      go_frame
      refine sig_nil ?_
      go_wp2_with (at_builtin; refine wl_append rfl _ _ _ _ rfl _ _ rfl rfl ?_)
      have hkA : Keep No wr W3 := (hkw1.trans' hk2).trans' hk3
      have hoA := own_no ho hkA
      have hbs : Bts _ W3 v3 (le n x) := bts_own (l := le n x) (by rw [le_len]; exact ho3)
      refine rg_bytes hoA hbs (by
        have := rowB_len (l.take i) fun f hm => by
          have := (hf f (List.mem_of_mem_take hm)).1
          omega
        rw [List.length_take] at this
        rw [le_len]
        omega) (Nat.le_trans hK.size hkA.size) ?_
      intro v4 W4 ho4 hk4 _
      rw [← HT.out] at ho4
      go_wp2_with fail
      go_roundw
      case rel => exact ⟨i + 1, rfl, hlt, ho4, Keep.own (hK.trans' hkA) hoA hk4⟩
      case measure => simp [intOf]; omega
    · obtain rfl : i = l.length := by omega
      rw [List.take_length] at ho
      go_wp2_with fail
      go_ret
      exact ⟨_, rfl, ho, hK⟩
end
end Go.Proofs.Ytbnahidopemkiaa
namespace Go.Proofs.Ytbnahidopemkiaa
open Go.RowKit Go.Dm
/-- a call of function f enters it -/
def Enters (f : Nat) (c : Array Value) : Prop := ∀ w : World, (callFunc f c).run Try.prog w = .ok (.enter f c) w
end Go.Proofs.Ytbnahidopemkiaa
namespace Go.Proofs.Ytbnahidopemkiaa
open Go.RowKit Go.Dm Go.Dm.Oc Go.Dm.Ld
def encSg (s : Sg) : List Value := [.int .u32 (s.ty : Int), .int .u32 (s.fl : Int), .int .u64 (s.off : Int), .int .u64 (s.va : Int), .int .u64 (s.fi : Int), .int .u64 (s.me : Int), .int .u64 (s.al : Int)]
theorem encSg_len (s : Sg) : (encSg s).length = 7 := rfl
theorem encSg_one (s : Sg) : ∀ u ∈ encSg s, u.oneCell' = true := by
  intro u hu
  simp only [encSg, List.mem_cons, List.not_mem_nil, or_false] at hu
  rcases hu with rfl | rfl | rfl | rfl | rfl | rfl | rfl <;> rfl
theorem segT_info : (Try.prog.info? 104).map (fun i => (i.zero, i.size, i.bytes)) = some (some (.agg #[.int .u32 0, .int .u32 0, .int .u64 0, .int .u64 0, .int .u64 0, .int .u64 0, .int .u64 0]), 7, 48) := by kernel_rfl
/-- where the first one stands of which p says yes; -1: nowhere -/
def posM {α : Type} (p : α → Bool) (l : List α) : Int := if l.any p then (l.findIdx p : Int) else -1
theorem posM_some {α : Type} {p : α → Bool} {l : List α} {i : Nat} (hi : i < l.length) (h : p l[i] = true) (hno : ∀ j, (hj : j < i) → p (l[j]'(by omega)) = false) : posM p l = (i : Int) := by
  have e : l.findIdx p = i := (List.findIdx_eq hi).2 ⟨h, fun j hj => hno j hj⟩
  have ha : l.any p = true := List.any_eq_true.2 ⟨l[i], List.getElem_mem hi, h⟩
  unfold posM
  rw [if_pos ha, e]
theorem posM_none {α : Type} {p : α → Bool} {l : List α} (hno : ∀ j, (hj : j < l.length) → p l[j] = false) : posM p l = -1 := by
  unfold posM
  rw [if_neg]
  intro h
  obtain ⟨x, hx, h⟩ := List.any_eq_true.1 h
  obtain ⟨j, hj, rfl⟩ := List.getElem_of_mem hx
  rw [hno j hj] at h
  cases h
theorem posM_find {α : Type} (p : α → Bool) (l : List α) : (l.find? p = none ∧ posM p l = -1) ∨ ∃ i, ∃ h : i < l.length, l.find? p = some l[i] ∧ posM p l = (i : Int) := by
  unfold posM
  cases ha : l.any p with
  | false =>
    left
    refine ⟨List.find?_eq_none.2 fun x hx h => ?_, by rw [if_neg (by decide)]⟩
    rw [List.any_eq_true.2 ⟨x, hx, h⟩] at ha
    cases ha
  | true =>
    right
    obtain ⟨x, hx, h⟩ := List.any_eq_true.1 ha
    have hlt : l.findIdx p < l.length := List.findIdx_lt_length_of_exists ⟨x, hx, h⟩
    refine ⟨l.findIdx p, hlt, ?_, by rw [if_pos rfl]⟩
    rw [List.find?_eq_some_iff_getElem]
    refine ⟨List.findIdx_getElem, l.findIdx p, hlt, rfl, fun j hj => ?_⟩
    have := List.not_of_lt_findIdx hj
    simpa using this
section
variable {A : Nat → Prop} {w : World}
set_option maxRecDepth 100000 in
set_option maxHeartbeats 4000000 in
theorem idxSg_any {v : Value} (l : List Sg) (g : Nat) (caps : Array Value) (p : Sg → Bool) (hl : Fl A w 7 encSg v l) (hent : ∀ a, Enters g (#[a] ++ caps))
    (hcall : ∀ s ∈ l, ∀ wr, Keep No w wr → Calls Try.prog g (#[.agg (encSg s).toArray] ++ caps) wr fun e w' => e = .returned (.bool (p s)) ∧ Keep No wr w') :
    Calls Try.prog 60 #[v, .func (.func g) #[] caps] w fun e w' => e = .returned (.int .i64 (posM p l)) ∧ Keep No w w' := by
  unfold Enters at hent
  have HL := Lib.hid hl
  have HC := Lib.hid hcall
  obtain ⟨ao, co, rfl, hc1, hc2⟩ := hl.shape
  have hlen : l.length ≤ 9223372036854775807 := by unfold maxLen at hc2; omega
  clear hl hcall hc1 hc2
  go_enter Try.func60, Try.ntmps60
  go_wp2_with fail
  go_loopw [5, 8] (fun _ iv wr => ∃ i : Nat, iv = .int .i64 i ∧ i ≤ l.length ∧ (∀ j, j < i → ∀ x, l[j]? = some x → p x = false) ∧ Keep No w wr) (fun _ iv _ => l.length - (intOf iv).toNat)
  case atStart => exact ⟨0, rfl, Nat.zero_le _, (fun j hj => absurd hj (Nat.not_lt_zero _)), Keep.refl _ _⟩
  case round =>
    obtain ⟨i, rfl, hi, hno, hk⟩ := hrel
    generalize wr = wz at *
    rcases Nat.lt_or_ge i l.length with hlt | hge
    · obtain ⟨g1, off, cap, ev, _, _, _, _, hc⟩ := (HL.out.no hk).at encSg_len hlt
      cases ev
      have hiz : (i : Int) < (l.length : Int) := by omega
      have hcall := HC.out l[i] (List.getElem_mem hlt) wz hk
      have hfin : p l[i] = true → posM p l = (i : Int) := fun h => posM_some hlt h fun j hj => hno j hj _ (List.getElem?_eq_getElem _)
      have hno2 : p l[i] = false → ∀ j, j < i + 1 → ∀ x, l[j]? = some x → p x = false := fun h j hji x hx => by
        rcases Nat.lt_or_ge j i with h2 | h2
        · exact hno j h2 x hx
        · obtain rfl : j = i := by omega
          rw [List.getElem?_eq_getElem hlt] at hx
          cases hx
          exact h
      have HF := Lib.hid hfin
      have HN := Lib.hid hno2
      clear hno hfin hno2
      have c0 := hc 0 _ rfl
      have c1 := hc 1 _ rfl
      have c2 := hc 2 _ rfl
      have c3 := hc 3 _ rfl
      have c4 := hc 4 _ rfl
      have c5 := hc 5 _ rfl
      have c6 := hc 6 _ rfl
      clear hc
      generalize hb : p l[i] = b at *
      unfold encSg at hcall
      generalize l[i].ty = x0 at *
      generalize l[i].fl = x1 at *
      generalize l[i].off = x2 at *
      generalize l[i].va = x3 at *
      generalize l[i].fi = x4 at *
      generalize l[i].me = x5 at *
      generalize l[i].al = x6 at *
      clear hb
      rw [Nat.add_zero] at c0
      go_wp2_with fail
      refine hcall.mono ?_
      rintro e w2 ⟨rfl, hk2⟩
      have hk2' := hk.trans' hk2
      clear hcall c0 c1 c2 c3 c4 c5 c6
      cases b with
      | true =>
        go_wp2_with fail
        go_ret
        rw [HF.out trivial]
        exact ⟨rfl, hk2'⟩
      | false =>
        go_wp2_with fail
        go_roundw
        case rel => exact ⟨i + 1, by go_num, hlt, HN.out trivial, hk2'⟩
        case measure => simp [intOf]; omega
    · obtain rfl : i = l.length := Nat.le_antisymm hi hge
      have hof := posM_none (p := p) (l := l) fun j hj => hno j hj _ (List.getElem?_eq_getElem hj)
      go_wp2_with fail
      go_ret
      rw [hof]
      exact ⟨rfl, hk⟩
set_option maxHeartbeats 1000000 in
theorem hasSg_any {v : Value} (l : List Sg) (g : Nat) (caps : Array Value) (p : Sg → Bool) (hl : Fl A w 7 encSg v l) (hent : ∀ a, Enters g (#[a] ++ caps))
    (hcall : ∀ s ∈ l, ∀ wr, Keep No w wr → Calls Try.prog g (#[.agg (encSg s).toArray] ++ caps) wr fun e w' => e = .returned (.bool (p s)) ∧ Keep No wr w') :
    Calls Try.prog 106 #[v, .func (.func g) #[] caps] w fun e w' => e = .returned (.bool (l.any p)) ∧ Keep No w w' := by
  have hc := idxSg_any l g caps p hl hent hcall
  have hb : decide (0 ≤ posM p l) = l.any p := by
    unfold posM
    cases l.any p with
    | false => rfl
    | true => simp
  clear hcall hent hl
  generalize posM p l = r at *
  generalize l.any p = b at *
  go_enter Try.func106, Try.ntmps106
  go_wp2_with fail
  refine hc.mono ?_
  rintro e w2 ⟨rfl, hk2⟩
  go_wp2_with fail
  go_ret
  exact ⟨by rw [← hb]; rfl, hk2⟩
set_option maxHeartbeats 1000000 in
theorem sgfind1_any (s : Sg) (k q : Nat) (hq : w.cell? ⟨q, 0, none⟩ = some (.int .u32 (k : Int))) (hql : q < w.heap.size) :
    Calls Try.prog 61 #[.agg (encSg s).toArray, .pointer (some ⟨q, 0, none⟩)] w fun e w' => e = .returned (.bool (s.ty == k)) ∧ Keep No w w' := by
  have hne : q ≠ w.heap.size := Nat.ne_of_lt hql
  have hb : ((s.ty : Int) == (k : Int)) = (s.ty == k) := by
    rw [Bool.eq_iff_iff, beq_iff_eq, beq_iff_eq]
    omega
  unfold encSg
  generalize (s.ty == k) = b at *
  go_enter Try.func61, Try.ntmps61
  go_wp2_with fail
  go_ret
  exact ⟨by rw [← hb]; rfl, (Keep.refl _ _).alloc _⟩
/-- the segment that is told -/
def sgD (o : Option Sg) : Sg := o.getD sg0
theorem sgbuilt0 : Try.prog.built 104 [] = some (encSg sg0).toArray := by kernel_rfl
theorem segfits (cells : List Value) (h : cells.length = 7) : (Try.prog.info? 104).map (·.size) = some cells.toArray.size := by
  have := segT_info
  rw [List.size_toArray, h]
  cases hi : Try.prog.info? 104 with
  | none => rw [hi] at this; cases this
  | some i => rw [hi] at this; simp at this; simp [this.2.1]
set_option maxRecDepth 100000 in
set_option maxHeartbeats 4000000 in
theorem sgfind_any {v : Value} (l : List Sg) (k : Nat) (hl : Fl A w 7 encSg v l) :
    Calls Try.prog 42 #[v, .int .u32 (k : Int)] w fun e w' => e = .returned (.tuple #[.agg (encSg (sgD (findM l k))).toArray, .bool (findM l k).isSome]) ∧ Keep No w w' := by
  have HL := Lib.hid hl
  obtain ⟨ao, co, rfl, hc1, hc2⟩ := hl.shape
  clear hl
  go_enter Try.func42, Try.ntmps42
  go_wp2_with fail
  have hkW : Keep No w (w.alloc (.cells #[.int .u32 (k : Int)] 85)) := (Keep.refl _ _).alloc _
  have hBW : Blk (w.alloc (.cells #[.int .u32 (k : Int)] 85)) w.heap.size #[.int .u32 (k : Int)] 85 := Blk.new _ _ _
  have hzW : (w.alloc (.cells #[.int .u32 (k : Int)] 85)).heap.size = w.heap.size + 1 := World.size_alloc _ _
  generalize w.alloc (.cells #[.int .u32 (k : Int)] 85) = W at *
  have hkV : Keep No W (W.alloc (.cells #[.int .u32 0, .int .u32 0, .int .u64 0, .int .u64 0, .int .u64 0, .int .u64 0, .int .u64 0] 104)) := (Keep.refl _ _).alloc _
  have hBV : Blk (W.alloc (.cells #[.int .u32 0, .int .u32 0, .int .u64 0, .int .u64 0, .int .u64 0, .int .u64 0, .int .u64 0] 104)) W.heap.size #[.int .u32 0, .int .u32 0, .int .u64 0, .int .u64 0, .int .u64 0, .int .u64 0, .int .u64 0] 104 := Blk.new _ _ _
  have hzV : (W.alloc (.cells #[.int .u32 0, .int .u32 0, .int .u64 0, .int .u64 0, .int .u64 0, .int .u64 0, .int .u64 0] 104)).heap.size = W.heap.size + 1 := World.size_alloc _ _
  generalize W.alloc (.cells #[.int .u32 0, .int .u32 0, .int .u64 0, .int .u64 0, .int .u64 0, .int .u64 0, .int .u64 0] 104) = V at *
  have hqW := (hBW.keep hkV fun h => h).cell 0
  have hqlV := (hBW.keep hkV fun h => h).lt
  have hcall := idxSg_any (w := V) l 61 #[.pointer (some ⟨w.heap.size, 0, none⟩)] (fun s => s.ty == k) ((HL.out.no hkW).no hkV) (fun a w => by kernel_rfl) (fun s _ wr hk => by
    refine sgfind1_any s k w.heap.size ((hk.cell (p := ⟨w.heap.size, 0, none⟩) hqlV fun h => h).trans hqW) (Nat.lt_of_lt_of_le hqlV hk.size))
  refine hcall.mono ?_
  clear hcall
  rintro e w2 ⟨rfl, hk2⟩
  have hB2 := hBV.keep hk2 fun h => h
  have hkF : Keep No w w2 := (hkW.trans' hkV).trans' hk2
  rw [hzW] at hB2
  clear hqW hqlV hBW hBV hkV
  rcases posM_find (fun s : Sg => s.ty == k) l with ⟨h1, h2⟩ | ⟨i, hi, h1, h2⟩
  · have HF : Hid (findM l k = none) := Lib.hid h1
    rw [h2]
    clear HL h1 h2
    go_wp2_with (with_reducible refine wl_stAgg rfl _ _ _ rfl _ _ rfl rfl ?_)
    rw [show (Value.agg #[.int .u32 0, .int .u32 0, .int .u64 0, .int .u64 0, .int .u64 0, .int .u64 0, .int .u64 0]) = .agg (encSg sg0).toArray from rfl]
    refine rg_stAgg hB2 (by kernel_rfl) (by rfl) (by simp [Value.oneCell']) ?_
    intro w3 hB3 hk3 _
    go_wp2_with fail
    refine ret_blk_tmp rfl rfl hB3 Try.underlying104 rfl (by kernel_rfl) rfl ?_
    exact ⟨by rw [HF.out]; rfl, hkF.trans hk3 fun j hj e => by omega⟩
  · have HF : Hid (findM l k = some l[i]) := Lib.hid h1
    rw [h2]
    clear h1 h2
    obtain ⟨g1, off, cap, ev, _, _, _, _, hc⟩ := ((HL.out.no hkF)).at encSg_len hi
    cases ev
    have hlt : (i : Int) < (l.length : Int) := by omega
    have c0 := hc 0 _ rfl
    have c1 := hc 1 _ rfl
    have c2 := hc 2 _ rfl
    have c3 := hc 3 _ rfl
    have c4 := hc 4 _ rfl
    have c5 := hc 5 _ rfl
    have c6 := hc 6 _ rfl
    rw [Nat.add_zero] at c0
    clear hc HL
    generalize l[i] = s at *
    obtain ⟨x0, x1, x2, x3, x4, x5, x6⟩ := s
    dsimp only at c0 c1 c2 c3 c4 c5 c6
    go_wp2_with (with_reducible refine wl_stAgg rfl _ _ _ rfl _ _ rfl rfl ?_)
    refine rg_stAgg hB2 (by kernel_rfl) (by rfl) (by simp [Value.oneCell']) ?_
    intro w3 hB3 hk3 _
    go_wp2_with fail
    refine ret_blk_tmp rfl rfl hB3 Try.underlying104 rfl (by kernel_rfl) rfl ?_
    exact ⟨by rw [HF.out]; rfl, hkF.trans hk3 fun j hj e => by omega⟩
set_option maxHeartbeats 1000000 in
theorem sgsingle_any (s : Sg) (hs : SgOk s) :
    Calls Try.prog 99 #[.agg (encSg s).toArray] w fun e w' => e = .returned (.bool (singleB s)) ∧ Keep No w w' := by
  have hb : (decide (s.ty = 2) || decide (s.ty = 7)) = singleB s := by
    unfold singleB
    rw [Bool.decide_or]
  rw [← hb]
  unfold encSg
  generalize s.ty = x0 at *
  clear hb hs
  go_enter Try.func99, Try.ntmps99
  go_wp2_with fail
  all_goals
    go_ret
    refine ⟨congrArg (fun b => Ending.returned (Value.bool b)) ?_, (Keep.refl _ _).alloc _⟩
    rw [Bool.eq_iff_iff]
    simp only [Bool.or_eq_true, decide_eq_true_eq, Bool.false_eq_true, false_iff, true_iff, beq_iff_eq]
    omega
set_option maxRecDepth 100000 in
set_option maxHeartbeats 1000000 in
theorem idxU32_any {v : Value} (l : List Nat) (x : Nat) (hl : Fl A w 1 (fun n : Nat => [.int .u32 (n : Int)]) v l) :
    Calls Try.prog 118 #[v, .int .u32 (x : Int)] w fun e w' => e = .returned (.int .i64 (posM (fun n => n == x) l)) ∧ Keep No w w' := by
  have HL := Lib.hid hl
  obtain ⟨ao, co, rfl, hc1, hc2⟩ := hl.shape
  have hlen : l.length ≤ 9223372036854775807 := by unfold maxLen at hc2; omega
  clear hl hc1 hc2
  go_enter Try.func118, Try.ntmps118
  go_wp2_with fail
  go_loopw [5, 8] (fun _ iv wr => ∃ i : Nat, iv = .int .i64 i ∧ i ≤ l.length ∧ (∀ j, j < i → ∀ y, l[j]? = some y → (y == x) = false) ∧ Keep No w wr) (fun _ iv _ => l.length - (intOf iv).toNat)
  case atStart => exact ⟨0, rfl, Nat.zero_le _, (fun j hj => absurd hj (Nat.not_lt_zero _)), Keep.refl _ _⟩
  case round =>
    obtain ⟨i, rfl, hi, hno, hk⟩ := hrel
    generalize wr = wz at *
    rcases Nat.lt_or_ge i l.length with hlt | hge
    · obtain ⟨g1, off, cap, ev, _, _, _, _, hc⟩ := (HL.out.no hk).at (fun _ => rfl) hlt
      cases ev
      have hiz : (i : Int) < (l.length : Int) := by omega
      have hfin : (l[i] == x) = true → posM (fun n => n == x) l = (i : Int) := fun h => posM_some hlt h fun j hj => hno j hj _ (List.getElem?_eq_getElem _)
      have hno2 : (l[i] == x) = false → ∀ j, j < i + 1 → ∀ y, l[j]? = some y → (y == x) = false := fun h j hji y hy => by
        rcases Nat.lt_or_ge j i with h2 | h2
        · exact hno j h2 y hy
        · obtain rfl : j = i := by omega
          rw [List.getElem?_eq_getElem hlt] at hy
          cases hy
          exact h
      have HF := Lib.hid hfin
      have HN := Lib.hid hno2
      clear hno hfin hno2
      have c0 := hc 0 _ rfl
      rw [Nat.add_zero, Nat.mul_one] at c0
      clear hc
      generalize hy : l[i] = y at *
      rcases Nat.decEq y x with hne | rfl
      · have hni : ¬ ((y : Int) = (x : Int)) := by omega
        have hb : (y == x) = false := by rw [beq_eq_false_iff_ne]; exact hne
        have hbi : ((x : Int) == (y : Int)) = false := by rw [beq_eq_false_iff_ne]; omega
        have hbi2 : ((y : Int) == (x : Int)) = false := by rw [beq_eq_false_iff_ne]; omega
        go_wp2_with fail
        try go_quiet (fail)
        go_wp2_with fail
        go_roundw
        case rel => exact ⟨i + 1, by go_num, hlt, HN.out hb, by first | exact hk | exact hk.drewN _⟩
        case measure => simp [intOf]; omega
      · go_wp2_with fail
        try go_quiet (fail)
        go_wp2_with fail
        go_ret
        rw [HF.out (by simp)]
        exact ⟨rfl, by first | exact hk | exact hk.drewN _⟩
    · obtain rfl : i = l.length := Nat.le_antisymm hi hge
      have hof := posM_none (p := fun n => n == x) (l := l) fun j hj => hno j hj _ (List.getElem?_eq_getElem hj)
      go_wp2_with fail
      go_ret
      rw [hof]
      exact ⟨rfl, hk⟩
theorem u32_info : (Try.prog.info? 85).map (fun i => (i.zero, i.size, i.bytes)) = some (some (.int .u32 0), 1, 4) := by kernel_rfl
set_option maxHeartbeats 1000000 in
theorem hasU32_any {v : Value} (l : List Nat) (x : Nat) (hl : Fl A w 1 (fun n : Nat => [.int .u32 (n : Int)]) v l) :
    Calls Try.prog 116 #[v, .int .u32 (x : Int)] w fun e w' => e = .returned (.bool (l.contains x)) ∧ Keep No w w' := by
  have hc := idxU32_any l x hl
  have hb : decide (0 ≤ posM (fun n => n == x) l) = l.contains x := by
    unfold posM
    rw [List.contains_eq_any_beq]
    have e : l.any (fun n => n == x) = l.any fun n => x == n := by
      congr 1
      funext n
      exact Bool.beq_comm
    rw [← e]
    cases l.any (fun n => n == x) with
    | false => rfl
    | true => simp
  clear hl
  generalize posM (fun n => n == x) l = r at *
  generalize l.contains x = b at *
  go_enter Try.func116, Try.ntmps116
  go_wp2_with fail
  refine hc.mono ?_
  rintro e w2 ⟨rfl, hk2⟩
  go_wp2_with fail
  go_ret
  exact ⟨by rw [← hb]; rfl, hk2⟩
set_option maxRecDepth 100000 in
set_option maxHeartbeats 1000000 in
theorem sgkind_any (k : Nat) :
    Calls Try.prog 110 #[.int .u32 (k : Int)] w fun e w' => e = .returned (.bool (kindB k)) ∧ Keep No w w' := by
  go_enter Try.func110, Try.ntmps110
  go_wp2_with fail
  have hkW : Keep No w (w.alloc (.cells #[.int .u32 0, .int .u32 1, .int .u32 2, .int .u32 4, .int .u32 7] 85)) := (Keep.refl _ _).alloc _
  have hBW : Blk (w.alloc (.cells #[.int .u32 0, .int .u32 1, .int .u32 2, .int .u32 4, .int .u32 7] 85)) w.heap.size #[.int .u32 0, .int .u32 1, .int .u32 2, .int .u32 4, .int .u32 7] 85 := Blk.new _ _ _
  have hzW : (w.alloc (.cells #[.int .u32 0, .int .u32 1, .int .u32 2, .int .u32 4, .int .u32 7] 85)).heap.size = w.heap.size + 1 := World.size_alloc _ _
  generalize w.alloc (.cells #[.int .u32 0, .int .u32 1, .int .u32 2, .int .u32 4, .int .u32 7] 85) = W at *
  have hs : Fl (fun j => j = w.heap.size) W 1 (fun n : Nat => [.int .u32 (n : Int)]) (.slice (some ⟨w.heap.size, 0, none⟩) 5 5) [0, 1, 2, 4, 7] := by
    refine Sl.mk (by rfl) rfl hBW.lt (Nat.le_refl _) (by unfold maxLen; omega) fun j u hu => ?_
    rw [hBW.cell, Nat.zero_add, List.getElem?_toArray]
    exact hu
  have hc := hasU32_any _ k hs
  rw [show ([0, 1, 2, 4, 7] : List Nat).contains k = kindB k by
    unfold kindB
    rw [Bool.eq_iff_iff]
    simp] at hc
  refine hc.mono ?_
  rintro e w2 ⟨rfl, hk2⟩
  go_wp2_with fail
  go_ret
  exact ⟨rfl, hkW.trans' hk2⟩
end
end Go.Proofs.Ytbnahidopemkiaa
namespace Go.Proofs.Ytbnahidopemkiaa
open Go.RowKit Go.Dm Go.Dm.Oc Go.Dm.Ld
section
variable {A : Nat → Prop} {w : World}
set_option maxRecDepth 100000 in
set_option maxHeartbeats 1000000 in
theorem sgpages_any (s : Sg) (hs : SgOk s) (hm : s.va + s.me ≤ 18446744073709551360) :
    Calls Try.prog 59 #[.agg (encSg s).toArray] w fun e w' => e = .returned (.tuple #[.int .u64 (firstM s : Nat), .int .u64 (lastM s : Nat)]) ∧ Keep No w w' := by
  have h1 := fun w => odown_any s.va (by omega) w
  have h2 : ∀ w, Calls Try.prog 75 #[.int .u64 ((s.va : Int) + (s.me : Int)), .int .u64 256] w fun e w' => e = .returned (.tuple #[.int .u64 (((s.va + s.me + 255) / 256 * 256 : Nat) : Int), .int .i64 0]) ∧ w = w' := fun w => by
    have := oup_any (s.va + s.me) (by omega) w
    rwa [Int.natCast_add] at this
  have hsum : IntKind.u64.wrap ((s.va : Int) + (s.me : Int)) = ((s.va + s.me : Nat) : Int) := by
    rw [IntKind.wrap_u64]
    omega
  unfold firstM lastM
  unfold encSg
  generalize s.va / 256 * 256 = lo at *
  generalize (s.va + s.me + 255) / 256 * 256 = hi at *
  obtain ⟨x0, x1, x2, x3, x4, x5, x6⟩ := s
  dsimp only at *
  go_enter Try.func59, Try.ntmps59
  go_wp2_with fail
  refine (h1 _).mono ?_
  rintro e W ⟨rfl, rfl⟩
  go_wp2_with fail
  refine (h2 _).mono ?_
  rintro e W2 ⟨rfl, rfl⟩
  go_wp2_with fail
  go_ret2
  exact ⟨rfl, (Keep.refl _ _).alloc _⟩
set_option maxRecDepth 100000 in
set_option maxHeartbeats 1000000 in
theorem sgone_any (s : Sg) (size : Nat) (hs : SgOk s) (hz : size < 18446744073709551616) :
    Calls Try.prog 98 #[.agg (encSg s).toArray, .int .u64 (size : Int)] w fun e w' => e = .returned (.int .i64 (oneE s size : Nat)) ∧ Keep No w w' := by
  have h1 := fun w => sgkind_any (w := w) s.ty
  obtain ⟨x0, x1, x2, x3, x4, x5, x6⟩ := s
  obtain ⟨o0, o1, o2, o3, o4, o5, o6⟩ := hs
  unfold encSg
  dsimp only at *
  go_enter Try.func98, Try.ntmps98
  go_wp2_with fail
  have hkW : Keep No w (w.alloc (.cells #[.int .u32 (x0 : Int), .int .u32 (x1 : Int), .int .u64 (x2 : Int), .int .u64 (x3 : Int), .int .u64 (x4 : Int), .int .u64 (x5 : Int), .int .u64 (x6 : Int)] 104)) := (Keep.refl _ _).alloc _
  have hBW : Blk (w.alloc (.cells #[.int .u32 (x0 : Int), .int .u32 (x1 : Int), .int .u64 (x2 : Int), .int .u64 (x3 : Int), .int .u64 (x4 : Int), .int .u64 (x5 : Int), .int .u64 (x6 : Int)] 104)) w.heap.size #[.int .u32 (x0 : Int), .int .u32 (x1 : Int), .int .u64 (x2 : Int), .int .u64 (x3 : Int), .int .u64 (x4 : Int), .int .u64 (x5 : Int), .int .u64 (x6 : Int)] 104 := Blk.new _ _ _
  have hzW : (w.alloc (.cells #[.int .u32 (x0 : Int), .int .u32 (x1 : Int), .int .u64 (x2 : Int), .int .u64 (x3 : Int), .int .u64 (x4 : Int), .int .u64 (x5 : Int), .int .u64 (x6 : Int)] 104)).heap.size = w.heap.size + 1 := World.size_alloc _ _
  generalize w.alloc (.cells #[.int .u32 (x0 : Int), .int .u32 (x1 : Int), .int .u64 (x2 : Int), .int .u64 (x3 : Int), .int .u64 (x4 : Int), .int .u64 (x5 : Int), .int .u64 (x6 : Int)] 104) = W at *
  refine (h1 _).mono ?_
  rintro e w2 ⟨rfl, hk2⟩
  have hB2 := hBW.keep hk2 fun h => h
  have c0 := hB2.cell 0
  have c1 := hB2.cell 1
  have c2 := hB2.cell 2
  have c3 := hB2.cell 3
  have c4 := hB2.cell 4
  have c5 := hB2.cell 5
  clear hBW hB2 h1
  have hk := hkW.trans' hk2
  clear hkW hk2
  cases hkb : kindB x0 with
  | false =>
    clear c0 c1 c2 c3 c4 c5
    go_wp2_with fail
    go_ret
    refine ⟨?_, hk⟩
    unfold oneE
    rw [if_pos (.inl hkb)]
    rfl
  | true =>
    go_wp2_with fail
    all_goals
      go_ret
      refine ⟨?_, hk⟩
      clear c0 c1 c2 c3 c4 c5 hk hzW
      unfold oneE
      dsimp only
      repeat' split
      all_goals first
        | rfl
        | (exfalso
           simp only [hkb, beq_iff_eq, beq_eq_false_iff_ne, bne_iff_ne, bne_eq_false_iff_eq, decide_eq_true_eq, decide_eq_false_iff_not, ne_eq, not_or, not_and, Bool.and_eq_true, Bool.or_eq_true, Bool.and_eq_false_iff, Bool.or_eq_false_iff, Bool.true_eq_false, Bool.false_eq_true, not_true, not_false_eq_true, reduceCtorEq, false_or, or_false, true_and, and_true] at *
           omega)
set_option maxRecDepth 100000 in
set_option maxHeartbeats 2000000 in
theorem sgwithin1_any (x s : Sg) (q : Nat) (hx : SgOk x) (hs : SgOk s) (hq : ∀ j u, (encSg s)[j]? = some u → w.cell? ⟨q, j, none⟩ = some u) (hql : q < w.heap.size) :
    Calls Try.prog 111 #[.agg (encSg x).toArray, .pointer (some ⟨q, 0, none⟩)] w fun e w' => e = .returned (.bool (liesB x s)) ∧ Keep No w w' := by
  have hne : q ≠ w.heap.size := Nat.ne_of_lt hql
  have c2 := hq 2 _ rfl
  have c3 := hq 3 _ rfl
  have c4 := hq 4 _ rfl
  clear hq
  obtain ⟨x0, x1, x2, x3, x4, x5, x6⟩ := x
  obtain ⟨y0, y1, y2, y3, y4, y5, y6⟩ := s
  obtain ⟨o0, o1, o2, o3, o4, o5, o6⟩ := hx
  obtain ⟨p0, p1, p2, p3, p4, p5, p6⟩ := hs
  unfold encSg
  dsimp only at *
  have hw1 : IntKind.u64.wrap ((x3 : Int) - (x2 : Int)) = ((x3 : Int) - (x2 : Int)) % 18446744073709551616 := IntKind.wrap_u64 _
  have hw2 : IntKind.u64.wrap ((y3 : Int) - (y2 : Int)) = ((y3 : Int) - (y2 : Int)) % 18446744073709551616 := IntKind.wrap_u64 _
  go_enter Try.func111, Try.ntmps111
  go_wp2_with fail
  all_goals
    go_ret
    refine ⟨congrArg (fun b => Ending.returned (Value.bool b)) ?_, (Keep.refl _ _).alloc _⟩
    clear c2 c3 c4 hw1 hw2
    unfold liesB
    dsimp only
    rw [Bool.eq_iff_iff]
    simp only [Bool.and_eq_true, decide_eq_true_eq, beq_iff_eq, Bool.false_eq_true, false_iff, true_iff, not_and] at *
    omega
end
end Go.Proofs.Ytbnahidopemkiaa
namespace Go.Dm
open Go

/-- st: it yields the same in every world of S; ef: the only one that may come; br: i or j may come -/
inductive Tr where
  | nil
  | st (i : Nat) (r : Tr)
  | ef (i : Nat) (r : Tr)
  | br (i j : Nat) (l r : Tr)
def Tr.len : Tr → Nat
  | .nil => 0 | .st _ r => r.len + 1 | .ef _ r => r.len + 1 | .br _ _ l _ => l.len + 1

section
variable {P : Program} {ops : Array Oper} {Q : Exit → Act → World → Prop} {md : Region.Mode} {S : World → Prop} {kb : Nat → Bool}

def treeB (md : Region.Mode) (ops : Array Oper) (kb : Nat → Bool) : Tr → Array Bool → Bool → Bool
  | .nil, listed, _ => (Region.ready md ops listed).isEmpty
  | .st i r, listed, s => s && (Region.ready md ops listed).contains i && freeK md ops kb listed i && treeB md ops kb r (listed.setIfInBounds i true) s
  | .ef i r, listed, s => (Region.ready md ops listed == [i]) && treeB md ops kb r (listed.setIfInBounds i true) (s && kb i)
  | .br i j l r, listed, s => (Region.ready md ops listed == [i, j]) && (l.len == r.len) && treeB md ops kb l (listed.setIfInBounds i true) (s && kb i) && treeB md ops kb r (listed.setIfInBounds j true) (s && kb j)

def wpTree (P : Program) (ops : Array Oper) (Q : Exit → Act → World → Prop) (S : World → Prop) (kb : Nat → Bool) : Tr → Act → World → Prop
  | .nil, a, w => Q .normal a w
  | .st i r, a, w => ∃ o v, ops[i]? = some o ∧ YieldsIf P ops S o v a ∧ wpTree P ops Q S kb r (a.put o.dst v) w
  | .ef i r, a, w => wpOp P ops Q i (fun a' w' => (kb i = true → S w') ∧ wpTree P ops Q S kb r a' w') a w
  | .br i j l r, a, w => wpOp P ops Q i (fun a' w' => (kb i = true → S w') ∧ wpTree P ops Q S kb l a' w') a w ∧ wpOp P ops Q j (fun a' w' => (kb j = true → S w') ∧ wpTree P ops Q S kb r a' w') a w

theorem wpTree_sound (hs : Region.noSelect ops = true) (hQ : ∀ c a d v w, Q (.panic c) (a.put d v) w → Q (.panic c) a w) :
    ∀ (l : Tr) (listed : Array Bool) (s : Bool) (a : Act) (w : World), treeB md ops kb l listed s = true → Closed md ops listed → (s = true → S w) → wpTree P ops Q S kb l a w → wpAnyK P md ops Q S kb l.len listed a w
  | .nil, listed, s, a, w, h, _, _, hq => by
    have : Region.ready md ops listed = [] := by simpa [treeB] using h
    exact ⟨this, hq⟩
  | .st i r, listed, s, a, w, h, hcl, hS, ⟨o, v, ho, hy, hq⟩ => by
    simp only [treeB, Bool.and_eq_true] at h
    obtain ⟨⟨⟨h1, h2⟩, h3⟩, h4⟩ := h
    exact wpAnyK_first ho (Region.noSelect_spec hs) (fun c a w => hQ c a _ _ w) r.len listed a w (freeK_spec ho h3) hcl (by simpa using h2) hy (hS h1)
      (wpTree_sound hs hQ r _ s _ w h4 (hcl.step (by simpa using h2)) hS hq)
  | .ef i r, listed, s, a, w, h, hcl, hS, hq => by
    simp only [treeB, Bool.and_eq_true, beq_iff_eq] at h
    refine ⟨fun h0 => (by rw [h.1] at h0; cases h0), fun j hj => ?_⟩
    rw [h.1] at hj
    obtain rfl : j = i := by simpa using hj
    exact wpOp_mono (fun a' w' h' => ⟨h'.1, wpTree_sound hs hQ r _ (s && kb j) a' w' h.2 (hcl.step (by rw [h.1]; simp)) (fun hsk => h'.1 (Bool.and_eq_true_iff.1 hsk).2) h'.2⟩) hq
  | .br i j l r, listed, s, a, w, h, hcl, hS, hq => by
    simp only [treeB, Bool.and_eq_true, beq_iff_eq] at h
    obtain ⟨⟨⟨h1, h2⟩, h3⟩, h4⟩ := h
    refine ⟨fun h0 => (by rw [h1] at h0; cases h0), fun k hk => ?_⟩
    have hk0 := hk
    rw [h1] at hk
    rcases (by simpa using hk : k = i ∨ k = j) with rfl | rfl
    · exact wpOp_mono (fun a' w' h' => ⟨h'.1, wpTree_sound hs hQ l _ (s && kb k) a' w' h3 (hcl.step hk0) (fun hsk => h'.1 (Bool.and_eq_true_iff.1 hsk).2) h'.2⟩) hq.1
    · show wpOp P ops Q k (fun a' w' => (kb k = true → S w') ∧ wpAnyK P md ops Q S kb l.len _ a' w') a w
      rw [h2]
      exact wpOp_mono (fun a' w' h' => ⟨h'.1, wpTree_sound hs hQ r _ (s && kb k) a' w' h4 (hcl.step hk0) (fun hsk => h'.1 (Bool.and_eq_true_iff.1 hsk).2) h'.2⟩) hq.2

theorem wp_region_tree {id : Nat} {a : Act} {w : World} (S : World → Prop) (kb : Nat → Bool) (l : Tr) {o : List Oper} (hm : P.follows .mixedOrders = true)
    (hB : (Region.noSelect o.toArray && treeB .any o.toArray kb l (Array.replicate o.toArray.size false) true && (l.len == o.toArray.size)) = true)
    (hQ : ∀ c a d v w, Q (.panic c) (a.put d v) w → Q (.panic c) a w) (hS : S w.drew)
    (h : wpTree P o.toArray Q S kb l a w.drew) : (Code.region id o.toArray true).wp P Q a w := by
  simp only [Bool.and_eq_true, beq_iff_eq] at hB
  refine wp_region_any hm (wpAny_of_K (S := S) (kb := kb) _ _ _ _ ?_)
  have h2 := wpTree_sound (md := .any) hB.1.1 hQ l _ true a _ hB.1.2 (fun k ok _ hl => by rw [Array.getD_eq_getD_getElem?, Array.getElem?_replicate] at hl; split at hl <;> cases hl) (fun _ => hS) h
  rw [hB.2] at h2
  exact h2

theorem tr_nil {a : Act} {w : World} (h : Q .normal a w) : wpTree P ops Q S kb .nil a w := h
theorem tr_still {i : Nat} {r : Tr} {a : Act} {w : World} {o : Oper} {v : Value} (ho : ops[i]? = some o) (hg : o.guard = none)
    (hy : ∀ w', S w' → (execOp a.eval o).run P w' = .ok (.value v) w') (h : wpTree P ops Q S kb r (a.put o.dst v) w) : wpTree P ops Q S kb (.st i r) a w :=
  ⟨o, v, ho, .inl ⟨by simp [Region.wanted, hg], hy⟩, h⟩
theorem tr_guard {i : Nat} {r : Tr} {a : Act} {w : World} {o : Oper} {v : Value} (ho : ops[i]? = some o) (hg : Region.wanted o (yielded ops a.tmps) = true)
    (hy : ∀ w', S w' → (execOp a.eval o).run P w' = .ok (.value v) w') (h : wpTree P ops Q S kb r (a.put o.dst v) w) : wpTree P ops Q S kb (.st i r) a w :=
  ⟨o, v, ho, .inl ⟨hg, hy⟩, h⟩
theorem tr_skip {i : Nat} {r : Tr} {a : Act} {w : World} {o : Oper} (ho : ops[i]? = some o) (hg : Region.wanted o (yielded ops a.tmps) = false)
    (h : wpTree P ops Q S kb r (a.put o.dst undef) w) : wpTree P ops Q S kb (.st i r) a w :=
  ⟨o, undef, ho, .inr ⟨hg, rfl⟩, h⟩
theorem wo_eff {i : Nat} {a : Act} {w : World} {o : Oper} {R : Act → World → Prop} (ho : ops[i]? = some o) (hg : o.guard = none)
    (h : ∀ K : Act → World → Prop, (∀ a' w', R a' w' → K a' w') → o.wp P a w K Q) : wpOp P ops Q i R a w := by
  unfold wpOp
  simp only [ho, Region.wanted, hg, if_true]
  exact .inl (h _ fun _ _ h => h)
theorem tr_eff {i : Nat} {r : Tr} {a : Act} {w : World} {o : Oper} (ho : ops[i]? = some o) (hg : o.guard = none)
    (h : ∀ K : Act → World → Prop, (∀ a' w', ((kb i = true → S w') ∧ wpTree P ops Q S kb r a' w') → K a' w') → o.wp P a w K Q) : wpTree P ops Q S kb (.ef i r) a w := wo_eff ho hg h
theorem tr_br {i j : Nat} {l r : Tr} {a : Act} {w : World} {o o' : Oper} (ho : ops[i]? = some o) (hg : o.guard = none) (ho' : ops[j]? = some o') (hg' : o'.guard = none)
    (h : ∀ K : Act → World → Prop, (∀ a' w', ((kb i = true → S w') ∧ wpTree P ops Q S kb l a' w') → K a' w') → o.wp P a w K Q)
    (h' : ∀ K : Act → World → Prop, (∀ a' w', ((kb j = true → S w') ∧ wpTree P ops Q S kb r a' w') → K a' w') → o'.wp P a w K Q) : wpTree P ops Q S kb (.br i j l r) a w := ⟨wo_eff ho hg h, wo_eff ho' hg' h'⟩
end
end Go.Dm
