/- How memory in pages lies in the program's memory (SRep), and the small functions: base, may, each. A region that draws its order, walked in one order that is given: operations that yield the same in every world of a class S are taken first; behind each of the others S is shown anew, where something may still come that leans on it. Masks of few bits. held, allowed: the errors of spans. Data that can be read: shapes (Sh), how cells read as them (Rd), and that every argument whose type fits a shape reads so. No condition. -/
import Derived.Test.YthfekjnekaecaaaDoorProg
import Derived.Test.YthfekjnekaecaaaDoorVmM
import Derived.OrdersHeld
import Derived.Deep.Slices
import Derived.OpenShut
import Derived.WideShapes
set_option linter.unusedVariables false
set_option linter.unusedSimpArgs false
namespace Go.Proofs.YthfekjnekaecaaaDoor
open Go.RowKit Go.Dm Go.Dm.Vm Go.Maps

def ptrTo (b : Nat) : Value := .pointer (some ⟨b, 0, none⟩)
/-- the call of a function value enters it -/
def Enters (f : Nat) (c : Array Value) : Prop := ∀ w : World, (callFunc f c).run Tryd.prog w = .ok (.enter f c) w
def pgC (p : Pg) : Array Value := (Value.int .i64 p.prot :: Value.bool p.dirty :: Value.string ⟨p.file.toArray⟩ :: Value.int .u64 p.off :: p.b.map bv).toArray
theorem pgC_size {p : Pg} (h : p.b.length = 256) : (pgC p).size = 260 := by simp [pgC, h]
theorem pgC_byte (p : Pg) (r : Nat) : (pgC p)[4 + r]? = (p.b[r]?).map bv := by
  rw [show 4 + r = r + 4 by omega]
  simp [pgC]
def VL (f : Nat → Nat) (m : V) : List (Lit × Value) := m.map fun p => (.int .u64 p.addr, ptrTo (f p.addr))
structure SRep (A : Nat → Prop) (w : World) (d : Nat) (m : V) (mb : Nat) (f : Nat → Nat) : Prop where
  blk : Blk w d #[.map (some mb)] 120
  mp : MapL Tryd.prog 22 w mb (VL f m)
  pg : ∀ p ∈ m, A (f p.addr) ∧ Blk w (f p.addr) (pgC p) 125
  inj : ∀ p ∈ m, ∀ q ∈ m, f p.addr = f q.addr → p.addr = q.addr
  ok : Ok m
  Ad : A d
  Am : A mb
def SR (A : Nat → Prop) (w : World) (d : Nat) (m : V) : Prop := ∃ mb f, SRep A w d m mb f

section
variable {A B S : Nat → Prop} {w w' : World} {d mb : Nat} {f : Nat → Nat} {m : V}
theorem SRep.same (h : SRep A w d m mb f) (e : ∀ k, A k → w'.heap[k]? = w.heap[k]?) : SRep A w' d m mb f where
  blk := h.blk.same (e d h.Ad)
  mp := h.mp.same (e mb h.Am)
  pg := fun p hp => ⟨(h.pg p hp).1, (h.pg p hp).2.same (e _ (h.pg p hp).1)⟩
  inj := h.inj
  ok := h.ok
  Ad := h.Ad
  Am := h.Am
theorem SRep.keep (h : SRep A w d m mb f) (hk : Keep S w w') (hS : ∀ k, A k → ¬ S k) (hA : ∀ k, A k → k < w.heap.size) : SRep A w' d m mb f := h.same fun k ha => hk.block k (hA k ha) (hS k ha)
theorem SRep.mono (h : SRep A w d m mb f) (hab : ∀ k, k < w.heap.size → A k → B k) : SRep B w d m mb f where
  blk := h.blk
  mp := h.mp
  pg := fun p hp => ⟨hab _ (h.pg p hp).2.lt (h.pg p hp).1, (h.pg p hp).2⟩
  inj := h.inj
  ok := h.ok
  Ad := hab _ h.blk.lt h.Ad
  Am := hab _ h.mp.lt h.Am
theorem SR.mono (h : SR A w d m) (hab : ∀ k, k < w.heap.size → A k → B k) : SR B w d m := by
  obtain ⟨mb, f, h⟩ := h
  exact ⟨mb, f, h.mono hab⟩
theorem SR.keep (h : SR A w d m) (hk : Keep S w w') (hS : ∀ k, A k → ¬ S k) (hA : ∀ k, A k → k < w.heap.size) : SR A w' d m := by
  obtain ⟨mb, f, h⟩ := h
  exact ⟨mb, f, h.keep hk hS hA⟩
end
/-- memory whose own memory lies in P -/
def Sp (P : Nat → Prop) (w : World) (d : Nat) (m : V) : Prop := SR (fun k => P k ∧ k < w.heap.size) w d m
theorem Sp.keep {P S : Nat → Prop} {w w' : World} {d : Nat} {m : V} (h : Sp P w d m) (hk : Keep S w w') (hS : ∀ k, P k → ¬ S k) : Sp P w' d m :=
  (SR.keep h hk (fun k hk => hS k hk.1) fun k hk => hk.2).mono fun _ hk ha => ⟨ha.1, hk⟩

theorem kU64 : Keyed Tryd.prog 22 := int_keyed Tryd.underlying22
theorem zPage (w : World) : (zeroValue 122).run Tryd.prog w = .ok (.pointer none) w := by kernel_rfl
theorem kOf {a : Nat} (h : a < 18446744073709551616) : keyOf Tryd.prog 22 (.int .u64 (a : Int)) = some (.int .u64 (a : Int)) := keyOf_int_mk Tryd.underlying22 (by
  simp [Lit.wf, IntKind.min, IntKind.max, IntKind.signed, IntKind.bits]; omega)
def atV (f : Nat → Nat) (m : V) (a : Nat) : Value := ((pageAt m a).map fun p => ptrTo (f p.addr)).getD (.pointer none)
theorem findL_VL (f : Nat → Nat) (m : V) (a : Nat) : findL (VL f m) (.int .u64 (a : Int)) = (pageAt m a).map fun p => ptrTo (f p.addr) := by
  unfold findL VL pageAt
  rw [List.find?_map, Option.map_map]
  congr 1
  have e : ((fun p : Lit × Value => p.1.sameKey (Lit.int .u64 (a : Int))) ∘ fun p : Pg => (Lit.int .u64 (p.addr : Int), ptrTo (f p.addr))) = fun p : Pg => p.addr == a := by
    funext p
    simp [Lit.sameKey]
    rw [Bool.eq_iff_iff]
    simp only [decide_eq_true_eq, beq_iff_eq]
    omega
  rw [e]

set_option maxHeartbeats 400000 in
theorem vbase_any (a : Nat) (h : a < 18446744073709551616) (w : World) : Calls Tryd.prog 66 #[.int .u64 (a : Int)] w fun e w' => e = .returned (.int .u64 ((pageOf a : Nat) : Int)) ∧ w = w' := by
  have e := andNot_255 a h
  go_enter Tryd.func66, Tryd.ntmps66
  go_wp2_with fail
  go_ret
  exact ⟨rfl, rfl⟩
set_option maxHeartbeats 1000000 in
theorem vmay_any (a s : Nat) (p : Int) (ha : a < 18446744073709551616) (hs : s < 18446744073709551616) (w : World) : Calls Tryd.prog 52 #[.int .u64 (a : Int), .int .u64 (s : Int), .int .i64 p] w fun e w' => e = .returned (.bool (may a s p)) ∧ w = w' := by
  go_enter Tryd.func52, Tryd.ntmps52
  go_wp2_with fail
  all_goals
    go_ret
    refine ⟨congrArg (fun b => Ending.returned (Value.bool b)) ?_, rfl⟩
    rw [Bool.eq_iff_iff]
    have ht : top = 4294967296 := rfl
    simp only [may, Bool.and_eq_true, decide_eq_true_eq, beq_iff_eq, Bool.false_eq_true, false_iff]
    omega
set_option maxRecDepth 100000 in
set_option maxHeartbeats 1000000 in
/-- something is done for each page of a span: R holds ahead of the k-th; Q is said of the first error -/
theorem veach_any {f : Nat} {c : Array Value} {w : World} (addr size : Nat) (R : Nat → World → Prop) (Q : Nat → World → Prop) (hs : 0 < size) (ha : addr ≤ top) (hz : size ≤ top - addr) (hent : ∀ a, Enters f (#[a] ++ c)) (h0 : R 0 w)
    (hstep : ∀ k w', k < pagesN addr size → R k w' → Calls Tryd.prog f (#[.int .u64 ((pageOf addr + 256 * k : Nat) : Int)] ++ c) w' fun e w'' => (e = .returned (.int .i64 0) ∧ R (k + 1) w'') ∨ ∃ er : Nat, er ≠ 0 ∧ e = .returned (.int .i64 (er : Int)) ∧ Q er w'') :
    Calls Tryd.prog 53 #[.int .u64 (addr : Int), .int .u64 (size : Int), .func (.func f) #[] c] w fun e w' => (e = .returned (.int .i64 0) ∧ R (pagesN addr size) w') ∨ ∃ er : Nat, er ≠ 0 ∧ e = .returned (.int .i64 (er : Int)) ∧ Q er w' := by
  unfold top at ha hz
  unfold Enters at hent
  have hpl := pageOf_le addr
  have HS := Lib.hid hstep
  clear hstep
  go_enter Tryd.func53, Tryd.ntmps53
  go_wp2_with fail
  refine (vbase_any addr (by omega) _).mono ?_
  rintro e x ⟨rfl, rfl⟩
  go_wp2_with fail
  go_loopw [7] (fun av wr => ∃ k : Nat, av = .int .u64 ((pageOf addr + 256 * k : Nat) : Int) ∧ k ≤ pagesN addr size ∧ R k wr) (fun av _ => pageOf addr + 256 * pagesN addr size - (intOf av).toNat)
  case atStart => exact ⟨0, rfl, Nat.zero_le _, h0⟩
  case round =>
    clear h0
    obtain ⟨k, rfl, hk, hR⟩ := hrel
    have hiff := pages_step addr size k hs
    have hb : pageOf addr + 256 * pagesN addr size ≤ 4294967296 := by unfold pageOf pagesN; omega
    rcases Nat.lt_or_ge k (pagesN addr size) with hkl | hkl
    · have hlt := hiff.2 hkl
      have hcall := HS.out k _ hkl hR
      have hstp : pageOf addr + 256 * k + 256 = pageOf addr + 256 * (k + 1) := by omega
      have hle1 : pageOf addr + 256 * (k + 1) ≤ 4294967296 := Nat.le_trans (by have := Nat.mul_le_mul_left 256 (Nat.succ_le_of_lt hkl); omega) hb
      have HC := Lib.hid hcall
      have hltz : ((pageOf addr + 256 * k : Nat) : Int) < (addr : Int) + (size : Int) := by omega
      have H1 := Lib.hid hstp
      clear hcall hiff hstp
      generalize pageOf addr + 256 * k = at_ at *
      go_wp2_with fail
      refine HC.out.mono ?_
      rintro e w2 (⟨rfl, hR2⟩ | ⟨er, hne, rfl, hQ⟩)
      · go_wp2_with fail
        go_roundw
        case rel => exact ⟨k + 1, by rw [← H1.out]; go_num, hkl, hR2⟩
        case measure => have := H1.out; simp [intOf]; omega
      · have hne' : ((er : Int) == 0) = false := by simpa using hne
        go_wp2_with fail
        go_ret
        exact .inr ⟨er, hne, rfl, hQ⟩
    · obtain rfl : k = pagesN addr size := Nat.le_antisymm hk hkl
      have hge : ((pageOf addr + 256 * pagesN addr size : Nat) : Int) ≥ (addr : Int) + (size : Int) := by
        have : ¬ pageOf addr + 256 * pagesN addr size < addr + size := fun h => absurd (hiff.1 h) (Nat.lt_irrefl _)
        omega
      clear hiff
      generalize pageOf addr + 256 * pagesN addr size = at_ at *
      go_wp2_with fail
      go_ret
      exact .inl ⟨rfl, hR⟩
end Go.Proofs.YthfekjnekaecaaaDoor
namespace Go.Dm
open Go

section
variable {P : Program} {ops : Array Oper} {Q : Exit → Act → World → Prop} {md : Region.Mode} {S : World → Prop} {kb : Nat → Bool}

/-- Whatever order is picked from here on, and S behind each operation of kb. -/
def wpAnyK (P : Program) (md : Region.Mode) (ops : Array Oper) (Q : Exit → Act → World → Prop) (S : World → Prop) (kb : Nat → Bool) : Nat → Array Bool → Act → World → Prop
  | 0, listed, a, w => Region.ready md ops listed = [] ∧ Q .normal a w
  | fuel + 1, listed, a, w =>
    (Region.ready md ops listed = [] → Q .normal a w) ∧
    ∀ i ∈ Region.ready md ops listed, wpOp P ops Q i (fun a' w' => (kb i = true → S w') ∧ wpAnyK P md ops Q S kb fuel (listed.setIfInBounds i true) a' w') a w

theorem wpAny_of_K : ∀ (fuel : Nat) (listed : Array Bool) (a : Act) (w : World), wpAnyK P md ops Q S kb fuel listed a w → wpAny P md ops Q fuel listed a w
  | 0, _, _, _, h => h
  | fuel + 1, _, _, _, h => ⟨h.1, fun i hi => wpOp_mono (fun a' w' h' => wpAny_of_K fuel _ a' w' h'.2) (h.2 i hi)⟩

/-- does number j wait for number i, at once or through others? -/
def reach (md : Region.Mode) (ops : Array Oper) : Nat → Nat → Nat → Bool
  | 0, _, _ => false
  | f + 1, j, i => match ops[j]? with
    | none => false
    | some oj => oj.after.any fun e => Region.binds md e && (e.on == i || reach md ops f e.on i)
def Closed (md : Region.Mode) (ops : Array Oper) (listed : Array Bool) : Prop :=
  ∀ (k : Nat) (ok : Oper), ops[k]? = some ok → listed.getD k false = true → ∀ e ∈ ok.after, Region.binds md e = true → listed.getD e.on false = true
theorem reach_listed {listed : Array Bool} (hc : Closed md ops listed) {i : Nat} : ∀ (f j : Nat) (oj : Oper), ops[j]? = some oj → (∀ e ∈ oj.after, Region.binds md e = true → listed.getD e.on false = true) → reach md ops f j i = true → listed.getD i false = true
  | 0, _, _, _, _, h => by simp [reach] at h
  | f + 1, j, oj, hj, ha, h => by
    simp only [reach, hj] at h
    obtain ⟨e, he, hb⟩ := Array.any_eq_true'.1 h
    simp only [Bool.and_eq_true, Bool.or_eq_true, beq_iff_eq] at hb
    obtain ⟨hb, h1 | h1⟩ := hb
    · rw [← h1]; exact ha e he hb
    · cases hk : ops[e.on]? with
      | none => cases f with
        | zero => simp [reach] at h1
        | succ f => simp [reach, hk] at h1
      | some ok => exact reach_listed hc f e.on ok hk (hc e.on ok hk (ha e he hb)) h1
theorem getD_set_same {listed : Array Bool} {i : Nat} (h : i < listed.size) : (listed.setIfInBounds i true).getD i false = true := by simp [h]
theorem Closed.step {listed : Array Bool} (hc : Closed md ops listed) {i : Nat} (hr : i ∈ Region.ready md ops listed) : Closed md ops (listed.setIfInBounds i true) := by
  have hmono : ∀ k, listed.getD k false = true → (listed.setIfInBounds i true).getD k false = true := by
    intro k hk
    by_cases e : i = k
    · subst e
      refine getD_set_same ?_
      rcases Nat.lt_or_ge i listed.size with h | h
      · exact h
      · simp [Array.getElem?_eq_none h] at hk
    · rw [getD_set_ne false e]; exact hk
  intro k ok hk hl e he hb
  by_cases ek : i = k
  · subst ek
    obtain ⟨_, oj, hoj, hall⟩ := mem_ready.1 hr
    rw [hk] at hoj; cases hoj
    exact hmono _ (hall e he hb)
  · rw [getD_set_ne false ek] at hl
    exact hmono _ (hc k ok hk hl e he hb)

theorem wpAnyK_first {i : Nat} {oi : Oper} {v : Value} (hi : ops[i]? = some oi) (hsel : ∀ (j : Nat) (o : Oper) cs b, ops[j]? = some o → o.op ≠ .select cs b)
    (hQ : ∀ c a w, Q (.panic c) (a.put oi.dst v) w → Q (.panic c) a w) :
    ∀ (fuel : Nat) (listed : Array Bool) (a : Act) (w : World),
      (∀ j oj, ops[j]? = some oj → j ≠ i → listed.getD j true = false → reach md ops ops.size j i = false → oi.apart ops oj = true ∧ kb j = true) →
      Closed md ops listed → i ∈ Region.ready md ops listed → YieldsIf P ops S oi v a → S w →
      wpAnyK P md ops Q S kb fuel (listed.setIfInBounds i true) (a.put oi.dst v) w → wpAnyK P md ops Q S kb (fuel + 1) listed a w := by
  intro fuel
  induction fuel with
  | zero =>
    intro listed a w _ _ hr hy hS H
    refine ⟨fun h => (by rw [h] at hr; cases hr), fun j hj => ?_⟩
    by_cases hji : j = i
    · subst hji; exact hy.wpOp hi hS ⟨fun _ => hS, H⟩
    · have := ready_mono hj hji
      rw [H.1] at this
      cases this
  | succ fuel ih =>
    intro listed a w hfree hcl hr hy hS H
    refine ⟨fun h => (by rw [h] at hr; cases hr), fun j hj => ?_⟩
    by_cases hji : j = i
    · subst hji; exact hy.wpOp hi hS ⟨fun _ => hS, H⟩
    · have h1 := H.2 j (ready_mono hj hji)
      obtain ⟨hjun, oj, hoj, hall⟩ := mem_ready.1 hj
      have hnot : reach md ops ops.size j i = false := by
        cases hq : reach md ops ops.size j i with
        | false => rfl
        | true =>
          have h1 := reach_listed hcl _ j oj hoj hall hq
          have h0 := (mem_ready.1 hr).1
          rcases Nat.lt_or_ge i listed.size with h' | h'
          · simp [h'] at h0 h1; rw [h0] at h1; cases h1
          · simp [Array.getElem?_eq_none h'] at h1
      obtain ⟨hap, hkb⟩ := hfree j oj hoj hji hjun hnot
      have h2 := wpOp_putIf hoj hap (fun cs b => hsel i oi cs b hi) (fun cs b => hsel j oj cs b hoj) hQ hy h1
      have hfree' : ∀ k ok, ops[k]? = some ok → k ≠ i → (listed.setIfInBounds j true).getD k true = false →
          reach md ops ops.size k i = false → oi.apart ops ok = true ∧ kb k = true := fun k ok hk hki hun hno => by
        refine hfree k ok hk hki ?_ hno
        by_cases hjk : j = k
        · subst hjk; exact hjun
        · rw [getD_set_ne true hjk] at hun; exact hun
      refine wpOp_mono (fun a' w' h3 => ⟨h3.2.1, ih (listed.setIfInBounds j true) a' w' hfree' (hcl.step hj) (ready_mono hr (Ne.symm hji)) h3.1 (h3.2.1 hkb) ?_⟩) h2
      rw [Array.setIfInBounds_comm _ _ hji]
      exact h3.2.2

/-- does it wait for number i at once? -/
def direct (md : Region.Mode) (oj : Oper) (i : Nat) : Bool := oj.after.any fun e => e.on == i && Region.binds md e
theorem direct_reach {i j f : Nat} {oj : Oper} (hj : ops[j]? = some oj) (h : direct md oj i = true) : reach md ops (f + 1) j i = true := by
  obtain ⟨e, he, hb⟩ := Array.any_eq_true'.1 h
  simp only [reach, hj]
  refine Array.any_eq_true'.2 ⟨e, he, ?_⟩
  simp only [Bool.and_eq_true] at hb
  rw [hb.2, hb.1]
  rfl
/-- may number i be taken first? -/
def freeK (md : Region.Mode) (ops : Array Oper) (kb : Nat → Bool) (listed : Array Bool) (i : Nat) : Bool :=
  match ops[i]? with
  | none => false
  | some oi => (List.range ops.size).all fun j => j == i || listed.getD j true || match ops[j]? with
      | some oj => (oi.apart ops oj && kb j) || direct md oj i || reach md ops ops.size j i
      | none => true

theorem freeK_spec {i : Nat} {oi : Oper} {listed : Array Bool} (hi : ops[i]? = some oi) (h : freeK md ops kb listed i = true) (j : Nat) (oj : Oper)
    (hj : ops[j]? = some oj) (hne : j ≠ i) (hun : listed.getD j true = false) (hno : reach md ops ops.size j i = false) :
    oi.apart ops oj = true ∧ kb j = true := by
  simp only [freeK, hi, List.all_eq_true, List.mem_range] at h
  have h1 := h j (Array.getElem?_eq_some_iff.1 hj).1
  simp only [hj, Bool.or_eq_true, beq_iff_eq, hne, false_or, hun, Bool.false_eq_true] at h1
  rw [hno] at h1
  have hsz := (Array.getElem?_eq_some_iff.1 hj).1
  have hd : direct md oj i = false := by
    cases hd : direct md oj i with
    | false => rfl
    | true =>
      obtain ⟨f, hf⟩ : ∃ f, ops.size = f + 1 := ⟨ops.size - 1, by omega⟩
      rw [hf, direct_reach hj hd] at hno
      cases hno
  rw [hd] at h1
  simpa using h1

/-- The given order: (number, does it yield the same in every world of S?). -/
def sigB (md : Region.Mode) (ops : Array Oper) (kb : Nat → Bool) : List (Nat × Bool) → Array Bool → Bool → Bool
  | [], listed, _ => (Region.ready md ops listed).isEmpty
  | (i, true) :: r, listed, s => s && (Region.ready md ops listed).contains i && freeK md ops kb listed i && sigB md ops kb r (listed.setIfInBounds i true) s
  | (i, false) :: r, listed, s => (Region.ready md ops listed == [i]) && sigB md ops kb r (listed.setIfInBounds i true) (s && kb i)

/-- The walk in that order. -/
def wpSig (P : Program) (ops : Array Oper) (Q : Exit → Act → World → Prop) (S : World → Prop) (kb : Nat → Bool) : List (Nat × Bool) → Act → World → Prop
  | [], a, w => Q .normal a w
  | (i, true) :: r, a, w => ∃ o v, ops[i]? = some o ∧ YieldsIf P ops S o v a ∧ wpSig P ops Q S kb r (a.put o.dst v) w
  | (i, false) :: r, a, w => wpOp P ops Q i (fun a' w' => (kb i = true → S w') ∧ wpSig P ops Q S kb r a' w') a w

theorem wpSig_sound (hs : Region.noSelect ops = true) (hQ : ∀ c a d v w, Q (.panic c) (a.put d v) w → Q (.panic c) a w) :
    ∀ (l : List (Nat × Bool)) (listed : Array Bool) (s : Bool) (a : Act) (w : World), sigB md ops kb l listed s = true → Closed md ops listed → (s = true → S w) → wpSig P ops Q S kb l a w → wpAnyK P md ops Q S kb l.length listed a w
  | [], listed, s, a, w, h, _, _, hq => by
    have : Region.ready md ops listed = [] := by simpa [sigB] using h
    exact ⟨this, hq⟩
  | (i, true) :: r, listed, s, a, w, h, hcl, hS, ⟨o, v, ho, hy, hq⟩ => by
    simp only [sigB, Bool.and_eq_true] at h
    obtain ⟨⟨⟨h1, h2⟩, h3⟩, h4⟩ := h
    exact wpAnyK_first ho (Region.noSelect_spec hs) (fun c a w => hQ c a _ _ w) r.length listed a w (freeK_spec ho h3) hcl (by simpa using h2) hy (hS h1)
      (wpSig_sound hs hQ r _ s _ w h4 (hcl.step (by simpa using h2)) hS hq)
  | (i, false) :: r, listed, s, a, w, h, hcl, hS, hq => by
    simp only [sigB, Bool.and_eq_true, beq_iff_eq] at h
    refine ⟨fun h0 => (by rw [h.1] at h0; cases h0), fun j hj => ?_⟩
    rw [h.1] at hj
    obtain rfl : j = i := by simpa using hj
    exact wpOp_mono (fun a' w' h' => ⟨h'.1, wpSig_sound hs hQ r _ (s && kb j) a' w' h.2 (hcl.step (by rw [h.1]; simp)) (fun hsk => h'.1 (Bool.and_eq_true_iff.1 hsk).2) h'.2⟩) hq

/-- The beginning. -/
theorem wp_region_sig {id : Nat} {a : Act} {w : World} (S : World → Prop) (kb : Nat → Bool) (l : List (Nat × Bool)) {o : List Oper} (hm : P.follows .mixedOrders = true)
    (hB : (Region.noSelect o.toArray && sigB .any o.toArray kb l (Array.replicate o.toArray.size false) true && (l.length == o.toArray.size)) = true)
    (hQ : ∀ c a d v w, Q (.panic c) (a.put d v) w → Q (.panic c) a w) (hS : S w.drew)
    (h : wpSig P o.toArray Q S kb l a w.drew) : (Code.region id o.toArray true).wp P Q a w := by
  simp only [Bool.and_eq_true, beq_iff_eq] at hB
  refine wp_region_any hm (wpAny_of_K (S := S) (kb := kb) _ _ _ _ ?_)
  have h2 := wpSig_sound (md := .any) hB.1.1 hQ l _ true a _ hB.1.2 (fun k ok _ hl => by rw [Array.getD_eq_getD_getElem?, Array.getElem?_replicate] at hl; split at hl <;> cases hl) (fun _ => hS) h
  rw [hB.2] at h2
  exact h2

theorem sig_nil {a : Act} {w : World} (h : Q .normal a w) : wpSig P ops Q S kb [] a w := h
theorem sig_still {i : Nat} {r : List (Nat × Bool)} {a : Act} {w : World} {o : Oper} {v : Value} (ho : ops[i]? = some o) (hg : o.guard = none)
    (hy : ∀ w', S w' → (execOp a.eval o).run P w' = .ok (.value v) w') (h : wpSig P ops Q S kb r (a.put o.dst v) w) : wpSig P ops Q S kb ((i, true) :: r) a w :=
  ⟨o, v, ho, .inl ⟨by simp [Region.wanted, hg], hy⟩, h⟩
theorem sig_guard {i : Nat} {r : List (Nat × Bool)} {a : Act} {w : World} {o : Oper} {v : Value} (ho : ops[i]? = some o) (hg : Region.wanted o (yielded ops a.tmps) = true)
    (hy : ∀ w', S w' → (execOp a.eval o).run P w' = .ok (.value v) w') (h : wpSig P ops Q S kb r (a.put o.dst v) w) : wpSig P ops Q S kb ((i, true) :: r) a w :=
  ⟨o, v, ho, .inl ⟨hg, hy⟩, h⟩
theorem sig_skip {i : Nat} {r : List (Nat × Bool)} {a : Act} {w : World} {o : Oper} (ho : ops[i]? = some o) (hg : Region.wanted o (yielded ops a.tmps) = false)
    (h : wpSig P ops Q S kb r (a.put o.dst undef) w) : wpSig P ops Q S kb ((i, true) :: r) a w :=
  ⟨o, undef, ho, .inr ⟨hg, rfl⟩, h⟩
theorem sig_eff {i : Nat} {r : List (Nat × Bool)} {a : Act} {w : World} {o : Oper} (ho : ops[i]? = some o) (hg : o.guard = none)
    (h : ∀ K : Act → World → Prop, (∀ a' w', ((kb i = true → S w') ∧ wpSig P ops Q S kb r a' w') → K a' w') → o.wp P a w K Q) : wpSig P ops Q S kb ((i, false) :: r) a w := by
  show wpOp _ _ _ _ _ _ _
  unfold wpOp
  simp only [ho, Region.wanted, hg, if_true]
  exact .inl (h _ fun _ _ h => h)

theorem sig_effg {i : Nat} {r : List (Nat × Bool)} {a : Act} {w : World} {o : Oper} (ho : ops[i]? = some o) (hg : Region.wanted o (yielded ops a.tmps) = true)
    (h : ∀ K : Act → World → Prop, (∀ a' w', ((kb i = true → S w') ∧ wpSig P ops Q S kb r a' w') → K a' w') → o.wp P a w K Q) : wpSig P ops Q S kb ((i, false) :: r) a w := by
  show wpOp _ _ _ _ _ _ _
  unfold wpOp
  simp only [ho, hg, if_true]
  exact .inl (h _ fun _ _ h => h)
theorem wo_append {o : Oper} {a : Act} {w : World} {K : Act → World → Prop} (x y : Operand) (t1 t2 : TypeId) (ho : o.op = .call { callee := .builtin .append, args := #[x, y], argTypes := #[t1, t2] })
    (v1 v2 : Value) (h1 : a.eval x = v1) (h2 : a.eval y = v2) (h : AppendGoal P t1 t2 o.type v1 v2 w fun v w' => K (a.put o.dst v) w') : o.wp P a w K Q := by
  obtain ⟨v, w', hr, hk⟩ := h
  unfold Oper.wp execOp
  simp only [ho, resolve, invoke, builtin, Sem.run_bind, Sem.run_pure, Result.andThen_ok, List.map_toArray, List.map_cons, List.map_nil, h1, h2, hr]
  exact hk
end
end Go.Dm
namespace Go.Dm
open Go Go.RowKit

/-- x & b, for numbers b of few bits -/
def mask (x : Int) (b : Nat) : Nat := (BitVec.ofInt 64 x).toNat &&& b
theorem mask_le (x : Int) (b : Nat) : mask x b ≤ b := Nat.and_le_right
theorem mask_eq (x : Int) (b : Nat) (hb : b < 4294967296) : bits .and .i64 x (b : Int) = (mask x b : Int) := by
  have h2 : (BitVec.ofInt 64 (b : Int)).toNat = b := by
    rw [BitVec.ofInt_natCast, BitVec.toNat_ofNat]; exact Nat.mod_eq_of_lt (by omega)
  have hx := mask_le x b
  unfold mask at hx
  show IntKind.i64.wrap ((BitVec.ofInt 64 x &&& BitVec.ofInt 64 (b : Int)).toNat : Int) = _
  rw [BitVec.toNat_and, h2, IntKind.wrap_i64]
  unfold mask
  omega
end Go.Dm
namespace Go.Proofs.YthfekjnekaecaaaDoor
open Go.RowKit Go.Dm Go.Dm.Vm Go.Maps

section
variable {A : Nat → Prop} {w : World} {d mb x y : Nat} {f : Nat → Nat} {m : V}
def held1E (m : V) (a : Nat) : Nat := if (pageAt m a).isSome then 0 else 40
set_option maxRecDepth 100000 in
set_option maxHeartbeats 1000000 in
theorem vheld1_any (a : Nat) (ha : a < 18446744073709551616) (h : SRep A w d m mb f) (hx : Blk w x #[ptrTo d] 38) :
    Calls Tryd.prog 86 #[.int .u64 (a : Int), ptrTo x] w fun e w' => e = .returned (.int .i64 (held1E m a : Nat)) ∧ w = w' := by
  have q0 : w.cell? ⟨x, 0, none⟩ = some (ptrTo d) := hx.cell 0
  have q1 : w.cell? ⟨d, 0, none⟩ = some (.map (some mb)) := h.blk.cell 0
  unfold ptrTo at q0 ⊢
  clear hx
  go_enter Tryd.func86, Tryd.ntmps86
  go_wp2_with (at_lookup; refine wl_lookup rfl _ _ _ _ rfl _ _ rfl rfl ?_)
  refine rg_lookup h.mp kU64 Tryd.underlying118 (zPage w) (kOf ha) ?_
  rw [findL_VL]
  cases hg : pageAt m a with
  | none =>
    have HE : Hid (held1E m a = 40) := Lib.hid (by unfold held1E; rw [hg]; rfl)
    simp only [Option.map_none, Option.getD_none]
    go_wp2_with fail
    go_ret
    rw [HE.out]
    exact ⟨rfl, rfl⟩
  | some p =>
    have HE : Hid (held1E m a = 0) := Lib.hid (by unfold held1E; rw [hg]; rfl)
    simp only [Option.map_some, Option.getD_some]
    unfold ptrTo
    go_wp2_with fail
    go_ret
    rw [HE.out]
    exact ⟨rfl, rfl⟩
theorem Enters.of2 {f : Nat} (h : ∀ a b : Value, Enters f #[a, b]) (b : Value) : ∀ a, Enters f (#[a] ++ #[b]) := fun a => h a b
theorem there_take (m : V) (addr size : Nat) : there m addr size = true ↔ ∀ k, k < pagesN addr size → (pageAt m (pageOf addr + 256 * k)).isSome = true := by
  unfold there pagesOf
  rw [List.all_eq_true]
  constructor
  · intro h k hk
    exact h _ (List.mem_map.2 ⟨k, List.mem_range.2 hk, rfl⟩)
  · intro h a ha
    obtain ⟨k, hk, rfl⟩ := List.mem_map.1 ha
    exact h k (List.mem_range.1 hk)
set_option maxRecDepth 100000 in
set_option maxHeartbeats 1000000 in
theorem vheld_any (addr size : Nat) (hs : 0 < size) (ha : addr < 18446744073709551616) (hz : size < 18446744073709551616) (h : SRep A w d m mb f) (hA : ∀ k, A k → k < w.heap.size) :
    Calls Tryd.prog 70 #[ptrTo d, .int .u64 (addr : Int), .int .u64 (size : Int)] w fun e w' => e = .returned (.int .i64 (heldE m addr size : Nat)) ∧ Keep No w w' := by
  have hdef : heldE m addr size = if addr > top ∨ size > top - addr ∨ size > 131328 then 40 else if there m addr size then 0 else 40 := rfl
  have HD := Lib.hid hdef
  have ht : top = 4294967296 := rfl
  clear hdef
  unfold ptrTo
  go_enter Tryd.func70, Tryd.ntmps70
  by_cases hbad : addr > top ∨ size > top - addr ∨ size > 131328
  · have he : heldE m addr size = 40 := by rw [HD.out, if_pos hbad]
    have HE := Lib.hid he
    clear he HD
    have h3 : (addr : Int) > 4294967296 ∨ ((addr : Int) ≤ 4294967296 ∧ (size : Int) > 4294967296 - (addr : Int)) ∨ ((addr : Int) ≤ 4294967296 ∧ (size : Int) ≤ 4294967296 - (addr : Int) ∧ (size : Int) > 131328) := by omega
    rcases h3 with h3 | ⟨h3, h4⟩ | ⟨h3, h4, h5⟩
    all_goals
      go_wp2_with fail
      go_ret
      rw [HE.out]
      exact ⟨rfl, (Keep.refl _ _).alloc _⟩
  · have h3 : (addr : Int) ≤ 4294967296 := by omega
    have h4 : (size : Int) ≤ 4294967296 - (addr : Int) := by omega
    have h5 : (size : Int) ≤ 131328 := by omega
    have he : heldE m addr size = if there m addr size then 0 else 40 := by rw [HD.out, if_neg hbad]
    have HE := Lib.hid he
    clear he HD
    go_wp2_with fail
    have hkW : Keep No w (w.alloc (.cells #[.pointer (some ⟨d, 0, none⟩)] 38)) := (Keep.refl _ _).alloc _
    have hBW : Blk (w.alloc (.cells #[.pointer (some ⟨d, 0, none⟩)] 38)) w.heap.size #[.pointer (some ⟨d, 0, none⟩)] 38 := Blk.new _ _ _
    have hzW : (w.alloc (.cells #[.pointer (some ⟨d, 0, none⟩)] 38)).heap.size = w.heap.size + 1 := World.size_alloc _ _
    generalize w.alloc (.cells #[.pointer (some ⟨d, 0, none⟩)] 38) = W at *
    refine (veach_any addr size (fun k w' => Keep No W w' ∧ ∀ j, j < k → (pageAt m (pageOf addr + 256 * j)).isSome = true) (fun er w' => er = 40 ∧ Keep No W w' ∧ there m addr size = false) hs (by omega) (by omega) (Enters.of2 (fun a b w => by kernel_rfl) _) ⟨Keep.refl _ _, fun j hj => absurd hj (Nat.not_lt_zero _)⟩ ?_).mono ?_
    · rintro k w' hk ⟨hK, hall⟩
      have hpl := pageOf_le addr
      have hiff := (pages_step addr size k hs).2 hk
      refine (vheld1_any (x := w.heap.size) (pageOf addr + 256 * k) (by omega) (h.same fun j hj => ?_) (hBW.keep hK fun h => h)).mono ?_
      · exact ((hkW.trans' hK).block j (hA j hj) fun h => h)
      · rintro e w2 ⟨rfl, rfl⟩
        cases hg : (pageAt m (pageOf addr + 256 * k)).isSome with
        | true =>
          refine .inl ⟨by simp [held1E, hg], hK, fun j hj => ?_⟩
          rcases Nat.lt_or_ge j k with h | h
          · exact hall j h
          · obtain rfl : j = k := by omega
            exact hg
        | false =>
          refine .inr ⟨40, by decide, by simp [held1E, hg], rfl, hK, ?_⟩
          cases ht : there m addr size with
          | false => rfl
          | true => rw [(there_take m addr size).1 ht k hk] at hg; cases hg
    · rintro e w' (⟨rfl, hK, hall⟩ | ⟨er, hne, rfl, rfl, hK, hth⟩)
      · have hth : there m addr size = true := (there_take m addr size).2 hall
        go_wp2_with fail
        go_ret
        rw [HE.out, if_pos hth]
        exact ⟨rfl, hkW.trans' hK⟩
      · go_wp2_with fail
        go_ret
        rw [HE.out, if_neg (by rw [hth]; decide)]
        exact ⟨rfl, hkW.trans' hK⟩
theorem and_nat (a b : Nat) (ha : a < 4294967296) (hb : b < 4294967296) : bits .and .i64 (a : Int) (b : Int) = ((a &&& b : Nat) : Int) := by
  rw [mask_eq (a : Int) b hb]
  unfold mask
  rw [BitVec.ofInt_natCast, BitVec.toNat_ofNat, Nat.mod_eq_of_lt (by omega)]
def allow1E (m : V) (what a : Nat) : Nat := match pageAt m a with | some p => if p.prot &&& what = 0 then 41 else 0 | none => 41
def allowedE (m : V) (addr size what : Nat) : Nat := if (pagesOf addr size).all (fun a => allow1E m what a == 0) then 0 else 41
theorem Enters.of3 {f : Nat} (h : ∀ a b c : Value, Enters f #[a, b, c]) (b c : Value) : ∀ a, Enters f (#[a] ++ #[b, c]) := fun a => h a b c
end
end Go.Proofs.YthfekjnekaecaaaDoor
namespace Go.Dm
open Go Go.RowKit Go.ChangeShapes Go.WideShapes

inductive Sh where
  | int (k : IntKind) | u8 | bool | str | unit
  | pair (a b : Sh)
  | slice (e : Sh)
  | arr (n : Nat) (e : Sh)

@[reducible] def Sh.Ty : Sh → Type
  | .int _ => Int | .u8 => UInt8 | .bool => Bool | .str => List UInt8 | .unit => Unit
  | .pair a b => a.Ty × b.Ty | .slice e => List e.Ty | .arr _ e => List e.Ty
def Sh.n : Sh → Nat
  | .unit => 0 | .pair a b => a.n + b.n | .arr n e => n * e.n | .int _ => 1 | .u8 => 1 | .bool => 1 | .str => 1 | .slice _ => 1

/-- the cells cs read as x; memory beyond them lies in A -/
def Rd (A : Nat → Prop) (w : World) : (s : Sh) → List Value → s.Ty → Prop
  | .int k, cs, x => cs = [.int k x] ∧ (Lit.int k x).wf = true
  | .u8, cs, x => cs = [bv x]
  | .bool, cs, x => cs = [.bool x]
  | .str, cs, x => cs = [.string ⟨x.toArray⟩] ∧ x.length ≤ maxLen
  | .unit, cs, _ => cs = []
  | .pair a b, cs, x => ∃ c1 c2, cs = c1 ++ c2 ∧ Rd A w a c1 x.1 ∧ Rd A w b c2 x.2
  | .slice e, cs, x => ∃ (v : Value) (css : List (List Value)), cs = [v] ∧ Sl A w e.n v x.length css.flatten ∧ css.length = x.length ∧ ∀ (i : Nat) (c : List Value) (y : e.Ty), css[i]? = some c → x[i]? = some y → Rd A w e c y
  | .arr n e, cs, x => ∃ css : List (List Value), cs = css.flatten ∧ css.length = n ∧ x.length = n ∧ ∀ (i : Nat) (c : List Value) (y : e.Ty), css[i]? = some c → x[i]? = some y → Rd A w e c y

theorem flatten_len {n : Nat} : ∀ {css : List (List Value)}, (∀ c ∈ css, c.length = n) → css.flatten.length = css.length * n
  | [], _ => by simp
  | c :: r, h => by
    rw [List.flatten_cons, List.length_append, flatten_len (fun c hc => h c (by simp [hc])), h c (by simp), List.length_cons, Nat.succ_mul]; omega
theorem flatten_get {n : Nat} : ∀ {css : List (List Value)} (_ : ∀ c ∈ css, c.length = n) (i r : Nat) (_ : r < n), css.flatten[i * n + r]? = (css[i]?).bind (·[r]?)
  | [], _, i, r, _ => by simp
  | c :: t, h, 0, r, hr => by
    have := h c (by simp)
    rw [List.flatten_cons, Nat.zero_mul, Nat.zero_add, List.getElem?_append_left (by omega)]; simp
  | c :: t, h, i + 1, r, hr => by
    have := h c (by simp)
    rw [List.flatten_cons, List.getElem?_append_right (by rw [Nat.succ_mul]; omega), this, Nat.succ_mul, show i * n + n + r - n = i * n + r by omega, flatten_get (fun c hc => h c (by simp [hc])) i r hr]; simp
theorem flatten_get_some {n : Nat} {css : List (List Value)} (h : ∀ c ∈ css, c.length = n) (hn : 0 < n) {j : Nat} {u : Value} (hj : css.flatten[j]? = some u) : ∃ i r c, j = i * n + r ∧ r < n ∧ css[i]? = some c ∧ c[r]? = some u := by
  have e : j = j / n * n + j % n := by rw [Nat.mul_comm]; exact (Nat.div_add_mod j n).symm
  rw [e, flatten_get h _ _ (Nat.mod_lt _ hn)] at hj
  cases hc : css[j / n]? with
  | none => rw [hc] at hj; cases hj
  | some c => rw [hc] at hj; exact ⟨j / n, j % n, c, e, Nat.mod_lt _ hn, hc, hj⟩

section
variable {A : Nat → Prop} {w : World}
theorem Rd.len : ∀ {s : Sh} {cs : List Value} {x : s.Ty}, Rd A w s cs x → cs.length = s.n
  | .int k, _, _, h => by rw [h.1]; rfl
  | .u8, _, _, h => by have h : _ = _ := h; rw [h]; rfl
  | .bool, _, _, h => by have h : _ = _ := h; rw [h]; rfl
  | .str, _, _, h => by rw [h.1]; rfl
  | .unit, _, _, h => by have h : _ = _ := h; rw [h]; rfl
  | .pair a b, _, _, ⟨c1, c2, e, h1, h2⟩ => by rw [e, List.length_append, h1.len, h2.len]; rfl
  | .slice e, _, _, ⟨v, css, e1, _⟩ => by rw [e1]; rfl
  | .arr n e, _, x, ⟨css, e1, h1, h2, h3⟩ => by
    rw [e1, flatten_len (n := e.n) fun c hc => ?_, h1]; rfl
    obtain ⟨i, hi⟩ := List.mem_iff_getElem?.1 hc
    have hl : i < css.length := (List.getElem?_eq_some_iff.1 hi).1
    exact (h3 i c x[i] hi (List.getElem?_eq_getElem (by omega))).len
theorem Rd.elems {e : Sh} {css : List (List Value)} {x : List e.Ty} (h1 : css.length = x.length) (h2 : ∀ (i : Nat) (c : List Value) (y : e.Ty), css[i]? = some c → x[i]? = some y → Rd A w e c y) : ∀ c ∈ css, c.length = e.n := by
  intro c hc
  obtain ⟨i, hi⟩ := List.mem_iff_getElem?.1 hc
  have hl : i < css.length := (List.getElem?_eq_some_iff.1 hi).1
  exact (h2 i c x[i] hi (List.getElem?_eq_getElem (by omega))).len
theorem Rd.same {w' : World} (hs : w.heap.size ≤ w'.heap.size) (e : ∀ k, k < w.heap.size → A k → w'.heap[k]? = w.heap[k]?) : ∀ {s : Sh} {cs : List Value} {x : s.Ty}, Rd A w s cs x → Rd A w' s cs x
  | .int k, _, _, h => h
  | .u8, _, _, h => h
  | .bool, _, _, h => h
  | .str, _, _, h => h
  | .unit, _, _, h => h
  | .pair a b, _, _, ⟨c1, c2, e1, h1, h2⟩ => ⟨c1, c2, e1, Rd.same hs e h1, Rd.same hs e h2⟩
  | .slice s, _, _, ⟨v, css, e1, h1, h2, h3⟩ => ⟨v, css, e1, h1.same hs e, h2, fun i c y hc hy => Rd.same hs e (h3 i c y hc hy)⟩
  | .arr n s, _, _, ⟨css, e1, h1, h2, h3⟩ => ⟨css, e1, h1, h2, fun i c y hc hy => Rd.same hs e (h3 i c y hc hy)⟩
theorem Rd.mono {B : Nat → Prop} (e : ∀ k, k < w.heap.size → A k → B k) : ∀ {s : Sh} {cs : List Value} {x : s.Ty}, Rd A w s cs x → Rd B w s cs x
  | .int k, _, _, h => h
  | .u8, _, _, h => h
  | .bool, _, _, h => h
  | .str, _, _, h => h
  | .unit, _, _, h => h
  | .pair a b, _, _, ⟨c1, c2, e1, h1, h2⟩ => ⟨c1, c2, e1, Rd.mono e h1, Rd.mono e h2⟩
  | .slice s, _, _, ⟨v, css, e1, h1, h2, h3⟩ => ⟨v, css, e1, h1.mono e, h2, fun i c y hc hy => Rd.mono e (h3 i c y hc hy)⟩
  | .arr n s, _, _, ⟨css, e1, h1, h2, h3⟩ => ⟨css, e1, h1, h2, fun i c y hc hy => Rd.mono e (h3 i c y hc hy)⟩
theorem Rd.keep {S : Nat → Prop} {w' : World} {s : Sh} {cs : List Value} {x : s.Ty} (h : Rd A w s cs x) (k : Keep S w w') (hS : ∀ j, j < w.heap.size → A j → ¬ S j) : Rd A w' s cs x :=
  Rd.same k.size (fun j hj ha => k.block j hj (hS j hj ha)) h
/-- what is read stays, where only new memory is made -/
theorem Rd.no {w' : World} {s : Sh} {cs : List Value} {x : s.Ty} (h : Rd A w s cs x) (k : Keep No w w') : Rd A w' s cs x := h.keep k fun _ _ _ h => h

/-- a slice of bytes -/
theorem Rd.bts {v : Value} {l : List UInt8} (h : Rd A w (.slice .u8) [v] l) : Bts A w v l := by
  obtain ⟨v', css, e, h1, h2, h3⟩ := h
  cases e
  have e : css.flatten = l.map bv := by
    have hc : css = l.map fun b => [bv b] := by
      apply List.ext_getElem (by simpa using h2)
      intro i hi hj
      rw [List.getElem_map]
      have h2 : css.length = List.length l := h2
      exact h3 i css[i] (l[i]'(by omega)) (List.getElem?_eq_getElem hi) (List.getElem?_eq_getElem (by omega))
    rw [hc]
    clear hc h1 h2 h3
    induction l with
    | nil => rfl
    | cons b r ih => simp only [List.map_cons, List.flatten_cons, ih]; rfl
  rw [e] at h1
  exact h1
theorem Rd.of_bts {v : Value} {l : List UInt8} (h : Bts A w v l) : Rd A w (.slice .u8) [v] l := by
  have e : ∀ l : List UInt8, (l.map fun b => [bv b]).flatten = l.map bv := by
    intro l; induction l with
    | nil => rfl
    | cons b r ih => simp only [List.map_cons, List.flatten_cons, ih]; rfl
  refine ⟨v, l.map fun b => [bv b], rfl, by rw [e]; exact h, by simp, fun i c y hc hy => ?_⟩
  rw [List.getElem?_map, hy] at hc
  cases hc
  rfl
/-- a slice whose elements are flat: each is its cells -/
theorem Rd.flat {e : Sh} (enc : e.Ty → List Value) {v : Value} {l : List e.Ty} (h : Rd A w (.slice e) [v] l) (hd : ∀ c y, Rd A w e c y → c = enc y) : Sl A w e.n v l.length (l.flatMap enc) := by
  obtain ⟨v', css, e1, h1, h2, h3⟩ := h
  cases e1
  have hc : css = l.map enc := by
    apply List.ext_getElem (by simpa using h2)
    intro i hi hj
    rw [List.getElem_map]
    have h2 : css.length = List.length l := h2
    exact hd _ _ (h3 i css[i] (l[i]'(by omega)) (List.getElem?_eq_getElem hi) (List.getElem?_eq_getElem (by omega)))
  rw [List.flatMap_def, ← hc]
  exact h1
theorem Rd.of_flat {e : Sh} (enc : e.Ty → List Value) {v : Value} {l : List e.Ty} (h : Sl A w e.n v l.length (l.flatMap enc)) (hd : ∀ y ∈ l, Rd A w e (enc y) y) : Rd A w (.slice e) [v] l := by
  refine ⟨v, l.map enc, rfl, by rw [← List.flatMap_def]; exact h, by simp, fun i c y hc hy => ?_⟩
  rw [List.getElem?_map, hy] at hc
  cases hc
  exact hd y (List.mem_of_getElem? hy)
theorem Rd.bools {v : Value} {l : List Bool} (h : Rd A w (.slice .bool) [v] l) : Sl A w 1 v l.length (l.map .bool) := by
  have := h.flat (e := .bool) (fun b : Bool => [.bool b]) fun c y h => h
  rwa [← List.map_eq_flatMap] at this
theorem Rd.strs {v : Value} {l : List (List UInt8)} (h : Rd A w (.slice .str) [v] l) : Sl A w 1 v l.length (l.map fun s => .string ⟨s.toArray⟩) := by
  have := h.flat (e := .str) (fun s : List UInt8 => [.string ⟨s.toArray⟩]) fun c y h => h.1
  rwa [← List.map_eq_flatMap] at this
/-- one element of a slice -/
theorem Rd.at {e : Sh} {v : Value} {l : List e.Ty} (h : Rd A w (.slice e) [v] l) {n : Nat} (hn : e.n = n) {i : Nat} (hi : i < l.length) :
    ∃ g off cap, v = .slice (some ⟨g, off, none⟩) l.length cap ∧ A g ∧ g < w.heap.size ∧ l.length ≤ cap ∧ cap ≤ maxLen ∧ ∃ c, Rd A w e c l[i] ∧ ∀ r u, c[r]? = some u → w.cell? ⟨g, off + i * n + r, none⟩ = some u := by
  obtain ⟨v', css, e1, h1, h2, h3⟩ := h
  cases e1
  obtain ⟨g, off, cap, rfl, ha, hb, hc, hd, hr⟩ := h1.at (by omega)
  have hic : i < css.length := by omega
  refine ⟨g, off, cap, rfl, ha, hb, hc, hd, css[i], h3 i _ _ (List.getElem?_eq_getElem hic) (List.getElem?_eq_getElem hi), fun r u hu => ?_⟩
  rw [Nat.add_assoc, ← hn]
  refine hr _ _ ?_
  have hel := Rd.elems h2 h3
  have hrn : r < e.n := by rw [← hel css[i] (List.getElem_mem hic)]; exact (List.getElem?_eq_some_iff.1 hu).1
  rw [flatten_get hel i r hrn, List.getElem?_eq_getElem hic]
  exact hu
theorem Rd.shape {e : Sh} {v : Value} {l : List e.Ty} (h : Rd A w (.slice e) [v] l) : ∃ a cap, v = .slice a l.length cap ∧ l.length ≤ cap ∧ cap ≤ maxLen := by
  obtain ⟨v', css, e1, h1, _⟩ := h
  cases e1
  exact h1.shape
end

/-! a part of a slice -/
theorem Sl.sub {P : Program} {A : Nat → Prop} {w : World} {size n lo hi : Nat} {v : Value} {cs : List Value} (t : TypeId) (ht : P.underlying t = some (.slice (P.elem t))) (hsz : ∀ W, (sizeOf (P.elem t)).run P W = .ok size W)
    (h : Sl A w size v n cs) (h1 : lo ≤ hi) (h2 : hi ≤ n) :
    ∃ a' cap', (∀ W, (Instr.slice t v (some (.int .i64 (lo : Int))) (some (.int .i64 (hi : Int))) none).run P W = .ok (.slice a' (hi - lo) cap') W) ∧ Sl A w size (.slice a' (hi - lo) cap') (hi - lo) ((cs.drop (lo * size)).take ((hi - lo) * size)) := by
  obtain ⟨hl, a, cap, rfl, hn, hm, h0, hr⟩ := h
  refine ⟨if cap = lo then a else a.map (·.add (lo * size)), cap - lo, fun W => ?_, ?_, ?_⟩
  · rw [run_slice_lh (P := P) W t a n cap ht .i64 .i64 lo hi (by omega) (by omega) (by omega), hsz W]
    simp [Result.andThen, sliced]
  · rw [List.length_take, List.length_drop, hl]
    have : hi * size ≤ n * size := Nat.mul_le_mul_right _ h2
    rw [Nat.sub_mul]
    omega
  · refine ⟨_, _, rfl, by omega, by omega, ?_, fun hpos => ?_⟩
    · intro e
      cases a with
      | none => have := h0 rfl; omega
      | some a => split at e <;> cases e
    · obtain ⟨g, off, rfl, hA, hg, hc⟩ := hr (by omega)
      refine ⟨g, off + lo * size, ?_, hA, hg, fun j u hu => ?_⟩
      · rw [if_neg (by omega), Option.map_some, Addr.add_lit]
      · rw [Nat.add_assoc]
        refine hc _ _ ?_
        rw [List.getElem?_take] at hu
        split at hu
        · rw [List.getElem?_drop] at hu; exact hu
        · cases hu
theorem Bts.sub {P : Program} {A : Nat → Prop} {w : World} {lo hi : Nat} {v : Value} {l : List UInt8} (t : TypeId) (ht : P.underlying t = some (.slice (P.elem t))) (hsz : ∀ W, (sizeOf (P.elem t)).run P W = .ok 1 W)
    (h : Bts A w v l) (h1 : lo ≤ hi) (h2 : hi ≤ l.length) :
    ∃ a' cap', (∀ W, (Instr.slice t v (some (.int .i64 (lo : Int))) (some (.int .i64 (hi : Int))) none).run P W = .ok (.slice a' (hi - lo) cap') W) ∧ Bts A w (.slice a' (hi - lo) cap') ((l.drop lo).take (hi - lo)) := by
  obtain ⟨a', cap', hr, hs⟩ := Sl.sub t ht hsz h h1 h2
  refine ⟨a', cap', hr, ?_⟩
  have e : ((l.drop lo).take (hi - lo)).length = hi - lo := by rw [List.length_take, List.length_drop]; omega
  unfold Bts
  rw [e, List.map_take, List.map_drop]
  simpa using hs

/-! an argument that fits a shape -/
def fitX (P : Program) : Sh → TypeId ⊕ (List Field × Nat) → Bool
  | .int k, .inl t => match P.underlying t with | some (.int k') => decide (k' = k) && P.cellsOf t == 1 | _ => false
  | .u8, .inl t => match P.underlying t with | some (.int .u8) => P.cellsOf t == 1 | _ => false
  | .bool, .inl t => match P.underlying t with | some .bool => P.cellsOf t == 1 | _ => false
  | .str, .inl t => match P.underlying t with | some .string => P.cellsOf t == 1 | _ => false
  | .slice e, .inl t => match P.underlying t with | some (.slice te) => P.cellsOf t == 1 && P.cellsOf te == e.n && fitX P e (.inl te) && decide (0 < e.n) | _ => false
  | .arr n e, .inl t => match P.underlying t with | some (.array n' te) => decide (n' = n) && P.cellsOf t == n * e.n && P.cellsOf te == e.n && fitX P e (.inl te) | _ => false
  | .pair a b, .inl t => match P.underlying t with
    | some (.struct ⟨f :: r⟩) => P.cellsOf t == a.n + b.n && f.offset == 0 && P.cellsOf f.type == a.n && fitX P a (.inl f.type) && fitX P b (.inr (r, a.n))
    | _ => false
  | .pair a b, .inr (f :: r, off) => f.offset == off && P.cellsOf f.type == a.n && fitX P a (.inl f.type) && fitX P b (.inr (r, off + a.n))
  | .unit, .inr ([], _) => true
  | _, _ => false

section
variable {H : Type} {enc : TypeId × Value → H} {P : Program} {w : World} {base : Nat} {spare : Nat → Bool} {held : Bool}
theorem chunks (cs : List Value) (k : Nat) : ∀ n, n * k ≤ cs.length → ((List.range n).map fun i => (cs.drop (i * k)).take k).flatten = cs.take (n * k)
  | 0, _ => by simp
  | n + 1, h => by
    rw [Nat.succ_mul] at h ⊢
    rw [List.range_succ, List.map_append, List.flatten_append, chunks cs k n (by omega), List.take_add]; simp
theorem choose_list {α : Type} {n : Nat} {p : Nat → α → Prop} (h : ∀ i, i < n → ∃ x, p i x) : ∃ l : List α, l.length = n ∧ ∀ (i : Nat) x, l[i]? = some x → p i x := by
  induction n with
  | zero => exact ⟨[], rfl, fun i x h => by simp at h⟩
  | succ n ih =>
    obtain ⟨l, hl, hp⟩ := ih fun i hi => h i (by omega)
    obtain ⟨x, hx⟩ := h n (by omega)
    refine ⟨l ++ [x], by simp [hl], fun i y hy => ?_⟩
    rcases Nat.lt_or_ge i n with hi | hi
    · rw [List.getElem?_append_left (by omega)] at hy; exact hp i y hy
    · rw [List.getElem?_append_right (by omega)] at hy
      have : i = n := by
        have := (List.getElem?_eq_some_iff.1 hy).1
        simp at this; omega
      subst this
      simp [hl] at hy; subst hy; exact hx
theorem wf_u8 {n : Int} (h : (Lit.int .u8 n).wf = true) : Value.int .u8 n = bv (UInt8.ofNat n.toNat) := by
  have := bounds_u8 h
  unfold bv
  congr 1
  simp only [UInt8.toNat_ofNat']
  omega

theorem open_x : ∀ (s : Sh),
    (∀ (t : TypeId) (fuel : Nat) (cs : List Value) x, fitX P s (.inl t) = true → DataW.trod enc P w base spare held fuel t cs = some x → ∃ y, Rd (fun k => k < w.heap.size) w s cs y) ∧
    (∀ (fs : List Field) (off n : Nat) (cs : List Value), fitX P s (.inr (fs, off)) = true → cs.length = off + s.n → (∀ f ∈ fs, ∃ x, DataW.trod enc P w base spare held n f.type ((cs.drop f.offset).take (P.cellsOf f.type)) = some x) → ∃ y, Rd (fun k => k < w.heap.size) w s (cs.drop off) y)
  | .int k => ⟨fun t fuel cs x hf h => by
      unfold fitX at hf
      split at hf
      · rename_i k' hu
        simp only [Bool.and_eq_true, decide_eq_true_eq] at hf
        obtain ⟨rfl, _⟩ := hf
        obtain ⟨n, rfl, _, hw⟩ := DataW.trod_int hu h
        exact ⟨n, rfl, hw⟩
      · exact absurd hf Bool.false_ne_true, fun fs off n cs hf => by simp [fitX] at hf⟩
  | .u8 => ⟨fun t fuel cs x hf h => by
      unfold fitX at hf
      split at hf
      · rename_i hu
        obtain ⟨n, rfl, _, hw⟩ := DataW.trod_int hu h
        exact ⟨UInt8.ofNat n.toNat, by show [_] = [_]; rw [wf_u8 hw]⟩
      · exact absurd hf Bool.false_ne_true, fun fs off n cs hf => by simp [fitX] at hf⟩
  | .bool => ⟨fun t fuel cs x hf h => by
      unfold fitX at hf
      split at hf
      · rename_i hu
        obtain ⟨b, rfl, _⟩ := DataW.trod_bool hu h
        exact ⟨b, rfl⟩
      · exact absurd hf Bool.false_ne_true, fun fs off n cs hf => by simp [fitX] at hf⟩
  | .str => ⟨fun t fuel cs x hf h => by
      unfold fitX at hf
      split at hf
      · rename_i hu
        obtain ⟨s, rfl, _, hm⟩ := DataW.trod_string hu h
        exact ⟨s.data.toList, by simp, by simpa using hm⟩
      · exact absurd hf Bool.false_ne_true, fun fs off n cs hf => by simp [fitX] at hf⟩
  | .unit => ⟨fun t fuel cs x hf h => by simp [fitX] at hf, fun fs off n cs hf hl _ => ⟨(), by
      show cs.drop off = []
      rw [List.drop_eq_nil_iff]; simp only [Sh.n] at hl; omega⟩⟩
  | .pair a b => ⟨fun t fuel cs x hf h => by
      unfold fitX at hf
      split at hf
      · rename_i f r hu
        simp only [Bool.and_eq_true, beq_iff_eq] at hf
        obtain ⟨⟨⟨⟨h0, h1⟩, h2⟩, h3⟩, h4⟩ := hf
        obtain ⟨xs, n, _, _, hlen, hxl, hfs⟩ := DataW.trod_struct hu h
        have hg : ∀ f' ∈ f :: r, ∃ x, DataW.trod enc P w base spare held n f'.type ((cs.drop f'.offset).take (P.cellsOf f'.type)) = some x := by
          intro f' hf'
          obtain ⟨i, hi⟩ := List.mem_iff_getElem?.1 hf'
          have hi' : i < (f :: r).length := (List.getElem?_eq_some_iff.1 hi).1
          have hx : i < xs.length := by rw [hxl]; simpa using hi'
          have := hfs i f' (by simpa using hi)
          rw [List.getElem?_eq_getElem hx] at this
          exact ⟨_, this⟩
        obtain ⟨x1, hx1⟩ := hg f (by simp)
        rw [h1, h2, List.drop_zero] at hx1
        obtain ⟨y1, hy1⟩ := (open_x a).1 _ _ _ _ h3 hx1
        obtain ⟨y2, hy2⟩ := (open_x b).2 r a.n n cs h4 (by omega) fun f' hf' => hg f' (by simp [hf'])
        exact ⟨(y1, y2), _, _, (List.take_append_drop a.n cs).symm, hy1, hy2⟩
      · exact absurd hf Bool.false_ne_true, fun fs off n cs hf hl hg => by
      match fs with
      | [] => simp [fitX] at hf
      | f :: r =>
        simp only [fitX, Bool.and_eq_true, beq_iff_eq] at hf
        obtain ⟨⟨⟨h1, h2⟩, h3⟩, h4⟩ := hf
        obtain ⟨x1, hx1⟩ := hg f (by simp)
        rw [h1, h2] at hx1
        obtain ⟨y1, hy1⟩ := (open_x a).1 _ _ _ _ h3 hx1
        simp only [Sh.n] at hl
        obtain ⟨y2, hy2⟩ := (open_x b).2 r (off + a.n) n cs h4 (by omega) fun f' hf' => hg f' (by simp [hf'])
        refine ⟨(y1, y2), _, _, ?_, hy1, hy2⟩
        rw [← List.drop_drop]; exact (List.take_append_drop a.n _).symm⟩
  | .slice e => ⟨fun t fuel cs x hf h => by
      unfold fitX at hf
      split at hf
      · rename_i te hu
        simp only [Bool.and_eq_true, beq_iff_eq, decide_eq_true_eq] at hf
        obtain ⟨⟨⟨_, hce⟩, hfe⟩, hpos⟩ := hf
        rcases Deep.open_slice hu h with ⟨rfl, _⟩ | ⟨a, len, cap, m, n, D, Pl, rfl, _, hl, hm, hmm, _, hi⟩
        · exact ⟨[], _, [], rfl, Sl.nil _ _ _, rfl, fun i c y h => by simp at h⟩
        · have hlm : len ≤ m := by rw [hmm]; split <;> omega
          have h2 : ∀ i, i < len → ∃ q : List Value × e.Ty, (∀ r, r < e.n → w.cell? (a.add (i * e.n + r)) = q.1[r]?) ∧ Rd (fun k => k < w.heap.size) w e q.1 q.2 := by
            intro i hil
            obtain ⟨cs', hc, ht⟩ := hi i (by omega)
            obtain ⟨y, hy⟩ := (open_x e).1 _ _ _ _ hfe ht
            rw [hce] at hc
            obtain ⟨_, _, hr⟩ := World.cells?_some hc
            refine ⟨(cs', y), fun r hr' => ?_, hy⟩
            rw [← Deep.add_add]; exact hr r hr'
          obtain ⟨l, hll, hp⟩ := choose_list h2
          have hel : ∀ c ∈ l.map (·.1), c.length = e.n := by
            intro c hc
            obtain ⟨q, hq, rfl⟩ := List.mem_map.1 hc
            obtain ⟨i, hi⟩ := List.mem_iff_getElem?.1 hq
            exact (hp i q hi).2.len
          refine ⟨l.map (·.2), .slice (some a) len cap, l.map (·.1), rfl, ⟨?_, some a, cap, by simp [hll], by simpa [hll] using hl, hm, (fun h => by cases h), fun hn => ?_⟩, by simp, fun i c y hc hy => ?_⟩
          · rw [flatten_len hel]; simp
          · have hcell : ∀ j u, (l.map (·.1)).flatten[j]? = some u → w.cell? (a.add j) = some u := by
              intro j u hu
              obtain ⟨i, r, c, rfl, hr, hc, hu⟩ := flatten_get_some hel hpos hu
              rw [List.getElem?_map] at hc
              cases hq : l[i]? with
              | none => rw [hq] at hc; cases hc
              | some q =>
                rw [hq] at hc; cases hc
                rw [(hp i q hq).1 r hr]; exact hu
            simp only [List.length_map, hll] at hn
            have hfl : 0 < (l.map (·.1)).flatten.length := by
              rw [flatten_len hel, List.length_map, hll]; exact Nat.mul_pos hn hpos
            have h0 := hcell 0 _ (List.getElem?_eq_getElem hfl)
            obtain ⟨ab, ao, spot⟩ := a
            have hs : spot = none := by simpa [Addr.add] using World.cell?_spot h0
            subst hs
            refine ⟨ab, ao, rfl, World.block_lt_of_cell? w _ h0, World.block_lt_of_cell? w _ h0, fun j u hu => ?_⟩
            have := hcell j u hu
            rwa [Addr.add_lit] at this
          · rw [List.getElem?_map] at hc hy
            cases hq : l[i]? with
            | none => rw [hq] at hc; cases hc
            | some q =>
              rw [hq] at hc hy; cases hc; cases hy
              exact (hp i q hq).2
      · exact absurd hf Bool.false_ne_true, fun fs off n cs hf => by simp [fitX] at hf⟩
  | .arr n e => ⟨fun t fuel cs x hf h => by
      unfold fitX at hf
      split at hf
      · rename_i n' te hu
        simp only [Bool.and_eq_true, beq_iff_eq, decide_eq_true_eq] at hf
        obtain ⟨⟨⟨rfl, hct⟩, hce⟩, hfe⟩ := hf
        cases fuel with
        | zero => simp [DataW.trod] at h
        | succ fuel =>
          unfold DataW.trod at h
          rw [hu] at h
          simp only at h
          split at h
          · rename_i hlen
            rw [hct] at hlen
            cases hm : (List.range n').mapM (fun i => DataW.trod enc P w base spare held fuel te ((cs.drop (i * P.cellsOf te)).take (P.cellsOf te))) with
            | none => rw [hm] at h; cases h
            | some xs =>
              have h2 : ∀ i, i < n' → ∃ y : e.Ty, Rd (fun k => k < w.heap.size) w e ((cs.drop (i * e.n)).take e.n) y := by
                intro i hi
                have h1 := mapM_some_get hm i i (by simp [hi])
                have hxl : xs.length = n' := by simpa using mapM_some_length hm
                rw [List.getElem?_eq_getElem (by omega), hce] at h1
                exact (open_x e).1 _ _ _ _ hfe h1
              obtain ⟨l, hll, hp⟩ := choose_list h2
              refine ⟨l, (List.range n').map fun i => (cs.drop (i * e.n)).take e.n, ?_, by simp, hll, fun i c y hc hy => ?_⟩
              · rw [chunks cs e.n n' (by omega), ← hlen, List.take_length]
              · rw [List.getElem?_map] at hc
                have hi : i < n' := by rw [← hll]; exact (List.getElem?_eq_some_iff.1 hy).1
                rw [List.getElem?_range hi] at hc
                cases hc
                exact hp i y hy
          · cases h
      · exact absurd hf Bool.false_ne_true, fun fs off n cs hf => by simp [fitX] at hf⟩

theorem open_slice_arg {s : Sh} {t te : TypeId} {r : Reach} {b0 : Nat} {v : Value} {d : DataW H} {p : List MemPlace} (hu : P.underlying t = some (.slice te)) (hf : fitX P (.slice s) (.inl t) = true) (hval : Value.okWide P w r b0 t v) (h : DataW.Trod enc P w base spare held t v d p) :
    ∃ y, Rd (fun k => k < w.heap.size) w (.slice s) [v] y := by
  obtain ⟨a, len, cap, rfl⟩ := okWide_slice hu hval
  obtain ⟨fuel, hx⟩ := h
  exact (open_x (.slice s)).1 _ _ _ _ hf hx
theorem open_str_arg {t : TypeId} {r : Reach} {b0 : Nat} {v : Value} {d : DataW H} {p : List MemPlace} (hu : P.underlying t = some .string) (hf : fitX P .str (.inl t) = true) (hval : Value.okWide P w r b0 t v) (h : DataW.Trod enc P w base spare held t v d p) :
    ∃ y : List UInt8, v = .string ⟨y.toArray⟩ ∧ y.length ≤ maxLen := by
  obtain ⟨s, rfl⟩ := okWide_string hu hval
  obtain ⟨fuel, hx⟩ := h
  obtain ⟨y, h1, h2⟩ := (open_x .str).1 _ _ _ _ hf hx
  exact ⟨y, by simpa [Value.cells] using h1, h2⟩
theorem open_struct_arg {s : Sh} {t : TypeId} {fs : Array Field} {r : Reach} {b0 : Nat} {v : Value} {d : DataW H} {p : List MemPlace} (hu : P.underlying t = some (.struct fs)) (hf : fitX P s (.inl t) = true) (hval : Value.okWide P w r b0 t v) (h : DataW.Trod enc P w base spare held t v d p) :
    ∃ cs y, v = .agg cs ∧ Rd (fun k => k < w.heap.size) w s cs.toList y := by
  obtain ⟨cs, rfl, _⟩ := okWide_struct hu hval
  obtain ⟨fuel, hx⟩ := h
  obtain ⟨y, hy⟩ := (open_x s).1 _ _ _ _ hf hx
  exact ⟨cs, y, rfl, hy⟩
theorem open_array_arg {s : Sh} {t te : TypeId} {n : Nat} {r : Reach} {b0 : Nat} {v : Value} {d : DataW H} {p : List MemPlace} (hu : P.underlying t = some (.array n te)) (hf : fitX P s (.inl t) = true) (hval : Value.okWide P w r b0 t v) (h : DataW.Trod enc P w base spare held t v d p) :
    ∃ cs y, v = .agg cs ∧ Rd (fun k => k < w.heap.size) w s cs.toList y := by
  simp only [Value.okWide, hu] at hval
  obtain ⟨cs, rfl, _⟩ := hval
  obtain ⟨fuel, hx⟩ := h
  obtain ⟨y, hy⟩ := (open_x s).1 _ _ _ _ hf hx
  exact ⟨cs, y, rfl, hy⟩
end
end Go.Dm
