/- Tags of words, as lists: no program in sight (the document's chapter 18 as Lean functions). A region that draws its order, walked in orders that are given as a tree: where two operations that turn memory may both come next, both ways are shown. cmp.Less, insertionSortOrdered at uint64. octets: has, width, fits, Get, Set. number, Load, Fetch, Peek, Poke, Store. Store, Protect, Unmap, New. No condition. -/
import Derived.Test.YthfekjnekaecaaaDoorCpuM
import Derived.Test.YthfekjnekaecaaaDoorRd
import Derived.Test.YthfekjnekaecaaaDoorProg
import Derived.Sort.LotA
import Derived.Laws.OwnMore
import Derived.Laws.MakeOwn
import Derived.Laws.EntriesVeiled
set_option linter.unusedVariables false
set_option linter.unusedSimpArgs false
namespace Go.Dm.Tg
open Go Go.Dm.Vm Go.Dm.Cp

structure Md where
  name : List UInt8
  base : Nat
  low : Nat
  high : Nat
  tls : Bool
  off : Nat
  mem : Nat
structure MdOk (m : Md) : Prop where
  nl : m.name.length ≤ maxLen
  bl : m.base < 18446744073709551616
  ll : m.low < 18446744073709551616
  hl : m.high < 18446744073709551616
  ol : m.off < 18446744073709551616
  ml : m.mem < 18446744073709551616
def inM (a : Nat) (m : Md) : Bool := decide (m.low ≤ a) && decide (a < m.high)
/-- the module of an address -/
def ofM (l : List Md) (a : Nat) : Int := match l.findIdx? (inM a) with
  | some i => (i : Int)
  | none => -1
/-- a ledger: modules, words that have a tag by rising addresses -/
structure Lg where
  m : List Md
  w : List (Nat × Nat)
structure LgOk (L : Lg) : Prop where
  md : ∀ x ∈ L.m, MdOk x
  ln : L.m.length ≤ 1048576
  srt : L.w.Pairwise (fun p q => p.1 < q.1)
  al : ∀ p ∈ L.w, p.1 % 8 = 0 ∧ p.1 < 18446744073709551616
  tg : ∀ p ∈ L.w, 0 < p.2 ∧ p.2 ≤ L.m.length
def wordAt (w : List (Nat × Nat)) (a : Nat) : Nat := ((w.find? fun p => p.1 == a).map (·.2)).getD 0
def tagM (L : Lg) (a : Nat) : Nat := wordAt L.w (a / 8 * 8)
def delW (w : List (Nat × Nat)) (a : Nat) : List (Nat × Nat) := w.filter fun p => !(p.1 == a)
def insW (p : Nat × Nat) : List (Nat × Nat) → List (Nat × Nat)
  | [] => [p]
  | q :: r => if p.1 < q.1 then p :: q :: r else q :: insW p r
def markE (L : Lg) (a : Nat) (t : Int) : Nat := if a % 8 = 0 ∧ 0 ≤ t ∧ t ≤ (L.m.length : Int) then 0 else 1
def putW (w : List (Nat × Nat)) (a : Nat) (t : Nat) : List (Nat × Nat) := if t = 0 then delW w a else insW (a, t) (delW w a)
def markM (L : Lg) (a : Nat) (t : Int) : Lg := if markE L a t = 0 then { L with w := putW L.w a t.toNat } else L
def goesM (a n : Nat) : Bool := decide (n ≤ 65536) && decide (a + n ≤ 18446744073709551616)
def withinM (L : Lg) (a n : Nat) (t : Int) : Bool := decide (1 ≤ t) && match L.m[(t - 1).toNat]? with
  | some m => decide (m.low ≤ a) && decide (a < m.high) && decide (n ≤ m.high - a)
  | none => false
/-- is a byte there? (in memory that is none: not) -/
def heldO (m : Option V) (a : Nat) : Bool := match m with | some v => Vm.heldE v a 1 == 0 | none => false
/-- may a byte of memory be used with a number? -/
def fixedM (L : Lg) (m : Option V) (a : Nat) : Bool := heldO m a && decide (ofM L.m a < 0)
def spanM (L : Lg) (m : Option V) (a n : Nat) (t : Int) : Nat :=
  if n = 0 then 0 else if t ≠ 0 then (if withinM L a n t then 0 else 50) else if goesM a n then (if (List.range n).all fun i => fixedM L m (a + i) then 0 else 50) else 50
def plainM (L : Lg) (a n : Nat) : Bool := goesM a n && (List.range n).all fun i => tagM L (a + i) == 0
def compM (L : Lg) (x y : Nat) (tx ty : Int) : Bool := if tx ≠ ty ∨ tx = 0 then decide (tx = ty) else match L.m[(tx - 1).toNat]? with
  | some m => decide (m.low ≤ x) && decide (x ≤ m.high) && decide (m.low ≤ y) && decide (y ≤ m.high)
  | none => false

theorem of_some {l : List Md} {a i : Nat} (hi : i < l.length) (h : inM a l[i] = true) (hno : ∀ j (hj : j < i), inM a (l[j]'(Nat.lt_trans hj hi)) = false) : ofM l a = (i : Int) := by
  unfold ofM
  rw [List.findIdx?_eq_some_iff_getElem.2 ⟨hi, h, fun j hj => by rw [hno j hj]; decide⟩]
theorem of_none {l : List Md} {a : Nat} (hno : ∀ j (hj : j < l.length), inM a l[j] = false) : ofM l a = -1 := by
  unfold ofM
  rw [List.findIdx?_eq_none_iff.2 fun x hx => by
    obtain ⟨j, hj, rfl⟩ := List.mem_iff_getElem.1 hx
    exact hno j hj]
theorem of_lt (l : List Md) (a : Nat) : -1 ≤ ofM l a ∧ ofM l a < (l.length : Int) := by
  unfold ofM
  cases h : l.findIdx? (inM a) with
  | none => simp only; omega
  | some i =>
    have := (List.findIdx?_eq_some_iff_getElem.1 h).1
    simp only
    omega
theorem delW_sub {w : List (Nat × Nat)} {a : Nat} {p : Nat × Nat} (h : p ∈ delW w a) : p ∈ w ∧ p.1 ≠ a := by
  unfold delW at h
  rw [List.mem_filter] at h
  exact ⟨h.1, by simpa using h.2⟩
theorem insW_perm (p : Nat × Nat) (w : List (Nat × Nat)) : (insW p w).Perm (p :: w) := by
  induction w with
  | nil => exact List.Perm.refl _
  | cons q r ih =>
    unfold insW
    split
    · exact List.Perm.refl _
    · exact (ih.cons q).trans (List.Perm.swap p q r)
theorem insW_mem {p x : Nat × Nat} {w : List (Nat × Nat)} : x ∈ insW p w ↔ x = p ∨ x ∈ w := by rw [(insW_perm p w).mem_iff, List.mem_cons]
theorem insW_srt {p : Nat × Nat} {w : List (Nat × Nat)} (h : w.Pairwise (fun p q => p.1 < q.1)) (hn : ∀ q ∈ w, q.1 ≠ p.1) : (insW p w).Pairwise (fun p q => p.1 < q.1) := by
  induction w with
  | nil => simp [insW]
  | cons q r ih =>
    rw [List.pairwise_cons] at h
    unfold insW
    split
    · rename_i hlt
      rw [List.pairwise_cons]
      refine ⟨fun x hx => ?_, List.pairwise_cons.2 h⟩
      rcases List.mem_cons.1 hx with rfl | hx
      · exact hlt
      · exact Nat.lt_trans hlt (h.1 x hx)
    · rename_i hge
      rw [List.pairwise_cons]
      refine ⟨fun x hx => ?_, ih h.2 fun q hq => hn q (List.mem_cons_of_mem _ hq)⟩
      rcases insW_mem.1 hx with rfl | hx
      · have := hn q (List.mem_cons_self ..)
        omega
      · exact h.1 x hx
theorem delW_srt {w : List (Nat × Nat)} (h : w.Pairwise (fun p q => p.1 < q.1)) (a : Nat) : (delW w a).Pairwise (fun p q => p.1 < q.1) := h.filter _
theorem mark_ok {L : Lg} (h : LgOk L) {a : Nat} (ha : a < 18446744073709551616) (t : Int) : LgOk (markM L a t) := by
  unfold markM
  by_cases he : markE L a t = 0
  · rw [if_pos he]
    have h3 : a % 8 = 0 ∧ 0 ≤ t ∧ t ≤ (L.m.length : Int) := by
      unfold markE at he
      by_cases h3 : a % 8 = 0 ∧ 0 ≤ t ∧ t ≤ (L.m.length : Int)
      · exact h3
      · rw [if_neg h3] at he; cases he
    unfold putW
    split
    · exact ⟨h.md, h.ln, delW_srt h.srt a, fun p hp => h.al p (delW_sub hp).1, fun p hp => h.tg p (delW_sub hp).1⟩
    · refine ⟨h.md, h.ln, insW_srt (delW_srt h.srt a) fun q hq => (delW_sub hq).2, fun p hp => ?_, fun p hp => ?_⟩
      · rcases insW_mem.1 hp with rfl | hp
        · exact ⟨h3.1, ha⟩
        · exact h.al p (delW_sub hp).1
      · rcases insW_mem.1 hp with rfl | hp
        · simp only; omega
        · exact h.tg p (delW_sub hp).1
  · rw [if_neg he]; exact h
theorem mark_m (L : Lg) (a : Nat) (t : Int) : (markM L a t).m = L.m := by
  unfold markM
  split <;> rfl
theorem tag_le {L : Lg} (h : LgOk L) (a : Nat) : tagM L a ≤ L.m.length := by
  unfold tagM wordAt
  cases hf : L.w.find? fun p => p.1 == a / 8 * 8 with
  | none => exact Nat.zero_le _
  | some p => exact (h.tg p (List.mem_of_find?_eq_some hf)).2
theorem word_mem {w : List (Nat × Nat)} (hs : w.Pairwise (fun p q => p.1 < q.1)) {p : Nat × Nat} (h : p ∈ w) : wordAt w p.1 = p.2 := by
  induction w with
  | nil => cases h
  | cons q r ih =>
    rw [List.pairwise_cons] at hs
    unfold wordAt
    rcases List.mem_cons.1 h with rfl | h
    · simp
    · have := hs.1 p h
      rw [List.find?_cons_of_neg (by simp; omega)]
      exact ih hs.2 h
theorem word_none {w : List (Nat × Nat)} {a : Nat} (h : ∀ p ∈ w, p.1 ≠ a) : wordAt w a = 0 := by
  unfold wordAt
  rw [List.find?_eq_none.2 fun p hp => by simpa using h p hp]
  rfl
end Go.Dm.Tg
namespace Go.Dm.Tg
open Go Go.Dm.Vm Go.Dm.Cp
/-! an instruction's tags -/
def insideM (L : Lg) (s : St) (i : Ins) (own : Int) : Bool := withinM L (add s.pc (u64 i.imm)) 1 own
def reckM (L : Lg) (t : List Int) (s : St) (i : Ins) : Int × Bool :=
  if i.op = 3 then (t.getD i.b 0 + t.getD i.c 0, decide (t.getD i.b 0 = 0 ∨ t.getD i.c 0 = 0))
  else if i.op = 4 then if t.getD i.b 0 = t.getD i.c 0 then (0, true) else (t.getD i.b 0, decide (t.getD i.c 0 = 0))
  else if i.op = 14 ∨ i.op = 15 then (0, compM L (s.reg i.b) (s.reg i.c) (t.getD i.b 0) (t.getD i.c 0))
  else (0, decide (t.getD i.b 0 = 0 ∧ t.getD i.c 0 = 0))
def atI (s : St) (i : Ins) : Nat := add (s.reg i.b) (u64 i.imm)
def widI (i : Ins) : Nat := wid (i.op - if 24 ≤ i.op then 24 else 20)
/-- what a load or a store makes of tags; none: it may not be -/
def memM (L : Lg) (mo : Option V) (t : List Int) (s : St) (i : Ins) : Option (List Int × Lg) :=
  if spanM L mo (atI s i) (widI i) (t.getD i.b 0) = 0 then
    if widI i = 8 ∧ atI s i % 8 = 0 then
      if 24 ≤ i.op then if markE L (atI s i) (t.getD i.a 0) = 0 then some (t, markM L (atI s i) (t.getD i.a 0)) else none
      else some (t.set i.a (tagM L (atI s i) : Nat), L)
    else if plainM L (atI s i) (widI i) then if 24 ≤ i.op then if t.getD i.a 0 = 0 then some (t, L) else none else some (t.set i.a 0, L)
    else none
  else none
def lookB (L : Lg) (mo : Option V) (t : List Int) (s : St) (i : Ins) (own : Int) : Option (List Int × Lg) :=
  if i.op = 2 ∨ i.op = 16 then some (t.set i.a (t.getD i.b 0), L)
  else if i.op = 18 then if t.getD i.a 0 = 0 then some (t, L) else none
  else if i.op = 17 ∨ i.op = 39 then some (t.set i.a 0, L)
  else if 3 ≤ i.op ∧ i.op ≤ 15 then if (reckM L t s i).2 then some (t.set i.a (reckM L t s i).1, L) else none
  else if 20 ≤ i.op ∧ i.op ≤ 27 then memM L mo t s i
  else if i.op = 30 ∨ i.op = 31 then if t.getD i.a 0 = t.getD i.b 0 ∧ insideM L s i own = true then some (t, L) else none
  else if i.op = 32 ∨ i.op = 33 then if compM L (s.reg i.a) (s.reg i.b) (t.getD i.a 0) (t.getD i.b 0) = true ∧ insideM L s i own = true then some (t, L) else none
  else if i.op = 34 then if insideM L s i own then some (t, L) else none
  else if i.op = 35 then if insideM L s i own then some (t.set i.a own, L) else none
  else if i.op = 36 then if withinM L (s.reg i.b) 1 (t.getD i.b 0) then some (t, L) else none
  else if i.op = 37 then if withinM L (s.reg i.b) 1 (t.getD i.b 0) then some (t.set i.a own, L) else none
  else if i.op = 38 then some (t.set i.a own, L)
  else some (t, L)
def lookM (L : Lg) (mo : Option V) (t : List Int) (s : St) (i : Ins) (own : Int) : Option (List Int × Lg) :=
  if ¬ (34 ≤ i.op ∧ i.op ≤ 37) ∧ withinM L (add s.pc 8) 1 own = false then none else lookB L mo t s i own
section
variable (L : Lg) (mo : Option V) (t : List Int) (s : St) (op a b c : Nat) (imm own : Int)
theorem lb_mov (h : op = 2 ∨ op = 16) : lookB L mo t s ⟨op, a, b, c, imm⟩ own = some (t.set a (t.getD b 0), L) := by unfold lookB; exact if_pos h
theorem lb_18 : lookB L mo t s ⟨18, a, b, c, imm⟩ own = if t.getD a 0 = 0 then some (t, L) else none := by unfold lookB; simp
theorem lb_nul (h : op = 17 ∨ op = 39) : lookB L mo t s ⟨op, a, b, c, imm⟩ own = some (t.set a 0, L) := by
  unfold lookB
  simp only
  rw [if_neg (by omega), if_neg (by omega), if_pos h]
theorem lb_rk (h : 3 ≤ op ∧ op ≤ 15) : lookB L mo t s ⟨op, a, b, c, imm⟩ own = if (reckM L t s ⟨op, a, b, c, imm⟩).2 then some (t.set a (reckM L t s ⟨op, a, b, c, imm⟩).1, L) else none := by
  unfold lookB
  simp only
  rw [if_neg (by omega), if_neg (by omega), if_neg (by omega), if_pos h]
theorem lb_mem (h : 20 ≤ op ∧ op ≤ 27) : lookB L mo t s ⟨op, a, b, c, imm⟩ own = memM L mo t s ⟨op, a, b, c, imm⟩ := by
  unfold lookB
  simp only
  rw [if_neg (by omega), if_neg (by omega), if_neg (by omega), if_neg (by omega), if_pos h]
theorem lb_eq (h : op = 30 ∨ op = 31) : lookB L mo t s ⟨op, a, b, c, imm⟩ own = if t.getD a 0 = t.getD b 0 ∧ insideM L s ⟨op, a, b, c, imm⟩ own = true then some (t, L) else none := by
  unfold lookB
  simp only
  rw [if_neg (by omega), if_neg (by omega), if_neg (by omega), if_neg (by omega), if_neg (by omega), if_pos h]
theorem lb_lt (h : op = 32 ∨ op = 33) : lookB L mo t s ⟨op, a, b, c, imm⟩ own = if compM L (s.reg a) (s.reg b) (t.getD a 0) (t.getD b 0) = true ∧ insideM L s ⟨op, a, b, c, imm⟩ own = true then some (t, L) else none := by
  unfold lookB
  simp only
  rw [if_neg (by omega), if_neg (by omega), if_neg (by omega), if_neg (by omega), if_neg (by omega), if_neg (by omega), if_pos h]
theorem lb_34 : lookB L mo t s ⟨34, a, b, c, imm⟩ own = if insideM L s ⟨34, a, b, c, imm⟩ own then some (t, L) else none := by unfold lookB; simp
theorem lb_35 : lookB L mo t s ⟨35, a, b, c, imm⟩ own = if insideM L s ⟨35, a, b, c, imm⟩ own then some (t.set a own, L) else none := by unfold lookB; simp
theorem lb_36 : lookB L mo t s ⟨36, a, b, c, imm⟩ own = if withinM L (s.reg b) 1 (t.getD b 0) then some (t, L) else none := by unfold lookB; simp
theorem lb_37 : lookB L mo t s ⟨37, a, b, c, imm⟩ own = if withinM L (s.reg b) 1 (t.getD b 0) then some (t.set a own, L) else none := by unfold lookB; simp
theorem lb_38 : lookB L mo t s ⟨38, a, b, c, imm⟩ own = some (t.set a own, L) := by unfold lookB; simp
theorem lb_no (h : op = 1 ∨ op = 40 ∨ op = 41) : lookB L mo t s ⟨op, a, b, c, imm⟩ own = some (t, L) := by
  rcases h with rfl | rfl | rfl <;> (unfold lookB; simp)
end
def wrongM (L : Lg) (t : Int) : Bool := decide (t < 0 ∨ (L.m.length : Int) < t)
/-- what an instruction makes of tags, and of the ledger -/
def tstepM (L : Lg) (mo : Option V) (t : List Int) (s : St) (i : Ins) (may : Bool) : List Int × Lg × Nat :=
  if ofM L.m s.pc < 0 ∨ may = false ∨ t.any (wrongM L) = true then (t, L, 50)
  else match lookM L mo t s i (ofM L.m s.pc + 1) with
    | some (t', L') => (t', L', 0)
    | none => (t, L, 50)
structure TsOk (L : Lg) (t : List Int) : Prop where
  len : t.length = 32
  tg : ∀ k, 0 ≤ t.getD k 0 ∧ t.getD k 0 ≤ (L.m.length : Int)
theorem TsOk.set {L : Lg} {t : List Int} (h : TsOk L t) (k : Nat) {x : Int} (hx : 0 ≤ x ∧ x ≤ (L.m.length : Int)) : TsOk L (t.set k x) where
  len := by rw [List.length_set, h.len]
  tg := fun j => by
    rw [List.getD_eq_getElem?_getD, List.getElem?_set]
    split
    · split
      · simpa using hx
      · have := h.tg 0; simp only [Option.getD_none]; omega
    · rw [← List.getD_eq_getElem?_getD]; exact h.tg j
end Go.Dm.Tg
namespace Go.Dm
open Go

/-- st: it yields the same in every world of S; ef: the only one that may come; br: i or j may come -/
inductive Tr where
  | nil
  | st (i : Nat) (r : Tr)
  | ef (i : Nat) (r : Tr)
  | br (i j : Nat) (l r : Tr)
def Tr.len : Tr → Nat
  | .nil => 0 | .st _ r => r.len + 1 | .ef _ r => r.len + 1 | .br _ _ l _ => l.len + 1

section
variable {P : Program} {ops : Array Oper} {Q : Exit → Act → World → Prop} {md : Region.Mode} {S : World → Prop} {kb : Nat → Bool}

def treeB (md : Region.Mode) (ops : Array Oper) (kb : Nat → Bool) : Tr → Array Bool → Bool → Bool
  | .nil, listed, _ => (Region.ready md ops listed).isEmpty
  | .st i r, listed, s => s && (Region.ready md ops listed).contains i && freeK md ops kb listed i && treeB md ops kb r (listed.setIfInBounds i true) s
  | .ef i r, listed, s => (Region.ready md ops listed == [i]) && treeB md ops kb r (listed.setIfInBounds i true) (s && kb i)
  | .br i j l r, listed, s => (Region.ready md ops listed == [i, j]) && (l.len == r.len) && treeB md ops kb l (listed.setIfInBounds i true) (s && kb i) && treeB md ops kb r (listed.setIfInBounds j true) (s && kb j)

def wpTree (P : Program) (ops : Array Oper) (Q : Exit → Act → World → Prop) (S : World → Prop) (kb : Nat → Bool) : Tr → Act → World → Prop
  | .nil, a, w => Q .normal a w
  | .st i r, a, w => ∃ o v, ops[i]? = some o ∧ YieldsIf P ops S o v a ∧ wpTree P ops Q S kb r (a.put o.dst v) w
  | .ef i r, a, w => wpOp P ops Q i (fun a' w' => (kb i = true → S w') ∧ wpTree P ops Q S kb r a' w') a w
  | .br i j l r, a, w => wpOp P ops Q i (fun a' w' => (kb i = true → S w') ∧ wpTree P ops Q S kb l a' w') a w ∧ wpOp P ops Q j (fun a' w' => (kb j = true → S w') ∧ wpTree P ops Q S kb r a' w') a w

theorem wpTree_sound (hs : Region.noSelect ops = true) (hQ : ∀ c a d v w, Q (.panic c) (a.put d v) w → Q (.panic c) a w) :
    ∀ (l : Tr) (listed : Array Bool) (s : Bool) (a : Act) (w : World), treeB md ops kb l listed s = true → Closed md ops listed → (s = true → S w) → wpTree P ops Q S kb l a w → wpAnyK P md ops Q S kb l.len listed a w
  | .nil, listed, s, a, w, h, _, _, hq => by
    have : Region.ready md ops listed = [] := by simpa [treeB] using h
    exact ⟨this, hq⟩
  | .st i r, listed, s, a, w, h, hcl, hS, ⟨o, v, ho, hy, hq⟩ => by
    simp only [treeB, Bool.and_eq_true] at h
    obtain ⟨⟨⟨h1, h2⟩, h3⟩, h4⟩ := h
    exact wpAnyK_first ho (Region.noSelect_spec hs) (fun c a w => hQ c a _ _ w) r.len listed a w (freeK_spec ho h3) hcl (by simpa using h2) hy (hS h1)
      (wpTree_sound hs hQ r _ s _ w h4 (hcl.step (by simpa using h2)) hS hq)
  | .ef i r, listed, s, a, w, h, hcl, hS, hq => by
    simp only [treeB, Bool.and_eq_true, beq_iff_eq] at h
    refine ⟨fun h0 => (by rw [h.1] at h0; cases h0), fun j hj => ?_⟩
    rw [h.1] at hj
    obtain rfl : j = i := by simpa using hj
    exact wpOp_mono (fun a' w' h' => ⟨h'.1, wpTree_sound hs hQ r _ (s && kb j) a' w' h.2 (hcl.step (by rw [h.1]; simp)) (fun hsk => h'.1 (Bool.and_eq_true_iff.1 hsk).2) h'.2⟩) hq
  | .br i j l r, listed, s, a, w, h, hcl, hS, hq => by
    simp only [treeB, Bool.and_eq_true, beq_iff_eq] at h
    obtain ⟨⟨⟨h1, h2⟩, h3⟩, h4⟩ := h
    refine ⟨fun h0 => (by rw [h1] at h0; cases h0), fun k hk => ?_⟩
    have hk0 := hk
    rw [h1] at hk
    rcases (by simpa using hk : k = i ∨ k = j) with rfl | rfl
    · exact wpOp_mono (fun a' w' h' => ⟨h'.1, wpTree_sound hs hQ l _ (s && kb k) a' w' h3 (hcl.step hk0) (fun hsk => h'.1 (Bool.and_eq_true_iff.1 hsk).2) h'.2⟩) hq.1
    · show wpOp P ops Q k (fun a' w' => (kb k = true → S w') ∧ wpAnyK P md ops Q S kb l.len _ a' w') a w
      rw [h2]
      exact wpOp_mono (fun a' w' h' => ⟨h'.1, wpTree_sound hs hQ r _ (s && kb k) a' w' h4 (hcl.step hk0) (fun hsk => h'.1 (Bool.and_eq_true_iff.1 hsk).2) h'.2⟩) hq.2

theorem wp_region_tree {id : Nat} {a : Act} {w : World} (S : World → Prop) (kb : Nat → Bool) (l : Tr) {o : List Oper} (hm : P.follows .mixedOrders = true)
    (hB : (Region.noSelect o.toArray && treeB .any o.toArray kb l (Array.replicate o.toArray.size false) true && (l.len == o.toArray.size)) = true)
    (hQ : ∀ c a d v w, Q (.panic c) (a.put d v) w → Q (.panic c) a w) (hS : S w.drew)
    (h : wpTree P o.toArray Q S kb l a w.drew) : (Code.region id o.toArray true).wp P Q a w := by
  simp only [Bool.and_eq_true, beq_iff_eq] at hB
  refine wp_region_any hm (wpAny_of_K (S := S) (kb := kb) _ _ _ _ ?_)
  have h2 := wpTree_sound (md := .any) hB.1.1 hQ l _ true a _ hB.1.2 (fun k ok _ hl => by rw [Array.getD_eq_getD_getElem?, Array.getElem?_replicate] at hl; split at hl <;> cases hl) (fun _ => hS) h
  rw [hB.2] at h2
  exact h2

theorem tr_nil {a : Act} {w : World} (h : Q .normal a w) : wpTree P ops Q S kb .nil a w := h
theorem tr_still {i : Nat} {r : Tr} {a : Act} {w : World} {o : Oper} {v : Value} (ho : ops[i]? = some o) (hg : o.guard = none)
    (hy : ∀ w', S w' → (execOp a.eval o).run P w' = .ok (.value v) w') (h : wpTree P ops Q S kb r (a.put o.dst v) w) : wpTree P ops Q S kb (.st i r) a w :=
  ⟨o, v, ho, .inl ⟨by simp [Region.wanted, hg], hy⟩, h⟩
theorem tr_guard {i : Nat} {r : Tr} {a : Act} {w : World} {o : Oper} {v : Value} (ho : ops[i]? = some o) (hg : Region.wanted o (yielded ops a.tmps) = true)
    (hy : ∀ w', S w' → (execOp a.eval o).run P w' = .ok (.value v) w') (h : wpTree P ops Q S kb r (a.put o.dst v) w) : wpTree P ops Q S kb (.st i r) a w :=
  ⟨o, v, ho, .inl ⟨hg, hy⟩, h⟩
theorem tr_skip {i : Nat} {r : Tr} {a : Act} {w : World} {o : Oper} (ho : ops[i]? = some o) (hg : Region.wanted o (yielded ops a.tmps) = false)
    (h : wpTree P ops Q S kb r (a.put o.dst undef) w) : wpTree P ops Q S kb (.st i r) a w :=
  ⟨o, undef, ho, .inr ⟨hg, rfl⟩, h⟩
theorem wo_eff {i : Nat} {a : Act} {w : World} {o : Oper} {R : Act → World → Prop} (ho : ops[i]? = some o) (hg : o.guard = none)
    (h : ∀ K : Act → World → Prop, (∀ a' w', R a' w' → K a' w') → o.wp P a w K Q) : wpOp P ops Q i R a w := by
  unfold wpOp
  simp only [ho, Region.wanted, hg, if_true]
  exact .inl (h _ fun _ _ h => h)
theorem tr_eff {i : Nat} {r : Tr} {a : Act} {w : World} {o : Oper} (ho : ops[i]? = some o) (hg : o.guard = none)
    (h : ∀ K : Act → World → Prop, (∀ a' w', ((kb i = true → S w') ∧ wpTree P ops Q S kb r a' w') → K a' w') → o.wp P a w K Q) : wpTree P ops Q S kb (.ef i r) a w := wo_eff ho hg h
theorem tr_br {i j : Nat} {l r : Tr} {a : Act} {w : World} {o o' : Oper} (ho : ops[i]? = some o) (hg : o.guard = none) (ho' : ops[j]? = some o') (hg' : o'.guard = none)
    (h : ∀ K : Act → World → Prop, (∀ a' w', ((kb i = true → S w') ∧ wpTree P ops Q S kb l a' w') → K a' w') → o.wp P a w K Q)
    (h' : ∀ K : Act → World → Prop, (∀ a' w', ((kb j = true → S w') ∧ wpTree P ops Q S kb r a' w') → K a' w') → o'.wp P a w K Q) : wpTree P ops Q S kb (.br i j l r) a w := ⟨wo_eff ho hg h, wo_eff ho' hg' h'⟩
end
end Go.Dm
namespace Go.Proofs.YthfekjnekaecaaaDoor
open Go.RowKit Go.Dm

def uv (x : Nat) : Value := .int .u64 (x : Int)
def ltN (a b : Nat) : Bool := decide (a < b)
theorem nan_any (a : Nat) (w : World) : Calls Tryd.prog 93 #[uv a] w fun e w' => e = .returned (.bool false) ∧ w = w' := by
  unfold uv
  go_enter Tryd.func93, Tryd.ntmps93
  go_wp2_with fail
  go_ret
  exact ⟨rfl, rfl⟩
theorem less_any (a b : Nat) (w : World) : Calls Tryd.prog 81 #[uv a, uv b] w fun e w' => e = .returned (.bool (ltN a b)) ∧ w = w' := by
  have h1 := nan_any a w
  unfold uv at *
  have e : decide ((a : Int) < (b : Int)) = ltN a b := by unfold ltN; rw [Bool.eq_iff_iff, decide_eq_true_iff, decide_eq_true_iff]; omega
  go_enter Tryd.func81, Tryd.ntmps81
  go_wp2_with fail
  refine h1.mono ?_
  rintro e2 x ⟨rfl, rfl⟩
  by_cases hl : a < b
  · have hz : (a : Int) < (b : Int) := by omega
    have HE := Lib.hid (show ltN a b = true by unfold ltN; simpa using hl)
    clear e
    go_wp2_with fail
    go_ret
    rw [HE.out]
    exact ⟨rfl, rfl⟩
  · have hz : (b : Int) ≤ (a : Int) := by omega
    have HE := Lib.hid (show ltN a b = false by unfold ltN; simpa using hl)
    clear e
    go_wp2_with fail
    go_ret
    rw [HE.out]
    exact ⟨rfl, rfl⟩
section
variable {w : World}
/-- a row of one's own with these numbers -/
def Nums (w : World) (base g cap : Nat) (D : Array Nat) : Prop := w.ownsRow base 22 1 (.slice (some ⟨g, 0, none⟩) D.size cap) D.size (D.toList.map uv)
theorem Nums.cell {base g cap : Nat} {D : Array Nat} (h : Nums w base g cap D) {i : Nat} (hi : i < D.size) : w.cell? ⟨g, i, none⟩ = some (uv D[i]!) := by
  rw [h.cellAt i (by omega), List.getElem?_map, Array.getElem?_toList, Array.getElem?_eq_getElem hi, getElem!_pos D i hi]
  rfl
theorem Nums.frozen {base g cap : Nat} {D : Array Nat} (h : Nums w base g cap D) (i : Nat) : w.frozen? ⟨g, i, none⟩ = false := h.frozenAt i
theorem Nums.set {base g cap : Nat} {D : Array Nat} (h : Nums w base g cap D) (i x : Nat) : Nums (w.setCell ⟨g, i, none⟩ (uv x)) base g cap (D.setIfInBounds i x) := by
  have h1 := (h.stored i (uv x)).1
  unfold Nums
  rw [Array.size_setIfInBounds, Array.toList_setIfInBounds, List.map_set]
  exact h1
theorem Nums.base {base g cap : Nat} {D : Array Nat} (h : Nums w base g cap D) : base ≤ g := (World.ownsRow.lt h g rfl).1
theorem Nums.lt {base g cap : Nat} {D : Array Nat} (h : Nums w base g cap D) : g < w.heap.size := (World.ownsRow.lt h g rfl).2
set_option maxRecDepth 100000 in
set_option maxHeartbeats 4000000 in
theorem ins_any {base g cap : Nat} {D : Array Nat} (h : Nums w base g cap D) (hn : D.size ≤ 1099511627776) :
    Calls Tryd.prog 75 #[.slice (some ⟨g, 0, none⟩) D.size cap, .int .i64 0, .int .i64 (D.size : Int)] w fun e w' => e = .returned (.tuple #[]) ∧ Nums w' base g cap (Sort.insertionSort ltN D 0 D.size) ∧ Keep (fun j => j = g) w w' ∧ w'.heap.size = w.heap.size := by
  generalize hR : Sort.insertionSort ltN D 0 D.size = R
  generalize hN : D.size = n at *
  have hR2 : Sort.insOuter ltN 0 n 1 D = R := hR
  go_enter Tryd.func75, Tryd.ntmps75
  go_wp2_with fail
  go_loopw [6] (fun iv wr => ∃ i E, iv = .int .i64 ((i : Nat) : Int) ∧ 1 ≤ i ∧ Sort.insOuter ltN 0 n i E = R ∧ E.size = n ∧ Nums wr base g cap E ∧ Keep (fun j => j = g) w wr ∧ wr.heap.size = w.heap.size) (fun iv _ => n - (intOf iv).toNat)
  case atStart => exact ⟨1, D, rfl, Nat.le_refl _, hR2, hN, h, Keep.refl _ _, rfl⟩
  case round =>
    clear h hR hR2 hN
    obtain ⟨i, E, rfl, hi1, hE, hEs, hO, hk, hsz⟩ := hrel
    rw [Sort.insOuter] at hE
    rcases Nat.lt_or_ge i n with hlt | hge
    · rw [if_pos hlt] at hE
      have hiz : (i : Int) < (n : Int) := by omega
      have i1z : (1 : Int) ≤ (i : Int) := by omega
      generalize hT : Sort.insInner ltN 0 i E = T at hE
      go_wp2_with fail
      go_loopw [7] (fun jv wr => ∃ j F, jv = .int .i64 ((j : Nat) : Int) ∧ j ≤ i ∧ Sort.insInner ltN 0 j F = T ∧ F.size = n ∧ Nums wr base g cap F ∧ Keep (fun j => j = g) w wr ∧ wr.heap.size = w.heap.size) (fun jv _ => (intOf jv).toNat)
      case atStart => exact ⟨i, E, rfl, Nat.le_refl _, hT, hEs, hO, hk, hsz⟩
      case round =>
        clear hO hk hsz hT hEs
        obtain ⟨j, F, rfl, hji, hT, hFs, hO, hk, hsz⟩ := hrel
        have hjn : j < n := by omega
        have hc0 := hO.cell (i := j) (by omega)
        cases j with
        | zero =>
          rw [Sort.insInner] at hT
          subst hT
          go_wp2_with fail
          refine wp_region_sig (fun w' => True) (fun j => decide (j ≤ 99)) [(0, true), (1, true), (2, true), (3, true), (4, true), (5, true), (6, true), (7, true), (8, true), (9, true), (10, true), (11, true), (12, true), (13, true), (14, true)] (by kernel_rfl) (by kernel_rfl) (by intro c a d v w h; cases d <;> exact h) trivial ?_
          apply sig_still (o := ⟨some 16, _, _, _, _, _⟩) rfl rfl
          · intro w' hS
            first | (go_simp; done) | (go_simp; rfl) | rfl
          go_frame
          apply sig_still (o := ⟨some 17, _, _, _, _, _⟩) rfl rfl
          · intro w' hS
            first | (go_simp; done) | (go_simp; rfl) | rfl
          go_frame
          apply sig_still (o := ⟨some 18, _, _, _, _, _⟩) rfl rfl
          · intro w' hS
            first | (go_simp; done) | (go_simp; rfl) | rfl
          go_frame
          apply sig_still (o := ⟨some 19, _, _, _, _, _⟩) rfl rfl
          · intro w' hS
            first | (go_simp; done) | (go_simp; rfl) | rfl
          go_frame
          refine sig_skip (o := ⟨some 20, _, _, _, _, _⟩) rfl (by rfl) ?_
          go_frame
          refine sig_skip (o := ⟨some 21, _, _, _, _, _⟩) rfl (by rfl) ?_
          go_frame
          refine sig_skip (o := ⟨some 22, _, _, _, _, _⟩) rfl (by rfl) ?_
          go_frame
          refine sig_skip (o := ⟨some 23, _, _, _, _, _⟩) rfl (by rfl) ?_
          go_frame
          refine sig_skip (o := ⟨some 24, _, _, _, _, _⟩) rfl (by rfl) ?_
          go_frame
          refine sig_skip (o := ⟨some 25, _, _, _, _, _⟩) rfl (by rfl) ?_
          go_frame
          refine sig_skip (o := ⟨some 26, _, _, _, _, _⟩) rfl (by rfl) ?_
          go_frame
          refine sig_skip (o := ⟨some 27, _, _, _, _, _⟩) rfl (by rfl) ?_
          go_frame
          refine sig_skip (o := ⟨some 28, _, _, _, _, _⟩) rfl (by rfl) ?_
          go_frame
          refine sig_skip (o := ⟨some 29, _, _, _, _, _⟩) rfl (by rfl) ?_
          go_frame
          apply sig_still (o := ⟨some 30, _, _, _, _, _⟩) rfl rfl
          · intro w' hS
            first | (go_simp; done) | (go_simp; rfl) | rfl
          go_frame
          refine sig_nil ?_
          go_wp2_with fail
          go_roundw
          case rel => exact ⟨i + 1, F, by go_num, by omega, hE, hFs, hO, hk.drew, hsz⟩
          case measure => simp [intOf]; omega
        | succ j =>
          have hc1 := hO.cell (i := j) (by omega)
          rw [Sort.insInner] at hT
          have hless := less_any F[j + 1]! F[j]!
          have hsw : Nums ((wr.setCell ⟨g, j + 1, none⟩ (uv F[j]!)).setCell ⟨g, j, none⟩ (uv F[j + 1]!)) base g cap (Sort.swp F (j + 1) j) := (hO.set (j + 1) F[j]!).set j F[j + 1]!
          have hkw : Keep (fun j => j = g) w ((wr.setCell ⟨g, j + 1, none⟩ (uv F[j]!)).setCell ⟨g, j, none⟩ (uv F[j + 1]!)) := (hk.setCell (p := ⟨g, j + 1, none⟩) (fun _ => rfl) _).setCell (p := ⟨g, j, none⟩) (fun _ => rfl) _
          have hsz2 : ((wr.setCell ⟨g, j + 1, none⟩ (uv F[j]!)).setCell ⟨g, j, none⟩ (uv F[j + 1]!)).heap.size = w.heap.size := by simpa using hsz
          have hss := Sort.size_swp F (j + 1) j
          have hf0 := hO.frozen (j + 1)
          have hf1 := hO.frozen j
          simp only [gt_iff_lt, Nat.zero_lt_succ, decide_true, Bool.true_and] at hT
          have HT := Lib.hid hT
          clear hT
          unfold uv at hc0 hc1 hless hsw hkw hsz2
          generalize F[j + 1]! = x at *
          generalize F[j]! = y at *
          obtain ⟨k, hkj⟩ : ∃ k, k = j + 1 := ⟨_, rfl⟩
          rw [← hkj] at hc0 hf0 hjn hsw hkw hsz2 hss HT ⊢
          have hjz : decide ((0 : Int) < (k : Int)) = true := by simp; omega
          have hjn : decide (0 < k) = true := by simp; omega
          have hj1 : (k : Int) - 1 = (j : Int) := by omega
          have hjlt : (k : Int) < (n : Int) := by omega
          have hjl : (j : Int) < (n : Int) := by omega
          have hjb : (j : Int) < 9223372036854775808 := by omega
          have hwj : IntKind.i64.wrap (j : Int) = (j : Int) := by rw [IntKind.wrap_i64]; omega
          have hjw : IntKind.i64.wrap ((k : Int) - 1) = (j : Int) := by rw [hj1, IntKind.wrap_i64]; omega
          have hne : k ≠ j := by omega
          have hki : j ≤ i := by omega
          have HKJ := Lib.hid hkj
          have HO := Lib.hid hO
          have HK := Lib.hid hk
          clear hkj hO hk
          go_wp2_with fail
          refine wp_region_sig (fun w' => w'.cell? ⟨g, k, none⟩ = some (.int .u64 (x : Int)) ∧ w'.cell? ⟨g, j, none⟩ = some (.int .u64 (y : Int))) (fun j => decide (j ≤ 99)) [(0, true), (1, true), (2, true), (3, true), (4, true), (5, true), (6, true), (7, true), (8, true), (9, true), (10, true), (11, true), (12, true), (13, false), (14, true)] (by kernel_rfl) (by kernel_rfl) (by intro c a d v w h; cases d <;> exact h) ⟨hc0, hc1⟩ ?_
          apply sig_still (o := ⟨some 16, _, _, _, _, _⟩) rfl rfl
          · intro w' hS
            obtain ⟨q1, q2⟩ := hS
            first | (go_simp; done) | (go_simp; rfl) | rfl
          go_frame
          apply sig_still (o := ⟨some 17, _, _, _, _, _⟩) rfl rfl
          · intro w' hS
            obtain ⟨q1, q2⟩ := hS
            first | (go_simp; done) | (go_simp; rfl) | rfl
          go_frame
          apply sig_still (o := ⟨some 18, _, _, _, _, _⟩) rfl rfl
          · intro w' hS
            obtain ⟨q1, q2⟩ := hS
            first | (go_simp; done) | (go_simp; rfl) | rfl
          go_frame
          apply sig_still (o := ⟨some 19, _, _, _, _, _⟩) rfl rfl
          · intro w' hS
            obtain ⟨q1, q2⟩ := hS
            first | (go_simp; done) | (go_simp; rfl) | rfl
          go_frame
          apply sig_guard (o := ⟨some 20, _, _, _, _, _⟩) rfl (by rfl)
          · intro w' hS
            obtain ⟨q1, q2⟩ := hS
            first | (go_simp; done) | (go_simp; rfl) | rfl
          go_frame
          apply sig_guard (o := ⟨some 21, _, _, _, _, _⟩) rfl (by rfl)
          · intro w' hS
            obtain ⟨q1, q2⟩ := hS
            first | (go_simp; done) | (go_simp; rfl) | rfl
          go_frame
          apply sig_guard (o := ⟨some 22, _, _, _, _, _⟩) rfl (by rfl)
          · intro w' hS
            obtain ⟨q1, q2⟩ := hS
            first | (go_simp; done) | (go_simp; rfl) | rfl
          go_frame
          apply sig_guard (o := ⟨some 23, _, _, _, _, _⟩) rfl (by rfl)
          · intro w' hS
            obtain ⟨q1, q2⟩ := hS
            first | (go_simp; done) | (go_simp; rfl) | rfl
          go_frame
          apply sig_guard (o := ⟨some 24, _, _, _, _, _⟩) rfl (by rfl)
          · intro w' hS
            obtain ⟨q1, q2⟩ := hS
            first | (go_simp; done) | (go_simp; rfl) | rfl
          go_frame
          apply sig_guard (o := ⟨some 25, _, _, _, _, _⟩) rfl (by rfl)
          · intro w' hS
            obtain ⟨q1, q2⟩ := hS
            first | (go_simp; done) | (go_simp; rfl) | rfl
          go_frame
          apply sig_guard (o := ⟨some 26, _, _, _, _, _⟩) rfl (by rfl)
          · intro w' hS
            obtain ⟨q1, q2⟩ := hS
            first | (go_simp; done) | (go_simp; rfl) | rfl
          go_frame
          apply sig_guard (o := ⟨some 27, _, _, _, _, _⟩) rfl (by rfl)
          · intro w' hS
            obtain ⟨q1, q2⟩ := hS
            first | (go_simp; done) | (go_simp; rfl) | rfl
          go_frame
          apply sig_guard (o := ⟨some 28, _, _, _, _, _⟩) rfl (by rfl)
          · intro w' hS
            obtain ⟨q1, q2⟩ := hS
            first | (go_simp; done) | (go_simp; rfl) | rfl
          go_frame
          refine sig_effg (o := ⟨some 29, _, _, _, _, _⟩) rfl (by rfl) (fun K hKe => ?_)
          go_wp2_with fail
          refine (hless _).mono ?_
          rintro e X ⟨rfl, rfl⟩
          go_wp2_with fail
          refine ⟨fun _ => ⟨hc0, hc1⟩, ?_⟩
          apply sig_still (o := ⟨some 30, _, _, _, _, _⟩) rfl rfl
          · intro w' hS
            obtain ⟨q1, q2⟩ := hS
            first | (go_simp; done) | (go_simp; rfl) | rfl
          go_frame
          refine sig_nil ?_
          cases hl : ltN x y with
          | false =>
            rw [hl] at HT
            have hT := HT.out
            simp only [Bool.false_eq_true, if_false] at hT
            subst hT
            go_wp2_with fail
            go_roundw
            case rel => exact ⟨i + 1, F, by go_num, by omega, hE, hFs, HO.out, HK.out.drew, hsz⟩
            case measure => simp [intOf]; omega
          | true =>
            rw [hl, if_pos rfl] at HT
            go_wp2_with fail
            refine wp_region_tree (fun _ => True) (fun j => decide (j ≤ 99)) (.st 0 (.st 1 (.st 2 (.st 3 (.st 4 (.st 5 (.st 6 (.st 7 (.st 8 (.st 10 (.st 11 (.st 12 (.br 9 13 (.ef 13 (.st 14 (.ef 15 (.st 16 (.ef 17 .nil))))) (.ef 9 (.st 14 (.ef 15 (.st 16 (.ef 17 .nil)))))))))))))))))) (by kernel_rfl) (by kernel_rfl) (by intro c a d v w h; cases d <;> exact h) trivial ?_
            apply tr_still (o := ⟨some 33, _, _, _, _, _⟩) rfl rfl
            · intro w' hS
              first | (go_simp; done) | (go_simp; rfl) | rfl
            go_frame
            apply tr_still (o := ⟨some 34, _, _, _, _, _⟩) rfl rfl
            · intro w' hS
              first | (go_simp; done) | (go_simp; rfl) | rfl
            go_frame
            apply tr_still (o := ⟨some 35, _, _, _, _, _⟩) rfl rfl
            · intro w' hS
              first | (go_simp; done) | (go_simp; rfl) | rfl
            go_frame
            apply tr_still (o := ⟨some 36, _, _, _, _, _⟩) rfl rfl
            · intro w' hS
              first | (go_simp; done) | (go_simp; rfl) | rfl
            go_frame
            apply tr_still (o := ⟨some 37, _, _, _, _, _⟩) rfl rfl
            · intro w' hS
              first | (go_simp; done) | (go_simp; rfl) | rfl
            go_frame
            apply tr_still (o := ⟨some 38, _, _, _, _, _⟩) rfl rfl
            · intro w' hS
              first | (go_simp; done) | (go_simp; rfl) | rfl
            go_frame
            apply tr_still (o := ⟨some 39, _, _, _, _, _⟩) rfl rfl
            · intro w' hS
              first | (go_simp; done) | (go_simp; rfl) | rfl
            go_frame
            apply tr_still (o := ⟨some 40, _, _, _, _, _⟩) rfl rfl
            · intro w' hS
              first | (go_simp; done) | (go_simp; rfl) | rfl
            go_frame
            apply tr_still (o := ⟨some 41, _, _, _, _, _⟩) rfl rfl
            · intro w' hS
              first | (go_simp; done) | (go_simp; rfl) | rfl
            go_frame
            apply tr_still (o := ⟨some 43, _, _, _, _, _⟩) rfl rfl
            · intro w' hS
              first | (go_simp; done) | (go_simp; rfl) | rfl
            go_frame
            apply tr_still (o := ⟨some 44, _, _, _, _, _⟩) rfl rfl
            · intro w' hS
              first | (go_simp; done) | (go_simp; rfl) | rfl
            go_frame
            apply tr_still (o := ⟨some 45, _, _, _, _, _⟩) rfl rfl
            · intro w' hS
              first | (go_simp; done) | (go_simp; rfl) | rfl
            go_frame
            refine tr_br (o := ⟨some 42, _, _, _, _, _⟩) (o' := ⟨some 46, _, _, _, _, _⟩) rfl rfl rfl rfl (fun K hKe => ?_) (fun K hKe => ?_)
            · go_wp2_with fail
              refine ⟨fun _ => trivial, ?_⟩
              refine tr_eff (o := ⟨some 46, _, _, _, _, _⟩) rfl rfl (fun K hKe => ?_)
              go_wp2_with fail
              refine ⟨fun _ => trivial, ?_⟩
              apply tr_still (o := ⟨some 47, _, _, _, _, _⟩) rfl rfl
              · intro w' hS
                first | (go_simp; done) | (go_simp; rfl) | rfl
              go_frame
              refine tr_eff (o := ⟨none, _, _, _, _, _⟩) rfl rfl (fun K hKe => ?_)
              go_wp2_with fail
              refine ⟨fun _ => trivial, ?_⟩
              apply tr_still (o := ⟨some 48, _, _, _, _, _⟩) rfl rfl
              · intro w' hS
                first | (go_simp; done) | (go_simp; rfl) | rfl
              go_frame
              have hc1' : (wr.setCell ⟨g, k, none⟩ (.int .u64 (y : Int))).cell? ⟨g, j, none⟩ = some (.int .u64 (y : Int)) := (World.cell?_setCell_other wr ⟨g, k, none⟩ ⟨g, j, none⟩ _ (fun e => hne (congrArg Addr.off e))).trans hc1
              refine tr_eff (o := ⟨none, _, _, _, _, _⟩) rfl rfl (fun K hKe => ?_)
              go_wp2_with fail
              refine ⟨fun _ => trivial, tr_nil ?_⟩
              go_wp2_with fail
              go_roundw
              case rel => exact ⟨j, _, by go_num, hki, HT.out, hss.trans hFs, hsw, hkw.drew.drew, hsz2⟩
              case measure => simp [intOf]; omega
            · go_wp2_with fail
              refine ⟨fun _ => trivial, ?_⟩
              refine tr_eff (o := ⟨some 42, _, _, _, _, _⟩) rfl rfl (fun K hKe => ?_)
              go_wp2_with fail
              refine ⟨fun _ => trivial, ?_⟩
              apply tr_still (o := ⟨some 47, _, _, _, _, _⟩) rfl rfl
              · intro w' hS
                first | (go_simp; done) | (go_simp; rfl) | rfl
              go_frame
              refine tr_eff (o := ⟨none, _, _, _, _, _⟩) rfl rfl (fun K hKe => ?_)
              go_wp2_with fail
              refine ⟨fun _ => trivial, ?_⟩
              apply tr_still (o := ⟨some 48, _, _, _, _, _⟩) rfl rfl
              · intro w' hS
                first | (go_simp; done) | (go_simp; rfl) | rfl
              go_frame
              have hc1' : (wr.setCell ⟨g, k, none⟩ (.int .u64 (y : Int))).cell? ⟨g, j, none⟩ = some (.int .u64 (y : Int)) := (World.cell?_setCell_other wr ⟨g, k, none⟩ ⟨g, j, none⟩ _ (fun e => hne (congrArg Addr.off e))).trans hc1
              refine tr_eff (o := ⟨none, _, _, _, _, _⟩) rfl rfl (fun K hKe => ?_)
              go_wp2_with fail
              refine ⟨fun _ => trivial, tr_nil ?_⟩
              go_wp2_with fail
              go_roundw
              case rel => exact ⟨j, _, by go_num, hki, HT.out, hss.trans hFs, hsw, hkw.drew.drew, hsz2⟩
              case measure => simp [intOf]; omega
    · rw [if_neg (by omega)] at hE
      subst hE
      have hiz : (n : Int) ≤ (i : Int) := by omega
      go_wp2_with fail
      go_end0
      exact ⟨rfl, hO, hk, hsz⟩
end
end Go.Proofs.YthfekjnekaecaaaDoor
namespace Go.Proofs.YthfekjnekaecaaaDoor
open Go.RowKit Go.Dm Go.Dm.Oc

theorem o_info : (Tryd.prog.info? 5).map (fun i => (i.zero, i.size, i.bytes)) = some (some (.int .u8 0), 1, 1) := by kernel_rfl
section
variable {A : Nat → Prop} {w : World}
/-- bytes with a number -/
def setX (b : List UInt8) (at_ : Nat) (n : Int) (x : Nat) : List UInt8 := setR b at_ (le n.toNat x)
end
end Go.Proofs.YthfekjnekaecaaaDoor
namespace Go.Dm.Vm
open Go Go.Proofs.YthfekjnekaecaaaDoor Go.Dm.Oc
theorem num_parts {m : V} {addr : Nat} {n : Int} {what : Nat} (h : numE m addr n what = 0) : (n = 1 ∨ n = 2 ∨ n = 4 ∨ n = 8) ∧ heldE m addr n.toNat = 0 ∧ allowedE m addr n.toNat what = 0 := by
  unfold numE at h
  split at h
  · rename_i hn
    split at h
    · rename_i hh
      exact ⟨hn, hh, h⟩
    · rename_i hh
      exact absurd h hh
  · cases h
theorem dirt_ok (p : Pg) (h : PgOk p) : PgOk (dirt p) := ⟨h.al, h.lt, h.pr, h.bl, h.ol, h.fl⟩
end Go.Dm.Vm
namespace Go.Proofs.YthfekjnekaecaaaDoor
open Go.RowKit Go.Dm Go.Dm.Vm Go.Maps Go.Dm.Oc

section
variable {A : Nat → Prop} {w : World} {d mb x y : Nat} {f : Nat → Nat} {m : V}
theorem World.ownsRow.base_le {base base' : Nat} {e : TypeId} {size : Nat} {v : Value} {k : Nat} {xs : List Value} (h : w.ownsRow base e size v k xs) (hb : base' ≤ base) : w.ownsRow base' e size v k xs := by
  refine ⟨h.1, h.2.imp id ?_⟩
  rintro ⟨g, cap, cur, rfl, a, b, r⟩
  exact ⟨g, cap, cur, rfl, Nat.le_trans hb a, b, r⟩
theorem SRep.no (h : SRep A w d m mb f) (hA : ∀ k, A k → k < w.heap.size) {w' : World} (hk : Keep No w w') : SRep A w' d m mb f := h.same fun j hj => hk.block j (hA j hj) fun h => h
set_option maxRecDepth 100000 in
set_option maxHeartbeats 2000000 in
theorem vpeek_any (addr size : Nat) (ha : addr < 18446744073709551616) (hs : size < 18446744073709551616) (h : SRep A w d m mb f) (hA : ∀ k, A k → k < w.heap.size) :
    Calls Tryd.prog 58 #[ptrTo d, .int .u64 (addr : Int), .int .u64 (size : Int)] w fun e w' => ∃ v', e = .returned (.tuple #[v', .int .i64 (peekE m addr size : Nat)]) ∧ w'.ownsRow w.heap.size 5 1 v' (peekB m addr size).length ((peekB m addr size).map bv) ∧ Keep No w w' := by
  have hx : peekB m addr size = if size = 0 then [] else if Vm.heldE m addr size = 0 then readB m addr size else [] := rfl
  have hy : peekE m addr size = if size = 0 then 0 else Vm.heldE m addr size := rfl
  generalize peekB m addr size = X at *
  generalize peekE m addr size = Y at *
  by_cases h0 : size = 0
  · subst h0
    rw [if_pos rfl] at hx hy
    subst hx hy
    unfold ptrTo
    go_enter Tryd.func58, Tryd.ntmps58
    go_wp2_with fail
    go_ret2
    exact ⟨_, rfl, World.ownsRow_nil _ _ _ _, Keep.refl _ _⟩
  · rw [if_neg h0] at hx hy
    have hheld := vheld_any (w := w) addr size (by omega) ha hs h hA
    have hp := @held_parts m addr size
    have hne0 : (size : Int) ≠ 0 := by omega
    have hne1 : ((size : Int) == 0) = false := by simpa using h0
    generalize Vm.heldE m addr size = er at *
    subst hy
    have HX := Lib.hid hx
    clear hx
    unfold ptrTo at *
    go_enter Tryd.func58, Tryd.ntmps58
    go_wp2_with fail
    refine hheld.mono ?_
    rintro e W ⟨rfl, hk⟩
    by_cases he : Y = 0
    · subst he
      rw [if_pos rfl] at HX
      obtain ⟨q1, q2, q3, q4⟩ := hp rfl
      clear hheld hp
      have hrd := vread_any (w := W) addr size q1 q2 (by omega) q4 (h.no hA hk) (fun j hj => Nat.lt_of_lt_of_le (hA j hj) hk.size)
      unfold ptrTo at hrd
      go_wp2_with fail
      refine hrd.mono ?_
      rintro e W2 ⟨v', rfl, ho, hk2⟩
      clear hrd
      go_wp2_with fail
      go_ret2
      rw [HX.out, readB_len]
      exact ⟨_, rfl, World.ownsRow.base_le ho hk.size, hk.trans' hk2⟩
    · rw [if_neg he] at HX
      have hne : (Y : Int) ≠ 0 := by omega
      clear hp hheld
      go_wp2_with fail
      go_ret2
      rw [HX.out]
      exact ⟨_, rfl, World.ownsRow_nil _ _ _ _, hk⟩
end
end Go.Proofs.YthfekjnekaecaaaDoor
namespace Go.Proofs.YthfekjnekaecaaaDoor
open Go.RowKit Go.Dm Go.Dm.Vm Go.Maps Go.Dm.Oc Go.WideMaps Go.WideElems

section
variable {A : Nat → Prop} {w : World} {d mb x y : Nat} {f : Nat → Nat} {m : V}
/-- a page is made another -/
theorem SRep.upd {w' : World} {g : Pg → Pg} (hg : ∀ p, (g p).addr = p.addr) (hok : ∀ p, PgOk p → PgOk (g p)) (h : SRep A w d m mb f) {p : Pg} {a : Nat} (hat : pageAt m a = some p) (hk : Keep (fun j => j = f p.addr) w w') (hB2 : Blk w' (f p.addr) (pgC (g p)) 125) :
    SRep A w' d (Vm.upd m a g) mb f := by
  obtain ⟨hpm, hpa⟩ := get_mem hat
  have hB := (h.pg p hpm).2
  have hdne : d ≠ f p.addr := fun e => by
    have h1 := h.blk
    rw [e] at h1
    unfold Blk at h1 hB
    rw [hB] at h1
    simp at h1
  refine ⟨h.blk.keep hk hdne, ?_, fun q hq => ?_, fun q hq q' hq' e => ?_, upd_ok h.ok hg hok a, h.Ad, h.Am⟩
  · have e : VL f (Vm.upd m a g) = VL f m := by
      unfold VL Vm.upd
      rw [List.map_map]
      apply List.map_congr_left
      intro q _
      simp only [Function.comp, upd_addr hg]
    rw [e]
    exact h.mp.keep hk (h.mp.ne_blk hB)
  · obtain ⟨q, hqm, rfl⟩ := List.mem_map.1 hq
    rw [upd_addr hg]
    refine ⟨(h.pg q hqm).1, ?_⟩
    by_cases e : q.addr = a
    · have eq : q = p := by
        have h1 := get_of_mem h.ok.srt hqm
        rw [e, hat] at h1
        exact (Option.some.inj h1).symm
      subst eq
      rw [if_pos e]
      exact hB2
    · rw [if_neg e]
      refine (h.pg q hqm).2.keep hk fun e2 => e ?_
      rw [h.inj q hqm p hpm e2]; exact hpa
  · obtain ⟨q, hqm, rfl⟩ := List.mem_map.1 hq
    obtain ⟨q', hqm', rfl⟩ := List.mem_map.1 hq'
    rw [upd_addr hg, upd_addr hg] at e ⊢
    exact h.inj q hqm q' hqm' e
theorem pgC_prot (p : Pg) (q : Nat) : (pgC p).setIfInBounds 0 (.int .i64 (q : Int)) = pgC { p with prot := q } := by
  apply Array.toList_inj.1
  rw [Array.toList_setIfInBounds]
  simp [pgC]
theorem pgC_dirt (p : Pg) : (pgC p).setIfInBounds 1 (.bool true) = pgC (dirt p) := by
  apply Array.toList_inj.1
  rw [Array.toList_setIfInBounds]
  simp [pgC, dirt]
theorem Enters.of1 {f : Nat} (h : ∀ a b : Value, Enters f #[a, b]) (b : Value) : ∀ a, Enters f (#[a] ++ #[b]) := fun a => h a b
theorem eraseL_VL (f : Nat → Nat) (m : V) (a : Nat) : eraseL (VL f m) (.int .u64 (a : Int)) = VL f (delP m a) := by
  unfold eraseL VL delP
  rw [List.filter_map]
  congr 1
  apply List.filter_congr
  intro p _
  simp only [Lit.sameKey, Function.comp]
  rw [Bool.eq_iff_iff]
  simp
  omega
theorem SRep.blk_ne (h : SRep A w d m mb f) {p : Pg} (hp : p ∈ m) : mb ≠ f p.addr := h.mp.ne_blk (h.pg p hp).2
/-- a page is gone -/
theorem SRep.del {w' : World} (h : SRep A w d m mb f) (a : Nat) (hm : MapL Tryd.prog 22 w' mb (eraseL (VL f m) (.int .u64 (a : Int)))) (hk : Keep (fun j => j = mb) w w') : SRep A w' d (delP m a) mb f := by
  rw [eraseL_VL] at hm
  have hsub : ∀ p ∈ delP m a, p ∈ m := fun p hp => (List.mem_filter.1 hp).1
  exact ⟨h.blk.keep hk (fun e => h.mp.ne_blk h.blk e.symm), hm, fun p hp => ⟨(h.pg p (hsub p hp)).1, (h.pg p (hsub p hp)).2.keep hk fun e => h.blk_ne (hsub p hp) e.symm⟩, fun p hp q hq => h.inj p (hsub p hp) q (hsub q hq), delP_ok h.ok a, h.Ad, h.Am⟩
/-- what is done page by page, over a span that is there -/
theorem each_upd {g : Pg → Pg} {fn : Nat} {c : Array Value} (addr size : Nat) (hg : ∀ p, (g p).addr = p.addr) (hs : 0 < size) (ha : addr ≤ top) (hz : size ≤ top - addr) (hth : there m addr size = true) (hent : ∀ a, Enters fn (#[a] ++ c)) (h : SRep A w d m mb f) (C : World → Prop) (hC : ∀ w' p, p ∈ m → Keep A w w' → C w' → ∀ w'', Keep (fun j => j = f p.addr) w' w'' → C w'') (hC0 : C w)
    (hstep : ∀ a p m' w', a < 18446744073709551616 → SRep A w' d m' mb f → pageAt m' a = some p → C w' → Calls Tryd.prog fn (#[.int .u64 (a : Int)] ++ c) w' fun e w'' => e = .returned (.int .i64 0) ∧ SRep A w'' d (Vm.upd m' a g) mb f ∧ Keep (fun j => j = f p.addr) w' w'') :
    Calls Tryd.prog 53 #[.int .u64 (addr : Int), .int .u64 (size : Int), .func (.func fn) #[] c] w fun e w' => e = .returned (.int .i64 0) ∧ SRep A w' d (updN g m (pageOf addr) (pagesN addr size)) mb f ∧ Keep A w w' := by
  refine (veach_any addr size (fun k w' => SRep A w' d (updN g m (pageOf addr) k) mb f ∧ Keep A w w' ∧ C w') (fun _ _ => False) hs ha hz hent ⟨h, Keep.refl _ _, hC0⟩ ?_).mono ?_
  · rintro k w' hk ⟨hR, hK, hCk⟩
    have hpl := pageOf_le addr
    have hiff := (pages_step addr size k hs).2 hk
    have ht : top = 4294967296 := rfl
    have hsome := (there_take m addr size).1 hth k hk
    rw [← pageAt_updN m hg (pageOf addr) _ k] at hsome
    obtain ⟨p, hp⟩ := Option.isSome_iff_exists.1 hsome
    refine (hstep _ p _ w' (by omega) hR hp hCk).mono ?_
    rintro e w2 ⟨rfl, hR2, hk2⟩
    obtain ⟨hpm, hpa⟩ := get_mem hp
    have hAp : A (f p.addr) := (hR.pg p hpm).1
    have hpm0 : ∃ q ∈ m, q.addr = p.addr := by
      rw [updN_eq m hg] at hpm
      obtain ⟨q, hq, e⟩ := List.mem_map.1 hpm
      refine ⟨q, hq, ?_⟩
      rw [← e]
      split
      · exact (hg q).symm
      · rfl
    obtain ⟨q, hq, eq⟩ := hpm0
    exact .inl ⟨rfl, hR2, hK.trans hk2 (fun j _ e => by rw [e]; exact hAp), hC w' q hq hK hCk w2 (by rw [eq]; exact hk2)⟩
  · rintro e w' (⟨rfl, hR, hK, _⟩ | ⟨_, _, _, hf⟩)
    · exact ⟨rfl, hR, hK⟩
    · exact hf.elim
theorem unmap_pages {addr size : Nat} (hm : Vm.may addr size 0 = true) : pagesN addr size = size / 256 ∧ pageOf addr = addr := may_pages hm
set_option maxRecDepth 100000 in
set_option maxHeartbeats 1000000 in
theorem vnew_any (w : World) : Calls Tryd.prog 28 #[] w fun e w' => ∃ mb d f, e = .returned (ptrTo d) ∧ SRep (fun k => w.heap.size ≤ k ∧ k < w'.heap.size) w' d [] mb f ∧ Keep No w w' := by
  have hmm := @run_makeMap
  go_enter Tryd.func28, Tryd.ntmps28
  go_wp2_with fail
  go_ret
  have m1 := MapL.made Tryd.prog 22 w
  have b2 := Blk.new (w.alloc (.map #[] 0)) #[.map (some w.heap.size)] 120
  simp only [World.size_alloc] at b2
  refine ⟨w.heap.size, w.heap.size + 1, fun _ => 0, rfl, ⟨b2, m1.same (Below.heap_alloc _ _ _ (by simp)), fun p hp => (by cases hp), fun p hp => (by cases hp), ⟨List.Pairwise.nil, fun p hp => (by cases hp), Nat.zero_le _⟩, ⟨by omega, by simp⟩, ⟨by omega, by simp; omega⟩⟩, ((Keep.refl _ _).alloc _).alloc _⟩
end
end Go.Proofs.YthfekjnekaecaaaDoor
