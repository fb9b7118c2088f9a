/- The disk by definition: lists, no program in sight (the document's chapter 10 as Lean functions). No condition. -/
import Derived.Test.YtkmoomgmmhmaeaaMem
namespace Go.Dm.Dk

/-- what waits: kind 1 a write, 2 a making, 3 a renaming, 4 a removing -/
structure Op where
  kind : Nat
  file : Nat
  at_ : Nat
  b : List UInt8
  frm : List UInt8
  to : List UInt8

abbrev Names := List (List UInt8 × Nat)
structure M where
  room : Nat
  is : List (List UInt8)
  sure : List (List UInt8)
  L : Names
  S : Names
  wait : List Op
  off : Bool
  cut : Nat

def new (room : Int) : M := ⟨room.toNat, [], [], [], [], [], false, 0⟩
def find (L : Names) (s : List UInt8) : Option Nat := (L.find? (fun p => p.1 == s)).map (·.2)
def without (L : Names) (s : List UInt8) : Names := L.filter (fun p => p.1 != s)
def withN (L : Names) (s : List UInt8) (i : Nat) : Names := without L s ++ [(s, i)]
def namesOp (L : Names) (o : Op) : Names :=
  if o.kind = 2 then withN L o.to o.file else if o.kind = 4 then without L o.frm else
  match find L o.frm with
  | none => L
  | some f => withN (without L o.frm) o.to f
def fileLen (is : List (List UInt8)) (i : Nat) : Nat := (is.getD i []).length
def used (m : M) : Nat := (m.L.map fun p => fileLen m.is p.2).sum
def putF (l : List (List UInt8)) (i : Nat) (s : List UInt8) : List (List UInt8) := l.set i s
/-- a pending operation is made, and done to things as they are -/
def waitD (m : M) (o : Op) : M :=
  if o.kind = 1 then { m with wait := m.wait ++ [o], is := putF m.is o.file (laidB (m.is.getD o.file []) o.at_ o.b) }
  else { m with wait := m.wait ++ [o], L := namesOp m.L o }
/-- one pending operation is done to what is sure, or left -/
def settle1 (sel : Bool) (o : Op) (m : M) : M :=
  if !sel then { m with wait := m.wait ++ [o] }
  else if o.kind = 1 then { m with sure := putF m.sure o.file (laidB (m.sure.getD o.file []) o.at_ o.b) }
  else { m with S := namesOp m.S o }
def settleGo (sel : Nat → Bool) : Nat → List Op → M → M
  | _, [], m => m
  | i, o :: r, m => settleGo sel (i + 1) r (settle1 (sel i) o m)
def settle (m : M) (sel : Nat → Bool) : M := settleGo sel 0 m.wait { m with wait := [] }

/-- own errors of the calls: 1 Create, 2 Write, 3 Sync, 4 Rename, 5 Remove, 6 SyncNames; 0: none -/
def own (m : M) (kind : Nat) (a b : List UInt8) (at_ : Int) (body : List UInt8) : Nat :=
  match kind with
  | 1 => if a = [] then 1 else if (find m.L a).isSome then 21 else 0
  | 2 => match find m.L a with
    | none => 20
    | some f => if at_ < 0 ∨ at_ > fileLen m.is f then 1
      else if at_.toNat + body.length > fileLen m.is f ∧ ((at_.toNat + body.length - fileLen m.is f : Nat) : Int) > (m.room : Int) - used m then 22 else 0
  | 3 => if (find m.L a).isSome then 0 else 20
  | 4 => if (find m.L a).isSome then (if b = [] then 1 else 0) else 20
  | 5 => if (find m.L a).isSome then 0 else 20
  | _ => 0
/-- the operation is done -/
def done (m : M) (kind : Nat) (a b : List UInt8) (at_ : Int) (body : List UInt8) : M :=
  match kind with
  | 1 => waitD { m with is := m.is ++ [[]], sure := m.sure ++ [[]] } ⟨2, m.is.length, 0, [], [], a⟩
  | 2 => waitD m ⟨1, (find m.L a).getD 0, at_.toNat, body, [], []⟩
  | 3 => settle m fun i => match m.wait[i]? with | some o => o.kind == 1 && o.file == (find m.L a).getD 0 | none => false
  | 4 => waitD m ⟨3, 0, 0, [], a, b⟩
  | 5 => waitD m ⟨4, 0, 0, [], a, []⟩
  | _ => settle m fun i => match m.wait[i]? with | some o => o.kind != 1 | none => false
/-- a call -/
def call (m : M) (kind : Nat) (a b : List UInt8) (at_ : Int) (body : List UInt8) : M × Nat :=
  if m.off then (m, 23)
  else if own m kind a b at_ body ≠ 0 then (m, own m kind a b at_ body)
  else if m.cut = 1 then ({ m with cut := 0, off := true }, 23)
  else (done { m with cut := m.cut - 1 } kind a b at_ body, 0)
def readE (m : M) (a : List UInt8) : Nat := if m.off then 23 else if (find m.L a).isSome then 0 else 20
def readB (m : M) (a : List UInt8) : List UInt8 := if m.off then [] else match find m.L a with | some f => m.is.getD f [] | none => []
def cutD (m : M) (steps : Int) : M := if m.off then m else { m with cut := steps.toNat }
def crash (m : M) (keep : List Bool) : M :=
  let s := settle m fun i => keep.getD i false
  { s with wait := [], off := false, cut := 0, L := s.S, is := s.sure }

/-- no number of it is too great -/
structure Fit (m : M) : Prop where
  wl : m.wait.length ≤ 1099511627776
  ll : m.L.length ≤ 1099511627776
  sl : m.S.length ≤ 1099511627776
  il : ∀ f, (m.is.getD f []).length ≤ 1099511627776
  ul : ∀ f, (m.sure.getD f []).length ≤ 1099511627776
  us : used m ≤ 4611686018427387904
  rm : m.room ≤ 9223372036854775807
  ct : m.cut ≤ 9223372036854775807
end Go.Dm.Dk
