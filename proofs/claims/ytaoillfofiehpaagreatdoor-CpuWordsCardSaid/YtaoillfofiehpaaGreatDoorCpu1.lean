/- A processor's step as plain functions: no program in sight (the document's chapters 12 and 14). A processor's step: that the two ways of reckoning make the same (plain numbers). The table of operations, as a list, and what a field's letter says. isa: the table of operations in memory (Tabs), the search in it (find). No condition. -/
import Derived.Test.YtaoillfofiehpaaGreatDoorVmS
import Derived.Laws.BitsAllLaws
import Derived.Test.YtaoillfofiehpaaGreatDoorBits
set_option linter.unusedVariables false
set_option linter.unusedSimpArgs false
namespace Go.Dm.Cp
open Go Go.Dm.Vm

structure Ins where
  op : Nat
  a : Nat
  b : Nat
  c : Nat
  imm : Int
/-- which fields an operation has: 1 A, 2 B, 4 C, 8 Imm -/
def hasM (op : Int) : Nat :=
  if op = 1 ∨ op = 40 then 0 else if op = 2 ∨ op = 37 then 3 else if op ≤ 15 then 7 else if op = 16 ∨ 20 ≤ op ∧ op ≤ 33 then 11
  else if op = 17 ∨ op = 18 ∨ op = 35 ∨ op = 38 ∨ op = 39 then 9 else if op = 34 ∨ op = 41 then 8 else 2
def isOp (op : Int) : Bool := decide (1 ≤ op ∧ op ≤ 41 ∧ op ≠ 19 ∧ op ≠ 28 ∧ op ≠ 29)
def fieldB (has : Nat) (x : Int) : Bool := !(has % 2 == 0 && x != 0) && decide (0 ≤ x ∧ x ≤ 31)
def immB (has : Nat) (x : Int) : Bool := !(has % 2 == 0 && x != 0)
/-- may an instruction be? (but for the size of its number) -/
def mayF (op a b c imm : Int) : Bool := isOp op && fieldB (hasM op) a && fieldB (hasM op / 2) b && fieldB (hasM op / 4) c && immB (hasM op / 8) imm
def mayB (op a b c imm : Int) : Bool := mayF op a b c imm && decide (-2147483648 ≤ imm ∧ imm ≤ 2147483647)
/-- a number as 32 bits -/
def u32 (x : Int) : Nat := (if x < 0 then x + 4294967296 else x).toNat
/-- 32 bits as a number -/
def s32 (x : Nat) : Int := if 2147483648 ≤ x then (x : Int) - 4294967296 else x
/-- a number as 64 bits -/
def u64 (x : Int) : Nat := (if x < 0 then x + 18446744073709551616 else x).toNat
def encM (op a b c imm : Int) : Nat := op.toNat + 256 * a.toNat + 8192 * b.toNat + 262144 * c.toNat + 4294967296 * u32 imm
def decI (w : Nat) : Ins := ⟨w % 256, w / 256 % 32, w / 8192 % 32, w / 262144 % 32, s32 (w / 4294967296)⟩
def decE (w : Nat) : Nat := let i := decI w; if mayB i.op i.a i.b i.c i.imm && (encM i.op i.a i.b i.c i.imm == w) then 0 else 42

structure St where
  r : List Nat
  pc : Nat
  tls : Nat
structure StOk (s : St) : Prop where
  len : s.r.length = 32
  lt : ∀ x ∈ s.r, x < 18446744073709551616
  pc : s.pc < 18446744073709551616
  tls : s.tls < 18446744073709551616
structure Out where
  kind : Nat
  err : Nat
  at_ : Nat
def St.reg (s : St) (k : Nat) : Nat := s.r.getD k 0
def St.put (s : St) (k x : Nat) : St := { s with r := s.r.set k x }
def St.go (s : St) (p : Nat) : St := { s with pc := p }
def add (x y : Nat) : Nat := (x + y) % 18446744073709551616
def belowM (x y : Nat) : Bool := if x / 9223372036854775808 ≠ y / 9223372036854775808 then x / 9223372036854775808 == 1 else decide (x < y)
def subM (b c : Nat) : Nat := if c ≤ b then b - c else 18446744073709551616 - (c - b)
def sarM (b p : Nat) : Nat := if b / 9223372036854775808 = 1 then 18446744073709551615 - (18446744073709551615 - b) / p else b / p
/-- what an operation (3 to 15) makes of two numbers -/
def ofM (op b c : Nat) : Nat :=
  match op with
  | 3 => (b + c) % 18446744073709551616
  | 4 => subM b c
  | 5 => b * c % 18446744073709551616
  | 6 => b / c
  | 7 => b % c
  | 8 => b &&& c
  | 9 => b ||| c
  | 10 => b ^^^ c
  | 11 => b * 2 ^ (c % 64) % 18446744073709551616
  | 12 => b / 2 ^ (c % 64)
  | 13 => sarM b (2 ^ (c % 64))
  | 14 => if belowM b c then 1 else 0
  | _ => if b < c then 1 else 0
theorem of3 (b c : Nat) : ofM 3 b c = (b + c) % 18446744073709551616 := by unfold ofM; rfl
theorem of4 (b c : Nat) : ofM 4 b c = subM b c := by unfold ofM; rfl
theorem of5 (b c : Nat) : ofM 5 b c = b * c % 18446744073709551616 := by unfold ofM; rfl
theorem of6 (b c : Nat) : ofM 6 b c = b / c := by unfold ofM; rfl
theorem of7 (b c : Nat) : ofM 7 b c = b % c := by unfold ofM; rfl
theorem of8 (b c : Nat) : ofM 8 b c = b &&& c := by unfold ofM; rfl
theorem of9 (b c : Nat) : ofM 9 b c = b ||| c := by unfold ofM; rfl
theorem of10 (b c : Nat) : ofM 10 b c = b ^^^ c := by unfold ofM; rfl
theorem of11 (b c : Nat) : ofM 11 b c = b * 2 ^ (c % 64) % 18446744073709551616 := by unfold ofM; rfl
theorem of12 (b c : Nat) : ofM 12 b c = b / 2 ^ (c % 64) := by unfold ofM; rfl
theorem of13 (b c : Nat) : ofM 13 b c = sarM b (2 ^ (c % 64)) := by unfold ofM; rfl
theorem of14 (b c : Nat) : ofM 14 b c = if belowM b c then 1 else 0 := by unfold ofM; rfl
theorem of15 (b c : Nat) : ofM 15 b c = if b < c then 1 else 0 := by unfold ofM; rfl
def jumpsM (op a b : Nat) : Bool :=
  match op with
  | 30 => a == b
  | 31 => !(a == b)
  | 32 => belowM a b
  | _ => decide (a < b)
def wid (k : Nat) : Nat := 2 ^ k
def doM (s : St) (m : V) (i : Ins) : St × V × Out :=
  let n := s.go (add s.pc 8)
  let imm := u64 i.imm
  let b := s.reg i.b
  let c := s.reg i.c
  let a := s.reg i.a
  let op := i.op
  if op = 2 then (n.put i.a b, m, ⟨0, 0, 0⟩)
  else if 3 ≤ op ∧ op ≤ 15 then if (op = 6 ∨ op = 7) ∧ c = 0 then (s, m, ⟨3, 43, s.pc⟩) else (n.put i.a (ofM op b c), m, ⟨0, 0, 0⟩)
  else if op = 16 then (n.put i.a (add b imm), m, ⟨0, 0, 0⟩)
  else if op = 17 then (n.put i.a imm, m, ⟨0, 0, 0⟩)
  else if op = 18 then (n.put i.a (a % 4294967296 + imm % 4294967296 * 4294967296), m, ⟨0, 0, 0⟩)
  else if 20 ≤ op ∧ op ≤ 23 then if loadE m (add b imm) (wid (op - 20) : Nat) = 0 then (n.put i.a (loadX m (add b imm) (wid (op - 20) : Nat)), m, ⟨0, 0, 0⟩) else (s, m, ⟨3, loadE m (add b imm) (wid (op - 20) : Nat), add b imm⟩)
  else if 24 ≤ op ∧ op ≤ 27 then if numE m (add b imm) (wid (op - 24) : Nat) 2 = 0 then (n, storeV m (add b imm) (wid (op - 24) : Nat) a, ⟨0, 0, 0⟩) else (s, m, ⟨3, numE m (add b imm) (wid (op - 24) : Nat) 2, add b imm⟩)
  else if 30 ≤ op ∧ op ≤ 33 then (if jumpsM op a b then n.go (add s.pc imm) else n, m, ⟨0, 0, 0⟩)
  else if op = 34 then (n.go (add s.pc imm), m, ⟨0, 0, 0⟩)
  else if op = 35 then ((n.put i.a (add s.pc 8)).go (add s.pc imm), m, ⟨0, 0, 0⟩)
  else if op = 36 then (n.go b, m, ⟨0, 0, 0⟩)
  else if op = 37 then ((n.put i.a (add s.pc 8)).go b, m, ⟨0, 0, 0⟩)
  else if op = 38 then (n.put i.a (add s.pc imm), m, ⟨0, 0, 0⟩)
  else if op = 39 then (n.put i.a (add s.tls imm), m, ⟨0, 0, 0⟩)
  else if op = 40 then (n, m, ⟨1, 0, 0⟩)
  else if op = 41 then (n, m, ⟨2, 0, imm⟩)
  else (n, m, ⟨0, 0, 0⟩)
def stepM (s : St) (m : V) : St × V × Out :=
  if fetchE m s.pc = 0 then
    if decE (fetchX m s.pc) = 0 then doM s m (decI (fetchX m s.pc)) else (s, m, ⟨3, 42, s.pc⟩)
  else (s, m, ⟨3, fetchE m s.pc, s.pc⟩)

theorem add_lt (x y : Nat) : add x y < 18446744073709551616 := Nat.mod_lt _ (by decide)
theorem u64_lt {x : Int} (h : -2147483648 ≤ x) (h2 : x ≤ 2147483647) : u64 x < 18446744073709551616 := by unfold u64; split <;> omega
theorem s32_lo (x : Nat) (h : x < 4294967296) : -2147483648 ≤ s32 x ∧ s32 x ≤ 2147483647 := by unfold s32; split <;> omega
theorem u32_s32 (x : Nat) (h : x < 4294967296) : u32 (s32 x) = x := by unfold u32 s32; split <;> split <;> omega
theorem two_pos (k : Nat) : 0 < 2 ^ k := Nat.pos_of_ne_zero (by simp)
theorem sub_lt' {b c : Nat} (hb : b < 18446744073709551616) (_hc : c < 18446744073709551616) : subM b c < 18446744073709551616 := by
  unfold subM; split <;> omega
theorem sar_lt {b p : Nat} (hb : b < 18446744073709551616) : sarM b p < 18446744073709551616 := by
  unfold sarM
  split
  · exact Nat.lt_of_le_of_lt (Nat.sub_le _ _) (by decide)
  · exact Nat.lt_of_le_of_lt (Nat.div_le_self _ _) hb
theorem of_lt {op b c : Nat} (ho : 3 ≤ op ∧ op ≤ 15) (hb : b < 18446744073709551616) (hc : c < 18446744073709551616) : ofM op b c < 18446744073709551616 := by
  have hop : op = 3 ∨ op = 4 ∨ op = 5 ∨ op = 6 ∨ op = 7 ∨ op = 8 ∨ op = 9 ∨ op = 10 ∨ op = 11 ∨ op = 12 ∨ op = 13 ∨ op = 14 ∨ op = 15 := by omega
  rcases hop with rfl | rfl | rfl | rfl | rfl | rfl | rfl | rfl | rfl | rfl | rfl | rfl | rfl
  · rw [of3]; exact Nat.mod_lt _ (by decide)
  · rw [of4]; exact sub_lt' hb hc
  · rw [of5]; exact Nat.mod_lt _ (by decide)
  · rw [of6]; exact Nat.lt_of_le_of_lt (Nat.div_le_self _ _) hb
  · rw [of7]; exact Nat.lt_of_le_of_lt (Nat.mod_le _ _) hb
  · rw [of8]; exact Nat.lt_of_le_of_lt Nat.and_le_left hb
  · rw [of9]; exact Nat.or_lt_two_pow (n := 64) hb hc
  · rw [of10]; exact Nat.xor_lt_two_pow (n := 64) hb hc
  · rw [of11]; exact Nat.mod_lt _ (by decide)
  · rw [of12]; exact Nat.lt_of_le_of_lt (Nat.div_le_self _ _) hb
  · rw [of13]; exact sar_lt hb
  · rw [of14]; split <;> decide
  · rw [of15]; split <;> decide
theorem StOk.reg {s : St} (h : StOk s) (k : Nat) : s.reg k < 18446744073709551616 := by
  unfold St.reg
  rw [List.getD_eq_getElem?_getD]
  cases hg : s.r[k]? with
  | none => decide
  | some v => exact h.lt v (List.mem_of_getElem? hg)
theorem StOk.put {s : St} (h : StOk s) (k : Nat) {x : Nat} (hx : x < 18446744073709551616) : StOk (s.put k x) where
  len := by unfold St.put; simp [h.len]
  lt := fun y hy => by
    rcases List.mem_or_eq_of_mem_set hy with h1 | rfl
    · exact h.lt y h1
    · exact hx
  pc := h.pc
  tls := h.tls
theorem StOk.go {s : St} (h : StOk s) {p : Nat} (hp : p < 18446744073709551616) : StOk (s.go p) := ⟨h.len, h.lt, hp, h.tls⟩
end Go.Dm.Cp
namespace Go.Dm.Cp
open Go Go.Dm.Vm
theorem or_join (x y k : Nat) (h : x < 2 ^ k) : x ||| y * 2 ^ k = x + y * 2 ^ k := by
  rw [Nat.or_comm, Go.nat_join k (y * 2 ^ k) x (Nat.mul_mod_left _ _) h, Nat.add_comm]
theorem orE {op a b c u : Nat} (h0 : op < 256) (ha : a < 32) (hb : b < 32) (hc : c < 32) :
    (((op ||| a * 256) ||| b * 8192) ||| c * 262144) ||| u * 4294967296 = op + 256 * a + 8192 * b + 262144 * c + 4294967296 * u := by
  rw [or_join op a 8 (by omega), or_join (op + a * 2 ^ 8) b 13 (by omega), or_join (op + a * 2 ^ 8 + b * 2 ^ 13) c 18 (by omega), or_join (op + a * 2 ^ 8 + b * 2 ^ 13 + c * 2 ^ 18) u 32 (by omega)]
  omega
/-- the words and the fields -/
def fieldsL (op : Int) : List UInt8 := (if hasM op % 2 = 1 then [97] else []) ++ (if hasM op / 2 % 2 = 1 then [98] else []) ++ (if hasM op / 4 % 2 = 1 then [99] else []) ++ (if hasM op / 8 % 2 = 1 then [105] else [])
theorem dec_may_imm (w : Nat) (h : w < 18446744073709551616) : -2147483648 ≤ (decI w).imm ∧ (decI w).imm ≤ 2147483647 := s32_lo _ (by omega)
theorem dec_fits (w : Nat) : (decI w).op < 256 ∧ (decI w).a < 32 ∧ (decI w).b < 32 ∧ (decI w).c < 32 := ⟨Nat.mod_lt _ (by decide), Nat.mod_lt _ (by decide), Nat.mod_lt _ (by decide), Nat.mod_lt _ (by decide)⟩
theorem may_eq {op a b c imm : Int} (h : -2147483648 ≤ imm ∧ imm ≤ 2147483647) : mayB op a b c imm = mayF op a b c imm := by
  unfold mayB
  rw [decide_eq_true h, Bool.and_true]
theorem may_op {op a b c imm : Int} (h : mayF op a b c imm = true) : isOp op = true ∧ (0 ≤ a ∧ a ≤ 31) ∧ (0 ≤ b ∧ b ≤ 31) ∧ (0 ≤ c ∧ c ≤ 31) := by
  unfold mayF fieldB at h
  simp only [Bool.and_eq_true, decide_eq_true_eq] at h
  exact ⟨h.1.1.1.1, h.1.1.1.2.2, h.1.1.2.2, h.1.2.2⟩
/-- an arithmetic shift to the right -/
theorem sar_eq (b k : Nat) (hb : b < 18446744073709551616) (h1 : b / 9223372036854775808 = 1) :
    (((b : Int) - 18446744073709551616) / (2 ^ k : Nat)) % 18446744073709551616 = ((18446744073709551615 - (18446744073709551615 - b) / 2 ^ k : Nat) : Int) := by
  have hp := two_pos k
  generalize 2 ^ k = p at *
  have hd : (18446744073709551615 - b) / p ≤ 18446744073709551615 - b := Nat.div_le_self _ _
  have e : ((b : Int) - 18446744073709551616) / (p : Int) = -1 - (((18446744073709551615 - b) / p : Nat) : Int) := by
    have h2 := Nat.div_add_mod (18446744073709551615 - b) p
    have h3 := Nat.mod_lt (18446744073709551615 - b) hp
    generalize (18446744073709551615 - b) / p = q at *
    generalize (18446744073709551615 - b) % p = r at *
    have e2 : (b : Int) - 18446744073709551616 = (p - 1 - r : Int) + (p : Int) * (-1 - (q : Int)) := by
      have h4 : ((p * q + r : Nat) : Int) = 18446744073709551615 - (b : Int) := by omega
      rw [Int.natCast_add, Int.natCast_mul] at h4
      rw [Int.mul_sub, Int.mul_neg, Int.mul_one]
      omega
    rw [e2, Int.add_mul_ediv_left _ _ (by omega), Int.ediv_eq_zero_of_lt (by omega) (by omega)]
    omega
  rw [e]
  generalize (18446744073709551615 - b) / p = q at *
  omega
/-- signed below -/
theorem below_eq (x y : Nat) (hx : x < 18446744073709551616) (hy : y < 18446744073709551616) :
    belowM x y = decide ((if x < 9223372036854775808 then (x : Int) else (x : Int) - 18446744073709551616) < (if y < 9223372036854775808 then (y : Int) else (y : Int) - 18446744073709551616)) := by
  unfold belowM
  rw [Bool.eq_iff_iff]
  split
  · rw [decide_eq_true_eq, beq_iff_eq]
    split <;> split <;> omega
  · rw [decide_eq_true_eq, decide_eq_true_eq]
    split <;> split <;> omega
theorem mod_eq (b c : Nat) : b - b / c * c = b % c := by
  have := Nat.div_add_mod b c
  rw [Nat.mul_comm] at this
  omega
theorem movhi_or (a u : Nat) : a % 4294967296 ||| u * 4294967296 = a % 4294967296 + u * 4294967296 := or_join (a % 4294967296) u 32 (Nat.mod_lt _ (by decide))
theorem do_1 (s : St) (m : V) (a b c : Nat) (imm : Int) : doM s m ⟨1, a, b, c, imm⟩ = ((s.go (add s.pc 8)), m, ⟨0, 0, 0⟩) := by
  unfold doM
  dsimp only
  repeat (first | rw [if_pos (by decide)] | rw [if_neg (by decide)])
theorem do_2 (s : St) (m : V) (a b c : Nat) (imm : Int) : doM s m ⟨2, a, b, c, imm⟩ = ((s.go (add s.pc 8)).put a (s.reg b), m, ⟨0, 0, 0⟩) := by
  unfold doM
  dsimp only
  repeat (first | rw [if_pos (by decide)] | rw [if_neg (by decide)])
theorem do_16 (s : St) (m : V) (a b c : Nat) (imm : Int) : doM s m ⟨16, a, b, c, imm⟩ = ((s.go (add s.pc 8)).put a (add (s.reg b) (u64 imm)), m, ⟨0, 0, 0⟩) := by
  unfold doM
  dsimp only
  repeat (first | rw [if_pos (by decide)] | rw [if_neg (by decide)])
theorem do_17 (s : St) (m : V) (a b c : Nat) (imm : Int) : doM s m ⟨17, a, b, c, imm⟩ = ((s.go (add s.pc 8)).put a (u64 imm), m, ⟨0, 0, 0⟩) := by
  unfold doM
  dsimp only
  repeat (first | rw [if_pos (by decide)] | rw [if_neg (by decide)])
theorem do_18 (s : St) (m : V) (a b c : Nat) (imm : Int) : doM s m ⟨18, a, b, c, imm⟩ = ((s.go (add s.pc 8)).put a (s.reg a % 4294967296 + u64 imm % 4294967296 * 4294967296), m, ⟨0, 0, 0⟩) := by
  unfold doM
  dsimp only
  repeat (first | rw [if_pos (by decide)] | rw [if_neg (by decide)])
theorem do_34 (s : St) (m : V) (a b c : Nat) (imm : Int) : doM s m ⟨34, a, b, c, imm⟩ = ((s.go (add s.pc 8)).go (add s.pc (u64 imm)), m, ⟨0, 0, 0⟩) := by
  unfold doM
  dsimp only
  repeat (first | rw [if_pos (by decide)] | rw [if_neg (by decide)])
theorem do_35 (s : St) (m : V) (a b c : Nat) (imm : Int) : doM s m ⟨35, a, b, c, imm⟩ = (((s.go (add s.pc 8)).put a (add s.pc 8)).go (add s.pc (u64 imm)), m, ⟨0, 0, 0⟩) := by
  unfold doM
  dsimp only
  repeat (first | rw [if_pos (by decide)] | rw [if_neg (by decide)])
theorem do_36 (s : St) (m : V) (a b c : Nat) (imm : Int) : doM s m ⟨36, a, b, c, imm⟩ = ((s.go (add s.pc 8)).go (s.reg b), m, ⟨0, 0, 0⟩) := by
  unfold doM
  dsimp only
  repeat (first | rw [if_pos (by decide)] | rw [if_neg (by decide)])
theorem do_37 (s : St) (m : V) (a b c : Nat) (imm : Int) : doM s m ⟨37, a, b, c, imm⟩ = (((s.go (add s.pc 8)).put a (add s.pc 8)).go (s.reg b), m, ⟨0, 0, 0⟩) := by
  unfold doM
  dsimp only
  repeat (first | rw [if_pos (by decide)] | rw [if_neg (by decide)])
theorem do_38 (s : St) (m : V) (a b c : Nat) (imm : Int) : doM s m ⟨38, a, b, c, imm⟩ = ((s.go (add s.pc 8)).put a (add s.pc (u64 imm)), m, ⟨0, 0, 0⟩) := by
  unfold doM
  dsimp only
  repeat (first | rw [if_pos (by decide)] | rw [if_neg (by decide)])
theorem do_39 (s : St) (m : V) (a b c : Nat) (imm : Int) : doM s m ⟨39, a, b, c, imm⟩ = ((s.go (add s.pc 8)).put a (add s.tls (u64 imm)), m, ⟨0, 0, 0⟩) := by
  unfold doM
  dsimp only
  repeat (first | rw [if_pos (by decide)] | rw [if_neg (by decide)])
theorem do_40 (s : St) (m : V) (a b c : Nat) (imm : Int) : doM s m ⟨40, a, b, c, imm⟩ = ((s.go (add s.pc 8)), m, ⟨1, 0, 0⟩) := by
  unfold doM
  dsimp only
  repeat (first | rw [if_pos (by decide)] | rw [if_neg (by decide)])
theorem do_41 (s : St) (m : V) (a b c : Nat) (imm : Int) : doM s m ⟨41, a, b, c, imm⟩ = ((s.go (add s.pc 8)), m, ⟨2, 0, u64 imm⟩) := by
  unfold doM
  dsimp only
  repeat (first | rw [if_pos (by decide)] | rw [if_neg (by decide)])
theorem do_rk (s : St) (m : V) (op a b c : Nat) (imm : Int) (h : 3 ≤ op ∧ op ≤ 15) (hz : ¬ ((op = 6 ∨ op = 7) ∧ s.reg c = 0)) : doM s m ⟨op, a, b, c, imm⟩ = ((s.go (add s.pc 8)).put a (ofM op (s.reg b) (s.reg c)), m, ⟨0, 0, 0⟩) := by
  unfold doM
  dsimp only
  rw [if_neg (by omega), if_pos h, if_neg hz]
theorem do_rz (s : St) (m : V) (op a b c : Nat) (imm : Int) (h : 3 ≤ op ∧ op ≤ 15) (hz : (op = 6 ∨ op = 7) ∧ s.reg c = 0) : doM s m ⟨op, a, b, c, imm⟩ = (s, m, ⟨3, 43, s.pc⟩) := by
  unfold doM
  dsimp only
  rw [if_neg (by omega), if_pos h, if_pos hz]
theorem do_ld (s : St) (m : V) (op a b c : Nat) (imm : Int) (h : 20 ≤ op ∧ op ≤ 23) : doM s m ⟨op, a, b, c, imm⟩ = if loadE m (add (s.reg b) (u64 imm)) (wid (op - 20) : Nat) = 0 then ((s.go (add s.pc 8)).put a (loadX m (add (s.reg b) (u64 imm)) (wid (op - 20) : Nat)), m, ⟨0, 0, 0⟩) else (s, m, ⟨3, loadE m (add (s.reg b) (u64 imm)) (wid (op - 20) : Nat), add (s.reg b) (u64 imm)⟩) := by
  unfold doM
  dsimp only
  rw [if_neg (by omega), if_neg (by omega), if_neg (by omega), if_neg (by omega), if_neg (by omega), if_pos h]
theorem do_st (s : St) (m : V) (op a b c : Nat) (imm : Int) (h : 24 ≤ op ∧ op ≤ 27) : doM s m ⟨op, a, b, c, imm⟩ = if numE m (add (s.reg b) (u64 imm)) (wid (op - 24) : Nat) 2 = 0 then (s.go (add s.pc 8), storeV m (add (s.reg b) (u64 imm)) (wid (op - 24) : Nat) (s.reg a), ⟨0, 0, 0⟩) else (s, m, ⟨3, numE m (add (s.reg b) (u64 imm)) (wid (op - 24) : Nat) 2, add (s.reg b) (u64 imm)⟩) := by
  unfold doM
  dsimp only
  rw [if_neg (by omega), if_neg (by omega), if_neg (by omega), if_neg (by omega), if_neg (by omega), if_neg (by omega), if_pos h]
theorem do_jp (s : St) (m : V) (op a b c : Nat) (imm : Int) (h : 30 ≤ op ∧ op ≤ 33) : doM s m ⟨op, a, b, c, imm⟩ = (if jumpsM op (s.reg a) (s.reg b) then (s.go (add s.pc 8)).go (add s.pc (u64 imm)) else s.go (add s.pc 8), m, ⟨0, 0, 0⟩) := by
  unfold doM
  dsimp only
  rw [if_neg (by omega), if_neg (by omega), if_neg (by omega), if_neg (by omega), if_neg (by omega), if_neg (by omega), if_neg (by omega), if_pos h]
theorem op_cases {op : Nat} (h : isOp op = true) : op = 1 ∨ op = 2 ∨ (3 ≤ op ∧ op ≤ 15) ∨ op = 16 ∨ op = 17 ∨ op = 18 ∨ (20 ≤ op ∧ op ≤ 23) ∨ (24 ≤ op ∧ op ≤ 27) ∨ (30 ≤ op ∧ op ≤ 33) ∨ op = 34 ∨ op = 35 ∨ op = 36 ∨ op = 37 ∨ op = 38 ∨ op = 39 ∨ op = 40 ∨ op = 41 := by
  unfold isOp at h
  have h := of_decide_eq_true h
  omega
theorem add_wrap (x y : Nat) : IntKind.u64.wrap ((x : Int) + (y : Int)) = (add x y : Int) := by
  rw [IntKind.wrap_u64]
  unfold add
  omega
/-- registers that are not named stay -/
theorem put_reg (s : St) (k x j : Nat) (h : j ≠ k) : (s.put k x).reg j = s.reg j := by
  unfold St.put St.reg
  rw [List.getD_eq_getElem?_getD, List.getD_eq_getElem?_getD, List.getElem?_set_ne (Ne.symm h)]
def Stays (s : St) (a : Nat) (x : St × V × Out) : Prop := x.1.tls = s.tls ∧ (x.2.2.kind = 3 → x.1 = s) ∧ ∀ j, j ≠ a → x.1.reg j = s.reg j
theorem Stays.ite {s : St} {a : Nat} {c : Prop} [Decidable c] {x y : St × V × Out} (h1 : Stays s a x) (h2 : Stays s a y) : Stays s a (if c then x else y) := by
  split
  · exact h1
  · exact h2
theorem Stays.jump {s : St} {a : Nat} {c : Prop} [Decidable c] {x y : St} {z : V × Out} (h1 : Stays s a (x, z)) (h2 : Stays s a (y, z)) : Stays s a ((if c then x else y), z) := by
  split
  · exact h1
  · exact h2
theorem Stays.same {s : St} {a : Nat} {m : V} {o : Out} : Stays s a (s, m, o) := ⟨rfl, fun _ => rfl, fun _ _ => rfl⟩
theorem Stays.go {s : St} {a p : Nat} {m : V} {o : Out} (h : o.kind ≠ 3) : Stays s a (s.go p, m, o) := ⟨rfl, fun e => absurd e h, fun _ _ => rfl⟩
theorem Stays.go2 {s : St} {a p q : Nat} {m : V} {o : Out} (h : o.kind ≠ 3) : Stays s a ((s.go p).go q, m, o) := ⟨rfl, fun e => absurd e h, fun _ _ => rfl⟩
theorem Stays.put {s : St} {a p x : Nat} {m : V} {o : Out} (h : o.kind ≠ 3) : Stays s a ((s.go p).put a x, m, o) := ⟨rfl, fun e => absurd e h, fun _ hj => put_reg _ _ _ _ hj⟩
theorem Stays.put2 {s : St} {a p q x : Nat} {m : V} {o : Out} (h : o.kind ≠ 3) : Stays s a (((s.go p).put a x).go q, m, o) := ⟨rfl, fun e => absurd e h, fun j hj => put_reg (s.go p) a x j hj⟩
theorem do_stays (s : St) (m : V) (i : Ins) : Stays s i.a (doM s m i) := by
  unfold doM
  dsimp only
  repeat' first
    | exact Stays.same
    | exact Stays.go (by simp)
    | exact Stays.go2 (by decide)
    | exact Stays.put (by decide)
    | exact Stays.put2 (by decide)
    | refine Stays.ite ?_ ?_
    | refine Stays.jump ?_ ?_
theorem step_stays (s : St) (m : V) : (stepM s m).1.tls = s.tls ∧ ((stepM s m).2.2.kind = 3 → (stepM s m).1 = s) := by
  unfold stepM
  split
  · split
    · exact ⟨(do_stays s m _).1, (do_stays s m _).2.1⟩
    · exact ⟨rfl, fun _ => rfl⟩
  · exact ⟨rfl, fun _ => rfl⟩
theorem u32_eq {imm : Int} (h1 : -2147483648 ≤ imm) (h2 : imm ≤ 2147483647) : imm % 4294967296 = (u32 imm : Int) ∧ u32 imm < 4294967296 := by
  unfold u32; split <;> omega
theorem or_step {x y k : Nat} (h : x < 2 ^ k) (h2 : x + y * 2 ^ k < 18446744073709551616) : bits .or .u64 (x : Int) ((y : Int) * ((2 ^ k : Nat) : Int)) = ((x + y * 2 ^ k : Nat) : Int) := by
  rw [← Int.natCast_mul, u64_or_nat x (y * 2 ^ k) (by omega) (by omega), or_join x y k h]
theorem enc_bits {op a b c : Nat} {imm : Int} (ho : op < 256) (ha : a < 32) (hb : b < 32) (hc : c < 32) (h1 : -2147483648 ≤ imm) (h2 : imm ≤ 2147483647) :
    bits .or .u64 (bits .or .u64 (bits .or .u64 (bits .or .u64 (op : Int) ((a : Int) * 256)) ((b : Int) * 8192)) ((c : Int) * 262144)) (imm % 4294967296 * 4294967296) = (encM op a b c imm : Int) := by
  obtain ⟨e, hl⟩ := u32_eq h1 h2
  have s1 := or_step (x := op) (y := a) (k := 8) ho (by omega)
  have s2 := or_step (x := op + a * 2 ^ 8) (y := b) (k := 13) (by omega) (by omega)
  have s3 := or_step (x := op + a * 2 ^ 8 + b * 2 ^ 13) (y := c) (k := 18) (by omega) (by omega)
  have s4 := or_step (x := op + a * 2 ^ 8 + b * 2 ^ 13 + c * 2 ^ 18) (y := u32 imm) (k := 32) (by omega) (by omega)
  have e1 : (((2 ^ 8 : Nat)) : Int) = 256 := rfl
  have e2 : (((2 ^ 13 : Nat)) : Int) = 8192 := rfl
  have e3 : (((2 ^ 18 : Nat)) : Int) = 262144 := rfl
  have e4 : (((2 ^ 32 : Nat)) : Int) = 4294967296 := rfl
  rw [e1] at s1
  rw [e2] at s2
  rw [e3] at s3
  rw [e4] at s4
  rw [s1, s2, s3, e, s4]
  unfold encM
  omega
def Pf (s : St) (t : St × V × Out) : Prop := t.2.2.kind = 3 → t.1 = s
theorem pf_ite {s : St} {c : Prop} [Decidable c] {a b : St × V × Out} (h1 : Pf s a) (h2 : Pf s b) : Pf s (if c then a else b) := by
  split
  · exact h1
  · exact h2
theorem pf_0 (s a : St) (m : V) (k e x : Nat) (h : k ≠ 3) : Pf s (a, m, ⟨k, e, x⟩) := fun h2 => absurd h2 h
theorem pf_3 (s : St) (m : V) (o : Out) : Pf s (s, m, o) := fun _ => rfl
theorem do_fault {s : St} {m : V} {i : Ins} (h : (doM s m i).2.2.kind = 3) : (doM s m i).1 = s := by
  refine (?_ : Pf s (doM s m i)) h
  unfold doM
  dsimp only
  repeat' (refine pf_ite ?_ ?_)
  all_goals first | exact pf_3 _ _ _ | exact pf_0 _ _ _ _ _ _ (by decide)
end Go.Dm.Cp
namespace Go.Dm.Cp
open Go Go.Dm.Vm
def opsT : List (Nat × List UInt8 × List UInt8) := [(1, [110, 111, 112], []), (2, [109, 111, 118], [97, 98]), (3, [97, 100, 100], [97, 98, 99]), (4, [115, 117, 98], [97, 98, 99]), (5, [109, 117, 108], [97, 98, 99]), (6, [100, 105, 118], [97, 98, 99]), (7, [114, 101, 109], [97, 98, 99]), (8, [97, 110, 100], [97, 98, 99]), (9, [111, 114], [97, 98, 99]), (10, [120, 111, 114], [97, 98, 99]), (11, [115, 104, 108], [97, 98, 99]), (12, [115, 104, 114], [97, 98, 99]), (13, [115, 97, 114], [97, 98, 99]), (14, [115, 108, 116], [97, 98, 99]), (15, [115, 108, 116, 117], [97, 98, 99]), (16, [97, 100, 100, 105], [97, 98, 105]), (17, [109, 111, 118, 105], [97, 105]), (18, [109, 111, 118, 104, 105], [97, 105]), (20, [108, 100, 49], [97, 98, 105]), (21, [108, 100, 50], [97, 98, 105]), (22, [108, 100, 52], [97, 98, 105]), (23, [108, 100, 56], [97, 98, 105]), (24, [115, 116, 49], [97, 98, 105]), (25, [115, 116, 50], [97, 98, 105]), (26, [115, 116, 52], [97, 98, 105]), (27, [115, 116, 56], [97, 98, 105]), (30, [98, 101, 113], [97, 98, 105]), (31, [98, 110, 101], [97, 98, 105]), (32, [98, 108, 116], [97, 98, 105]), (33, [98, 108, 116, 117], [97, 98, 105]), (34, [106, 109, 112], [105]), (35, [99, 97, 108, 108], [97, 105]), (36, [106, 114], [98]), (37, [99, 97, 108, 108, 114], [97, 98]), (38, [108, 101, 97], [97, 105]), (39, [116, 108, 115], [97, 105]), (40, [115, 121, 115], []), (41, [116, 114, 97, 112], [105])]
theorem opsT_len : opsT.length = 38 := by decide
theorem opsT_get : ∀ i, i < 38 → isOp ((opsT.getD i (0, [], [])).1 : Nat) = true ∧ (opsT.getD i (0, [], [])).2.2 = fieldsL ((opsT.getD i (0, [], [])).1 : Nat) := by decide
theorem opsT_all' : ∀ k, k < 42 → isOp (k : Nat) = true → ∃ i, i < 38 ∧ (opsT.getD i (0, [], [])).1 = k := by decide
theorem opsT_all {n : Int} (h : isOp n = true) : ∃ i, i < 38 ∧ ((opsT.getD i (0, [], [])).1 : Int) = n := by
  have h2 : 1 ≤ n ∧ n ≤ 41 := by
    unfold isOp at h
    have := of_decide_eq_true h
    exact ⟨this.1, this.2.1⟩
  obtain ⟨k, rfl⟩ : ∃ k : Nat, n = k := ⟨n.toNat, by omega⟩
  obtain ⟨i, hi, he⟩ := opsT_all' k (by omega) h
  exact ⟨i, hi, by omega⟩
/-- is a letter among an operation's fields? -/
theorem fields_has (h : Nat) : ∀ k, k < 4 → ((((if h % 2 = 1 then [97] else []) ++ (if h / 2 % 2 = 1 then [98] else []) ++ (if h / 4 % 2 = 1 then [99] else []) ++ (if h / 8 % 2 = 1 then [105] else []) : List UInt8).contains (([97, 98, 99, 105] : List UInt8).getD k 0)) = decide (h / 2 ^ k % 2 = 1)) := by
  intro k hk
  have : k = 0 ∨ k = 1 ∨ k = 2 ∨ k = 3 := by omega
  rcases this with rfl | rfl | rfl | rfl <;> (by_cases h1 : h % 2 = 1 <;> by_cases h2 : h / 2 % 2 = 1 <;> by_cases h3 : h / 4 % 2 = 1 <;> by_cases h4 : h / 8 % 2 = 1 <;> simp [h1, h2, h3, h4])
end Go.Dm.Cp
namespace Go.Proofs.YtaoillfofiehpaaGreatDoor
open Go.RowKit Go.Dm Go.Dm.Vm Go.Dm.Cp Go.Maps

def encO (o : Nat × List UInt8 × List UInt8) : List Value := [.int .i64 (o.1 : Int), .string ⟨o.2.1.toArray⟩, .string ⟨o.2.2.toArray⟩]
theorem encO_len (o : Nat × List UInt8 × List UInt8) : (encO o).length = 3 := rfl
/-- the tables that start-up lays -/
structure Tabs (w : World) : Prop where
  ops : Fl (fun k => k = 1) w 3 encO (.slice (some ⟨1, 0, none⟩) 38 38) opsT
  sizes : ∀ i u, ([.int .i64 1, .int .i64 2, .int .i64 4, .int .i64 8] : List Value)[i]? = some u → w.cell? ⟨0, i, none⟩ = some u
  ls : 0 < w.heap.size
theorem Tabs.keep {S : Nat → Prop} {w w' : World} (h : Tabs w) (hk : Keep S w w') (h1 : ¬ S 1) (h2 : ¬ S 0) : Tabs w' where
  ops := h.ops.keep hk fun j _ e => by subst e; exact h1
  sizes := fun i u hi => (hk.cell (p := ⟨0, i, none⟩) h.ls h2).trans (h.sizes i u hi)
  ls := Nat.lt_of_lt_of_le h.ls hk.size
theorem Tabs.no {w w' : World} (h : Tabs w) (hk : Keep No w w') : Tabs w' := h.keep hk (fun h => h) fun h => h
theorem Tabs.at {w : World} (h : Tabs w) {i : Nat} (hi : i < 38) : w.cell? ⟨1, i * 3, none⟩ = some (.int .i64 ((opsT.getD i (0, [], [])).1 : Int)) ∧ w.cell? ⟨1, i * 3 + 1, none⟩ = some (.string ⟨(opsT.getD i (0, [], [])).2.1.toArray⟩) ∧ w.cell? ⟨1, i * 3 + 2, none⟩ = some (.string ⟨(opsT.getD i (0, [], [])).2.2.toArray⟩) := by
  have hl : i < opsT.length := by rw [opsT_len]; exact hi
  obtain ⟨g, off, cap, e, _, _, _, _, hc⟩ := h.ops.at encO_len hl
  rw [opsT_len] at e
  have e1 := (Value.slice.inj e).1
  have e2 := Option.some.inj e1
  obtain ⟨rfl, rfl⟩ : 1 = g ∧ 0 = off := ⟨congrArg Addr.block e2, congrArg Addr.off e2⟩
  rw [List.getD_eq_getElem?_getD, List.getElem?_eq_getElem hl]
  have c0 := hc 0 _ rfl
  have c1 := hc 1 _ rfl
  have c2 := hc 2 _ rfl
  rw [Nat.zero_add] at c0 c1 c2
  exact ⟨c0, c1, c2⟩
section
variable {w : World}
set_option maxRecDepth 100000 in
theorem isamay1_any (a n : Int) (s t : ByteArray) (q : Nat) (hq : w.cell? ⟨q, 0, none⟩ = some (.int .i64 n)) (hql : q < w.heap.size) :
    Calls Tryz.prog 76 #[.agg #[.int .i64 a, .string s, .string t], .pointer (some ⟨q, 0, none⟩)] w fun e w' => e = .returned (.bool (a == n)) ∧ Keep No w w' := by
  have hne : q ≠ w.heap.size := Nat.ne_of_lt hql
  go_enter Tryz.func76, Tryz.ntmps76
  go_wp2_with fail
  have hkW : Keep No w (w.alloc (.cells #[.int .i64 a, .string s, .string t] 124)) := (Keep.refl _ _).alloc _
  have hBW : Blk (w.alloc (.cells #[.int .i64 a, .string s, .string t] 124)) w.heap.size #[.int .i64 a, .string s, .string t] 124 := Blk.new _ _ _
  have hzW : (w.alloc (.cells #[.int .i64 a, .string s, .string t] 124)).heap.size = w.heap.size + 1 := World.size_alloc _ _
  generalize w.alloc (.cells #[.int .i64 a, .string s, .string t] 124) = W at *
  have q0 : W.cell? ⟨w.heap.size, 0, none⟩ = some (.int .i64 a) := hBW.cell 0
  have q1 : W.cell? ⟨q, 0, none⟩ = some (.int .i64 n) := (hkW.cell (p := ⟨q, 0, none⟩) hql fun h => h).trans hq
  go_wp2_with fail
  go_ret
  exact ⟨rfl, hkW⟩
set_option maxRecDepth 100000 in
set_option maxHeartbeats 4000000 in
theorem idxop_any (n : Int) (q : Nat) (hT : Tabs w) (hq : w.cell? ⟨q, 0, none⟩ = some (.int .i64 n)) (hql : q < w.heap.size) :
    Calls Tryz.prog 91 #[.slice (some ⟨1, 0, none⟩) 38 38, .func (.func 76) #[] #[.pointer (some ⟨q, 0, none⟩)]] w fun e w' => ∃ r : Int, e = .returned (.int .i64 r) ∧ ((∃ i, i < 38 ∧ r = (i : Nat) ∧ ((opsT.getD i (0, [], [])).1 : Int) = n) ∨ (r = -1 ∧ ∀ i, i < 38 → ((opsT.getD i (0, [], [])).1 : Int) ≠ n)) ∧ Keep No w w' := by
  have hent : ∀ a, Enters 76 (#[a] ++ #[.pointer (some ⟨q, 0, none⟩)]) := fun a w => by kernel_rfl
  unfold Enters at hent
  have HT := Lib.hid hT
  have HQ := Lib.hid hq
  clear hT hq
  go_enter Tryz.func91, Tryz.ntmps91
  go_wp2_with fail
  go_loopw [5, 8] (fun _ iv wr => ∃ i : Nat, iv = .int .i64 i ∧ i ≤ 38 ∧ (∀ j, j < i → ((opsT.getD j (0, [], [])).1 : Int) ≠ n) ∧ Keep No w wr) (fun _ iv _ => 38 - (intOf iv).toNat)
  case atStart => exact ⟨0, rfl, Nat.zero_le _, (fun j hj => absurd hj (Nat.not_lt_zero _)), Keep.refl _ _⟩
  case round =>
    obtain ⟨i, rfl, hi, hno, hk⟩ := hrel
    generalize wr = wz at *
    rcases Nat.lt_or_ge i 38 with hlt | hge
    · obtain ⟨c0, c1, c2⟩ := (HT.out.no hk).at hlt
      have hiz : (i : Int) < 38 := by omega
      have hcall := isamay1_any (w := wz) ((opsT.getD i (0, [], [])).1 : Int) n ⟨(opsT.getD i (0, [], [])).2.1.toArray⟩ ⟨(opsT.getD i (0, [], [])).2.2.toArray⟩ q ((hk.cell (p := ⟨q, 0, none⟩) hql fun h => h).trans HQ.out) (Nat.lt_of_lt_of_le hql hk.size)
      have hfin : ((opsT.getD i (0, [], [])).1 : Int) = n → ∃ k, k < 38 ∧ (i : Int) = (k : Nat) ∧ ((opsT.getD k (0, [], [])).1 : Int) = n := fun h => ⟨i, hlt, rfl, h⟩
      have hno2 : ((opsT.getD i (0, [], [])).1 : Int) ≠ n → ∀ j, j < i + 1 → ((opsT.getD j (0, [], [])).1 : Int) ≠ n := fun h j hji => by
        rcases Nat.lt_or_ge j i with h2 | h2
        · exact hno j h2
        · obtain rfl : j = i := by omega
          exact h
      have HF := Lib.hid hfin
      have HN := Lib.hid hno2
      clear hno hfin hno2
      generalize ((opsT.getD i (0, [], [])).1 : Int) = x at *
      generalize (⟨(opsT.getD i (0, [], [])).2.1.toArray⟩ : ByteArray) = s1 at *
      generalize (⟨(opsT.getD i (0, [], [])).2.2.toArray⟩ : ByteArray) = s2 at *
      go_wp2_with fail
      refine hcall.mono ?_
      rintro e w2 ⟨rfl, hk2⟩
      have hk2' := hk.trans' hk2
      clear hcall c0 c1 c2
      by_cases e : x = n
      · have e1 : (x == n) = true := by simpa using e
        rw [e1]
        go_wp2_with fail
        go_ret
        exact ⟨_, rfl, .inl (HF.out e), hk2'⟩
      · have e1 : (x == n) = false := by simpa using e
        rw [e1]
        go_wp2_with fail
        go_roundw
        case rel => exact ⟨i + 1, by go_num, hlt, HN.out e, hk2'⟩
        case measure => simp [intOf]; omega
    · obtain rfl : i = 38 := Nat.le_antisymm hi hge
      go_wp2_with fail
      go_ret
      exact ⟨_, rfl, .inr ⟨rfl, hno⟩, hk⟩
set_option maxRecDepth 100000 in
set_option maxHeartbeats 4000000 in
theorem isafind_any (n : Int) (q : Nat) (hT : Tabs w) (hq : w.cell? ⟨q, 0, none⟩ = some (.int .i64 n)) (hql : q < w.heap.size) :
    Calls Tryz.prog 75 #[.func (.func 76) #[] #[.pointer (some ⟨q, 0, none⟩)]] w fun e w' => (∃ a s t, e = .returned (.tuple #[.agg #[.int .i64 a, .string s, .string t], .bool (isOp n)]) ∧ (isOp n = true → a = n ∧ t = ⟨(fieldsL n).toArray⟩)) ∧ Keep No w w' := by
  have hcal := fun (W : World) (hk : Keep No w W) => idxop_any (w := W) n q (hT.no hk) ((hk.cell (p := ⟨q, 0, none⟩) hql fun h => h).trans hq) (Nat.lt_of_lt_of_le hql hk.size)
  have HC := Lib.hid hcal
  have HT := Lib.hid hT
  clear hcal hT hq
  go_enter Tryz.func75, Tryz.ntmps75
  go_wp2_with fail
  have hkW : Keep No w (w.alloc (.cells #[.int .i64 0, .string ⟨#[]⟩, .string ⟨#[]⟩] 124)) := (Keep.refl _ _).alloc _
  have hBW : Blk (w.alloc (.cells #[.int .i64 0, .string ⟨#[]⟩, .string ⟨#[]⟩] 124)) w.heap.size #[.int .i64 0, .string ⟨#[]⟩, .string ⟨#[]⟩] 124 := Blk.new _ _ _
  have hzW : (w.alloc (.cells #[.int .i64 0, .string ⟨#[]⟩, .string ⟨#[]⟩] 124)).heap.size = w.heap.size + 1 := World.size_alloc _ _
  generalize w.alloc (.cells #[.int .i64 0, .string ⟨#[]⟩, .string ⟨#[]⟩] 124) = W at *
  have hc := HC.out W hkW
  go_wp2_with fail
  refine hc.mono ?_
  rintro e w2 ⟨r, rfl, hr, hk2⟩
  clear hc
  have hB2 := hBW.keep hk2 fun h => h
  have hkk := hkW.trans' hk2
  rcases hr with ⟨i, hi, rfl, hin⟩ | ⟨rfl, hno⟩
  · obtain ⟨c0, c1, c2⟩ := (HT.out.no hkk).at hi
    obtain ⟨g1, g2⟩ := opsT_get i hi
    rw [hin] at g1 g2 c0
    have hiz : (i : Int) < 38 := by omega
    have G1 := Lib.hid g1
    have G2 := Lib.hid g2
    clear g1 g2 hin
    generalize (opsT.getD i (0, [], [])).2.2 = fl at *
    generalize (⟨(opsT.getD i (0, [], [])).2.1.toArray⟩ : ByteArray) = s1 at *
    go_wp2_with (with_reducible refine wl_stAgg rfl _ _ _ rfl _ _ rfl rfl ?_)
    refine rg_stAgg hB2 (by kernel_rfl) (by rfl) (by simp [Value.oneCell']) ?_
    intro w3 hB3 hk3 _
    go_wp2_with fail
    refine ret_blk_tmp rfl rfl hB3 Tryz.underlying124 rfl (by kernel_rfl) rfl ?_
    refine ⟨⟨n, s1, _, by rw [G1.out]; rfl, fun _ => ⟨rfl, by rw [G2.out]⟩⟩, hkk.trans hk3 fun j hj e => ?_⟩
    have e2 : j = w.heap.size := e
    omega
  · have hf : isOp n = false := by
      cases h : isOp n with
      | false => rfl
      | true =>
        obtain ⟨i, hi, he⟩ := opsT_all h
        exact absurd he (hno i hi)
    have HF := Lib.hid hf
    clear hf hno
    go_wp2_with (with_reducible refine wl_stAgg rfl _ _ _ rfl _ _ rfl rfl ?_)
    refine rg_stAgg hB2 (by kernel_rfl) (by rfl) (by simp [Value.oneCell']) ?_
    intro w3 hB3 hk3 _
    go_wp2_with fail
    refine ret_blk_tmp rfl rfl hB3 Tryz.underlying124 rfl (by kernel_rfl) rfl ?_
    refine ⟨⟨0, _, _, by rw [HF.out]; rfl, fun h => by rw [HF.out] at h; cases h⟩, hkk.trans hk3 fun j hj e => ?_⟩
    have e2 : j = w.heap.size := e
    omega
end
end Go.Proofs.YtaoillfofiehpaaGreatDoor
