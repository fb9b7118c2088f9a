/- Slices of flat elements: read at an index, pushed to, put one behind the other. Numbers in bytes, the lowest first: plain laws, no program in sight. octets: has, width, fits, Get, Set. What a file says: the loader's plain model, no program in sight. octets: Cut, Down, Up; names: Check, At. names.At: the name at a place of a table. No condition. -/
import Derived.Test.YtbnahidopemkiaaRd
import Derived.Laws.Tables
import Derived.Laws.Rows
import Derived.Laws.ResultCell
import Derived.Laws.BitsAllLaws
import Derived.Test.YtbnahidopemkiaaProg
import Derived.Laws.MakeOwn
import Derived.Laws.OwnMore
set_option linter.unusedVariables false
set_option linter.unusedSimpArgs false
namespace Go.Dm
open Go Go.RowKit

/-- a slice whose elements x are the cells enc x -/
def Fl {α : Type} (A : Nat → Prop) (w : World) (k : Nat) (enc : α → List Value) (v : Value) (l : List α) : Prop := Sl A w k v l.length (l.flatMap enc)
/-- the same in a row of one's own -/
def FlO {α : Type} (w : World) (base : Nat) (e : TypeId) (k : Nat) (enc : α → List Value) (v : Value) (l : List α) : Prop := w.ownsRow base e k v l.length (l.flatMap enc)

section
variable {α : Type} {A : Nat → Prop} {w : World} {k : Nat} {enc : α → List Value} {v : Value} {l : List α}
theorem Fl.keep {S : Nat → Prop} {w' : World} (h : Fl A w k enc v l) (hk : Keep S w w') (hS : ∀ j, j < w.heap.size → A j → ¬ S j) : Fl A w' k enc v l := Sl.keep h hk hS
theorem Fl.no {w' : World} (h : Fl A w k enc v l) (hk : Keep No w w') : Fl A w' k enc v l := Sl.keep h hk fun _ _ _ h => h
theorem Fl.mono {B : Nat → Prop} (h : Fl A w k enc v l) (hab : ∀ j, j < w.heap.size → A j → B j) : Fl B w k enc v l := Sl.mono h hab
theorem Fl.shape (h : Fl A w k enc v l) : ∃ a cap, v = .slice a l.length cap ∧ l.length ≤ cap ∧ cap ≤ maxLen := Sl.shape h
theorem Fl.nil : Fl A w k enc (.slice none 0 0) [] := Sl.nil _ _ _
theorem Fl.at (h : Fl A w k enc v l) (hk : ∀ x, (enc x).length = k) {i : Nat} (hi : i < l.length) :
    ∃ g off cap, v = .slice (some ⟨g, off, none⟩) l.length cap ∧ A g ∧ g < w.heap.size ∧ l.length ≤ cap ∧ cap ≤ maxLen ∧ ∀ r u, (enc l[i])[r]? = some u → w.cell? ⟨g, off + i * k + r, none⟩ = some u := by
  obtain ⟨g, off, cap, e, ha, hg, hc, hm, hr⟩ := Sl.at h (by omega)
  refine ⟨g, off, cap, e, ha, hg, hc, hm, fun r u hu => ?_⟩
  have hel : ∀ c ∈ l.map enc, c.length = k := by
    intro c hc
    obtain ⟨x, _, rfl⟩ := List.mem_map.1 hc
    exact hk x
  have hrk : r < k := by rw [← hk l[i]]; exact (List.getElem?_eq_some_iff.1 hu).1
  rw [Nat.add_assoc]
  refine hr _ _ ?_
  rw [List.flatMap_def, flatten_get hel i r hrk, List.getElem?_map, List.getElem?_eq_getElem hi]
  exact hu
variable {base : Nat} {e : TypeId}
theorem FlO.fl (h : FlO w base e k enc v l) : Fl (fun j => base ≤ j ∧ j < w.heap.size) w k enc v l := Sl.mono (Sl.of_own h) fun j hj ha => ⟨ha.1, hj⟩
theorem FlO.flO (h : FlO w base e k enc v l) : Fl (fun j => base ≤ j ∧ some j = v.ownBlock) w k enc v l := Sl.of_own h
theorem FlO.same {w' : World} (h : FlO w base e k enc v l) (hs : ∀ g, v.ownBlock = some g → w'.heap[g]? = w.heap[g]?) : FlO w' base e k enc v l := by
  refine ⟨h.1, h.2.imp id ?_⟩
  rintro ⟨g, cap, cur, rfl, a, b, r⟩
  exact ⟨g, cap, cur, rfl, a, (hs g rfl).trans b, r⟩
theorem FlO.no {w' : World} (h : FlO w base e k enc v l) (hk : Keep No w w') : FlO w' base e k enc v l := h.same fun g hg => hk.block g (World.ownsRow.lt h g hg).2 fun h => h
theorem FlO.nil : FlO w base e k enc (.slice none 0 0) [] := World.ownsRow_nil _ _ _ _
/-- what is written into a row of one's own is nobody else's -/
theorem Keep.own {w0 w' : World} {n : Nat} {xs : List Value} (hK : Keep No w0 w) (ho : w.ownsRow w0.heap.size e k v n xs) (hk : Keep (fun j => some j = v.ownBlock) w w') : Keep No w0 w' :=
  hK.trans hk fun j hj h => absurd (ho.lt j h.symm).1 (Nat.not_le.2 hj)

theorem Keep.new {w w1 : World} (h : Keep No w w1) {p : Addr} (hp : w.heap.size ≤ p.block) (u : Value) : Keep No w (w1.setCell p u) := h.setCell (fun hl => absurd hl (Nat.not_lt.2 hp)) u
theorem Blk.own {w w' : World} {b base : Nat} {cs : Array Value} {t e : TypeId} {k n : Nat} {v : Value} {xs : List Value} (h : Blk w b cs t) (ho : w.ownsRow base e k v n xs) (hk : Keep (fun j => some j = v.ownBlock) w w') (hb : b < base) : Blk w' b cs t :=
  h.keep hk fun e => absurd (ho.lt b e.symm).1 (Nat.not_le.2 hb)

variable {P : Program}
/-- append(v, x) -/
theorem rg_push (z : Value) (bytes : Nat) {t ty : TypeId} (ht : P.underlying t = some (.slice e)) (hi : (P.info? e).map (fun i => (i.zero, i.size, i.bytes)) = some (some z, k, bytes)) (hzs : z.cells.size = k) (hk0 : 0 < k)
    {x : α} {cs : Array Value} (hcs : cs.toList = enc x) (hx : (enc x).length = k) (hone : ∀ u ∈ enc x, u.oneCell' = true) (ho : FlO w base e k enc v l) (hlen : l.length + 1 ≤ 1099511627776) (hb : bytes ≤ 128) (hbase : base ≤ w.heap.size) {K : Value → World → Prop}
    (h : ∀ v' w', FlO w' base e k enc v' (l ++ [x]) → Keep (fun j => some j = v.ownBlock) w w' → (v'.ownBlock = v.ownBlock ∨ v'.ownBlock = some (w.heap.size + 1)) → K v' w') : AppendGoal P t t ty v (.slice (some ⟨w.heap.size, 0, none⟩) 1 1) (w.alloc (.cells cs e)) K := by
  have hs : Sl (fun j => j = w.heap.size) (w.alloc (.cells cs e)) k (.slice (some ⟨w.heap.size, 0, none⟩) 1 1) 1 (enc x) := by
    rw [← hcs]
    exact Sl.new w cs e (by rw [← Array.length_toList, hcs, hx, Nat.one_mul]) (by unfold maxLen; omega)
  have hbb : (l.length + 1) * bytes ≤ 140737488355328 := Nat.le_trans (Nat.mul_le_mul hlen hb) (by decide)
  refine rg_append base e z k bytes ht hi hzs hk0 (ho.alloc _) hs hone (by unfold maxLen; omega) hbb (by rw [World.size_alloc]; omega) ?_
  intro v' w' ho' hk' _ hn
  refine h v' w' ?_ (((Keep.refl _ w).alloc _).trans' hk') ?_
  · unfold FlO
    rw [List.length_append, List.flatMap_append]
    simpa using ho'
  · rw [World.size_alloc] at hn; exact hn
/-- append(v, vs...) -/
theorem rg_cat (z : Value) (bytes : Nat) {t ty : TypeId} (ht : P.underlying t = some (.slice e)) (hi : (P.info? e).map (fun i => (i.zero, i.size, i.bytes)) = some (some z, k, bytes)) (hzs : z.cells.size = k) (hk0 : 0 < k)
    {vs : Value} {m : List α} (hs : Fl A w k enc vs m) (hone : ∀ x, ∀ u ∈ enc x, u.oneCell' = true) (ho : FlO w base e k enc v l) (hlen : l.length + m.length ≤ 1099511627776) (hb : bytes ≤ 128) (hbase : base ≤ w.heap.size) {K : Value → World → Prop}
    (h : ∀ v' w', FlO w' base e k enc v' (l ++ m) → Keep (fun j => some j = v.ownBlock) w w' → (v'.ownBlock = v.ownBlock ∨ v'.ownBlock = some w.heap.size) → K v' w') : AppendGoal P t t ty v vs w K := by
  have hbb : (l.length + m.length) * bytes ≤ 140737488355328 := Nat.le_trans (Nat.mul_le_mul hlen hb) (by decide)
  refine rg_append base e z k bytes ht hi hzs hk0 ho hs (fun u hu => ?_) (by unfold maxLen; omega) hbb hbase ?_
  · obtain ⟨x, _, hx⟩ := List.mem_flatMap.1 hu
    exact hone x u hx
  · intro v' w' ho' hk' _ hn
    refine h v' w' ?_ hk' hn
    unfold FlO
    rw [List.length_append, List.flatMap_append]
    exact ho'
end

/-! a whole struct is stored; a struct is the result -/
def StAggGoal (P : Program) (ty : TypeId) (g : Nat) (cells : Array Value) (w : World) (K : World → Prop) : Prop := RunGoal P (Instr.storeAt ty (.pointer (some ⟨g, 0, none⟩)) (.agg cells)) w fun _ w' => K w'
section
variable {P : Program} {w : World}
theorem wl_stAgg {ops : Array Oper} {rest : List Oper} {o : Oper} {a : Act} {Q : Exit → Act → World → Prop} (hgd : o.guard = none) (x y : Operand) (ty : TypeId) (ho : o.op = Op.store ty x y) (g : Nat) (cells : Array Value)
    (h1 : a.eval x = .pointer (some ⟨g, 0, none⟩)) (h2 : a.eval y = .agg cells) (h : StAggGoal P ty g cells w fun w' => wpList P ops Q rest (a.put o.dst undef) w') : wpList P ops Q (o :: rest) a w := by
  obtain ⟨v, w', hr, hk⟩ := h
  refine wpList_plain hgd fun K hK => ?_
  unfold Oper.wp execOp
  simp only [ho, h1, h2, hr, Sem.run_bind, Sem.run_pure, Result.andThen_ok]
  exact hK _ _ hk
theorem wo_stAgg {o : Oper} {a : Act} {Q : Exit → Act → World → Prop} {K : Act → World → Prop} (x y : Operand) (ty : TypeId) (ho : o.op = Op.store ty x y) (g : Nat) (cells : Array Value)
    (h1 : a.eval x = .pointer (some ⟨g, 0, none⟩)) (h2 : a.eval y = .agg cells) (h : StAggGoal P ty g cells w fun w' => K (a.put o.dst undef) w') : o.wp P a w K Q := by
  obtain ⟨v, w', hr, hk⟩ := h
  unfold Oper.wp execOp
  simp only [ho, h1, h2, hr, Sem.run_bind, Sem.run_pure, Result.andThen_ok]
  exact hk
theorem rg_stAgg {g : Nat} {old cells : Array Value} {t ty : TypeId} (hB : Blk w g old t) (hi : (P.info? ty).map (·.size) = some cells.size) (hold : old.size = cells.size) (h1 : cells.all (·.oneCell') = true) {K : World → Prop}
    (h : ∀ w', Blk w' g cells t → Keep (fun j => j = g) w w' → w'.heap.size = w.heap.size → K w') : StAggGoal P ty g cells w K := by
  refine .mk (v := ()) (w' := w.setRow g cells) ?_ (h _ (setRow_heap w g old cells t _ hB) ⟨rfl, rfl, rfl, by simp, fun k _ hk => setRow_other w g k cells hk⟩ (by simp))
  simp only [Instr.storeAt, Instr.sureAddr, Sem.run_bind, Sem.run_pure, Result.andThen_ok, run_storeVar_row w g t ty old cells hB hi hold h1]
/-- the result lies in block g -/
theorem ret_blk {fn : Func} {R : Ending → World → Prop} {a : Act} {p : Tmp} {ty t : TypeId} {g : Nat} {cs : Array Value} {d : TypeDesc} (h : fn.results = #[.cell p ty]) (hp : a.tmps.getD p undef = .pointer (some ⟨g, 0, none⟩)) (hB : Blk w g cs t) (hu : P.underlying ty = some d)
    (hd : (match d with | .struct _ | .array _ _ => true | _ => false) = true) (hi : (P.info? ty).map (·.size) = some cs.size) (hdf : a.defers = []) (hR : R (.returned (.agg cs)) w) : bodyPost P fn R .ret a w :=
  bodyPost_ret (results_cell_row h a.tmps w g t cs _ d hp hB hu hd hi) hdf hR
theorem ret_blk_tmp {fn : Func} {R : Ending → World → Prop} {a : Act} {p u : Tmp} {ty t : TypeId} {g : Nat} {cs : Array Value} {d : TypeDesc} (h : fn.results = #[.cell p ty, .tmp u]) (hp : a.tmps.getD p undef = .pointer (some ⟨g, 0, none⟩)) (hB : Blk w g cs t) (hu : P.underlying ty = some d)
    (hd : (match d with | .struct _ | .array _ _ => true | _ => false) = true) (hi : (P.info? ty).map (·.size) = some cs.size) (hdf : a.defers = []) (hR : R (.returned (.tuple #[.agg cs, a.tmps.getD u undef])) w) : bodyPost P fn R .ret a w :=
  bodyPost_ret (by rw [results_cell_tmp h, hp]; simp [asAddr, run_loadVar_row w g t ty cs _ d hB hu hd hi, Result.andThen]) hdf hR
end
end Go.Dm
namespace Go.Dm.Oc
open Go
/-- the number of bytes, the lowest first -/
def leN : List UInt8 → Nat
  | [] => 0
  | b :: r => b.toNat + 256 * leN r
def le : Nat → Nat → List UInt8
  | 0, _ => []
  | n + 1, x => UInt8.ofNat (x % 256) :: le n (x / 256)
theorem le_len (n x : Nat) : (le n x).length = n := by
  induction n generalizing x with
  | zero => rfl
  | succ n ih => simp [le, ih]
theorem leN_le (n x : Nat) : leN (le n x) = x % 256 ^ n := by
  induction n generalizing x with
  | zero => simp [le, leN, Nat.mod_one]
  | succ n ih =>
    simp only [le, leN, ih, UInt8.toNat_ofNat', Nat.reducePow, Nat.mod_mod]
    rw [Nat.pow_succ, Nat.mul_comm (256 ^ n) 256, Nat.mod_mul]
theorem leN_lt (l : List UInt8) : leN l < 256 ^ l.length := by
  induction l with
  | nil => simp [leN]
  | cons b r ih =>
    have := b.toNat_lt
    simp only [leN, List.length_cons, Nat.pow_succ]
    omega
theorem leN_snoc (l : List UInt8) (b : UInt8) : leN (l ++ [b]) = leN l + 256 ^ l.length * b.toNat := by
  induction l with
  | nil => simp [leN]
  | cons c r ih =>
    simp only [List.cons_append, leN, ih, List.length_cons, Nat.pow_succ]
    rw [Nat.mul_add, Nat.mul_comm (256 ^ r.length) 256, Nat.mul_assoc, Nat.add_assoc]
theorem le_get (n x i : Nat) (hi : i < n) : (le n x)[i]'(by rw [le_len]; exact hi) = UInt8.ofNat (x / 256 ^ i % 256) := by
  induction n generalizing x i with
  | zero => omega
  | succ n ih =>
    cases i with
    | zero => simp [le]
    | succ i =>
      simp only [le, List.getElem_cons_succ]
      rw [ih (x / 256) i (by omega), Nat.div_div_eq_div_mul, Nat.pow_succ, Nat.mul_comm 256]
/-- one byte more is laid on top -/
theorem or_top (x b n : Nat) (hx : x < 2 ^ n) : x ||| (b * 2 ^ n) = x + 2 ^ n * b := by
  rw [Nat.or_comm, Go.nat_join n (b * 2 ^ n) x (Nat.mul_mod_left _ _) hx, Nat.mul_comm]; omega
theorem pow256 (i : Nat) : 256 ^ i = 2 ^ (8 * i) := by rw [Nat.pow_mul]
def widthB (n : Int) : Bool := decide (n = 1 ∨ n = 2 ∨ n = 4 ∨ n = 8)
def hasB (many at_ size : Nat) : Bool := decide (at_ ≤ many) && decide (size ≤ many - at_)
def fitsE (many at_ : Nat) (n : Int) : Nat := if widthB n then if hasB many at_ n.toNat then 0 else 10 else 1
def getX (b : List UInt8) (at_ : Nat) (n : Int) : Nat := if fitsE b.length at_ n = 0 then leN ((b.drop at_).take n.toNat) else 0
theorem fits_parts {many at_ : Nat} {n : Int} (h : fitsE many at_ n = 0) : (n = 1 ∨ n = 2 ∨ n = 4 ∨ n = 8) ∧ at_ ≤ many ∧ n.toNat ≤ many - at_ := by
  unfold fitsE at h
  split at h
  · rename_i hw
    split at h
    · rename_i hh
      simp only [hasB, Bool.and_eq_true, decide_eq_true_eq] at hh
      simp only [widthB, decide_eq_true_eq] at hw
      exact ⟨hw, hh⟩
    · cases h
  · cases h
/-- bytes laid over others from a place on -/
def setR : List UInt8 → Nat → List UInt8 → List UInt8
  | l, _, [] => l
  | l, k, x :: r => setR (l.set k x) (k + 1) r
theorem setR_len (l : List UInt8) (k : Nat) (c : List UInt8) : (setR l k c).length = l.length := by
  induction c generalizing l k with
  | nil => rfl
  | cons x r ih => unfold setR; rw [ih, List.length_set]
theorem setR_snoc (l : List UInt8) (k : Nat) (c : List UInt8) (x : UInt8) : setR l k (c ++ [x]) = (setR l k c).set (k + c.length) x := by
  induction c generalizing l k with
  | nil => rfl
  | cons y r ih =>
    show setR (l.set k y) (k + 1) (r ++ [x]) = (setR (l.set k y) (k + 1) r).set (k + (r.length + 1)) x
    rw [ih]
    congr 1
    omega
theorem setR_whole (l c : List UInt8) (h : c.length = l.length) : setR l 0 c = c := by
  suffices h2 : ∀ (k : Nat) (l c : List UInt8), k + c.length = l.length → setR l k c = l.take k ++ c by simpa using h2 0 l c (by omega)
  intro k l c
  induction c generalizing k l with
  | nil => intro h; simp only [setR, List.append_nil]; rw [List.take_of_length_le (by simpa using Nat.le_of_eq h.symm)]
  | cons x r ih =>
    intro h
    rw [List.length_cons] at h
    unfold setR
    rw [ih (k + 1) (l.set k x) (by rw [List.length_set]; omega), List.take_succ_eq_append_getElem (by rw [List.length_set]; omega), List.getElem_set_self, List.take_set_of_le (Nat.le_refl _), List.append_assoc]
    rfl
theorem getX_whole (b : List UInt8) (n : Nat) (h : b.length = n) (hn : n = 1 ∨ n = 2 ∨ n = 4 ∨ n = 8) : fitsE b.length 0 n = 0 ∧ getX b 0 n = leN b := by
  have hf : fitsE b.length 0 n = 0 := by
    unfold fitsE
    rw [if_pos (by simp only [widthB, decide_eq_true_eq]; omega), if_pos (by simp only [hasB, Bool.and_eq_true, decide_eq_true_eq]; omega)]
  refine ⟨hf, ?_⟩
  unfold getX
  rw [if_pos hf, List.drop_zero, List.take_of_length_le (by omega)]
end Go.Dm.Oc
namespace Go.Proofs.Ytbnahidopemkiaa
open Go.RowKit Go.Dm Go.Dm.Oc

theorem o_info : (Try.prog.info? 5).map (fun i => (i.zero, i.size, i.bytes)) = some (some (.int .u8 0), 1, 1) := by kernel_rfl
section
variable {A : Nat → Prop} {w : World}
theorem owidth_any (n : Int) (w : World) : Calls Try.prog 114 #[.int .i64 n] w fun e w' => e = .returned (.bool (widthB n)) ∧ w = w' := by
  go_enter Try.func114, Try.ntmps114
  go_wp2_with fail
  all_goals
    go_ret
    refine ⟨congrArg (fun b => Ending.returned (Value.bool b)) ?_, rfl⟩
    rw [Bool.eq_iff_iff]
    simp only [widthB, decide_eq_true_eq, true_iff, Bool.or_eq_true, beq_iff_eq]
    omega
theorem ohas_any (many at_ size : Nat) (hm : many < 9223372036854775808) (ha : at_ < 18446744073709551616) (hs : size < 18446744073709551616) (w : World) :
    Calls Try.prog 101 #[.int .i64 (many : Int), .int .u64 (at_ : Int), .int .u64 (size : Int)] w fun e w' => e = .returned (.bool (hasB many at_ size)) ∧ w = w' := by
  go_enter Try.func101, Try.ntmps101
  go_wp2_with fail
  all_goals
    go_ret
    refine ⟨congrArg (fun b => Ending.returned (Value.bool b)) ?_, rfl⟩
    rw [Bool.eq_iff_iff]
    simp only [hasB, Bool.and_eq_true, decide_eq_true_eq, Bool.false_eq_true, false_iff]
    omega
theorem ofits_any {v : Value} (b : List UInt8) (at_ : Nat) (n : Int) (hb : Bts A w v b) (hl : b.length ≤ 1099511627776) (ha : at_ < 18446744073709551616) (h0 : -9223372036854775808 ≤ n) (h1 : n < 9223372036854775808) :
    Calls Try.prog 108 #[v, .int .u64 (at_ : Int), .int .i64 n] w fun e w' => e = .returned (.int .i64 (fitsE b.length at_ n : Nat)) ∧ w = w' := by
  obtain ⟨a, c, rfl, hc, hc2⟩ := hb.shape
  have hd : fitsE b.length at_ n = if widthB n then if hasB b.length at_ n.toNat then 0 else 10 else 1 := rfl
  have HD := Lib.hid hd
  clear hd
  go_enter Try.func108, Try.ntmps108
  go_wp2_with fail
  refine (owidth_any n _).mono ?_
  rintro e x ⟨rfl, rfl⟩
  cases hw : widthB n with
  | false =>
    have HE := Lib.hid (show fitsE b.length at_ n = 1 by rw [HD.out, hw]; rfl)
    clear HD
    go_wp2_with fail
    go_ret
    rw [HE.out]
    exact ⟨rfl, rfl⟩
  | true =>
    have hn : n = (n.toNat : Int) := by simp only [widthB, decide_eq_true_eq] at hw; omega
    have hn8 : n.toNat ≤ 8 := by simp only [widthB, decide_eq_true_eq] at hw; omega
    have HE := Lib.hid (show fitsE b.length at_ n = if hasB b.length at_ n.toNat then 0 else 10 by rw [HD.out, hw]; rfl)
    clear HD hw
    generalize n.toNat = k at *
    subst hn
    go_wp2_with fail
    refine (ohas_any b.length at_ k (by omega) ha (by omega) _).mono ?_
    rintro e x ⟨rfl, rfl⟩
    cases hh : hasB b.length at_ k with
    | false =>
      have HE2 := Lib.hid (show fitsE b.length at_ (k : Int) = 10 by rw [HE.out, hh]; rfl)
      clear HE
      go_wp2_with fail
      go_ret
      rw [HE2.out]
      exact ⟨rfl, rfl⟩
    | true =>
      have HE2 := Lib.hid (show fitsE b.length at_ (k : Int) = 0 by rw [HE.out, hh]; rfl)
      clear HE
      go_wp2_with fail
      go_ret
      rw [HE2.out]
      exact ⟨rfl, rfl⟩
set_option maxRecDepth 100000 in
set_option maxHeartbeats 2000000 in
theorem oget_any {v : Value} (b : List UInt8) (at_ : Nat) (n : Int) (hb : Bts A w v b) (hl : b.length ≤ 1099511627776) (ha : at_ < 18446744073709551616) (h0 : -9223372036854775808 ≤ n) (h1 : n < 9223372036854775808) :
    Calls Try.prog 94 #[v, .int .u64 (at_ : Int), .int .i64 n] w fun e w' => e = .returned (.tuple #[.int .u64 (getX b at_ n : Nat), .int .i64 (fitsE b.length at_ n : Nat)]) ∧ w = w' := by
  have hfit := ofits_any b at_ n hb hl ha h0 h1
  obtain ⟨a, c, rfl, hc, hc2⟩ := hb.shape
  obtain ⟨X, hX⟩ : ∃ X, getX b at_ n = X := ⟨_, rfl⟩
  have hx : getX b at_ n = if fitsE b.length at_ n = 0 then leN ((b.drop at_).take n.toNat) else 0 := rfl
  have hparts := @fits_parts b.length at_ n
  rw [hX] at hx ⊢
  generalize fitsE b.length at_ n = er at *
  have HX := Lib.hid hx
  clear hx hX
  go_enter Try.func94, Try.ntmps94
  go_wp2_with fail
  refine hfit.mono ?_
  rintro e x ⟨rfl, rfl⟩
  clear hfit
  by_cases hf : er = 0
  · subst hf
    obtain ⟨hn, hat, hsz⟩ := hparts rfl
    have HE := Lib.hid (show X = leN ((b.drop at_).take n.toNat) by rw [HX.out, if_pos rfl])
    clear HX hparts
    have hnn : n = (n.toNat : Int) := by omega
    have hn8 : n.toNat ≤ 8 := by omega
    have hn1 : 1 ≤ n.toNat := by omega
    generalize n.toNat = k at *
    subst hnn
    clear hn
    go_wp2_with fail
    go_loopw [9, 19] (fun xv iv wr => ∃ i : Nat, xv = .int .u64 (leN ((b.drop at_).take i) : Nat) ∧ iv = .int .i64 i ∧ i ≤ k ∧ wr = w) (fun _ iv _ => k - (intOf iv).toNat)
    case atStart => exact ⟨0, rfl, rfl, Nat.zero_le _, rfl⟩
    case round =>
      obtain ⟨i, rfl, rfl, hi, rfl⟩ := hrel
      rcases Nat.lt_or_ge i k with hlt | hge
      · obtain ⟨g0, off, cap, e, hg0, hgl, _, _, hcell⟩ := hb.at (by omega)
        cases e
        have hin : at_ + i < b.length := by omega
        have qb : wr.cell? ⟨g0, off + (at_ + i), none⟩ = some (bv b[at_ + i]) := hcell (at_ + i) _ (by rw [List.getElem?_map, List.getElem?_eq_getElem hin]; rfl)
        have htk : (b.drop at_).take (i + 1) = (b.drop at_).take i ++ [b[at_ + i]] := by
          rw [List.take_succ_eq_append_getElem (by rw [List.length_drop]; omega), List.getElem_drop]
        have hlen : ((b.drop at_).take i).length = i := by rw [List.length_take, List.length_drop]; omega
        have hnx : leN ((b.drop at_).take (i + 1)) = leN ((b.drop at_).take i) + 2 ^ (8 * i) * b[at_ + i].toNat := by rw [htk, leN_snoc, hlen, pow256]
        have hlt8 : leN ((b.drop at_).take i) < 2 ^ (8 * i) := by
          have := leN_lt ((b.drop at_).take i)
          rw [hlen, pow256] at this
          exact this
        have hbb := b[at_ + i].toNat_lt
        generalize b[at_ + i] = y at *
        generalize leN ((b.drop at_).take i) = x at *
        have hor := or_top x y.toNat (8 * i) hlt8
        have hp64 : y.toNat * 2 ^ (8 * i) < 18446744073709551616 := by
          have h1 : y.toNat * 2 ^ (8 * i) < 256 * 2 ^ (8 * i) := Nat.mul_lt_mul_of_pos_right hbb (Nat.two_pow_pos _)
          have h2 : 256 * 2 ^ (8 * i) = 2 ^ (8 * (i + 1)) := by rw [show (256 : Nat) = 2 ^ 8 by rfl, ← Nat.pow_add]; congr 1; omega
          have h3 : 2 ^ (8 * (i + 1)) ≤ 2 ^ 64 := Nat.pow_le_pow_right (by decide) (by omega)
          omega
        have hx64 : x < 18446744073709551616 := by
          have h3 : 2 ^ (8 * i) ≤ 2 ^ 64 := Nat.pow_le_pow_right (by decide) (by omega)
          omega
        have hwr : IntKind.u64.wrap ((y.toNat : Int) * 2 ^ (8 * i)) = ((y.toNat * 2 ^ (8 * i) : Nat) : Int) := by
          rw [show ((y.toNat : Int) * 2 ^ (8 * i)) = ((y.toNat * 2 ^ (8 * i) : Nat) : Int) by push_cast; rfl, IntKind.wrap_u64]
          omega
        have hbor := u64_or_nat x (y.toNat * 2 ^ (8 * i)) hx64 hp64
        rw [hor, ← hnx, ← hwr] at hbor
        have HB := Lib.hid hbor
        have hltz : (i : Int) < (k : Int) := by omega
        have hsum : (at_ : Int) + (i : Int) = ((at_ + i : Nat) : Int) := by omega
        have hinz : ((at_ + i : Nat) : Int) < (b.length : Int) := by omega
        have hatz : (at_ : Int) < 9223372036854775808 := by omega
        have hi8 : (i : Int) ≤ 8 := by omega
        unfold bv at qb
        clear hor hnx htk hlt8 hcell HE hwr hbor hp64
        obtain ⟨j, hj⟩ : ∃ j, j = at_ + i := ⟨_, rfl⟩
        rw [← hj] at hsum hinz qb
        have hjz : (j : Int) < 9223372036854775808 := by omega
        clear hj hin
        go_wp2_with fail
        go_roundw
        case rel => exact ⟨i + 1, by rw [HB.out], by go_num, hlt, trivial⟩
        case measure => simp [intOf]; omega
      · obtain rfl : i = k := Nat.le_antisymm hi hge
        go_wp2_with fail
        go_ret2
        rw [HE.out]
        exact ⟨rfl, rfl⟩
  · have HE := Lib.hid (show X = 0 by rw [HX.out, if_neg hf])
    clear HX hparts
    have hne : (er : Int) ≠ 0 := by omega
    go_wp2_with fail
    go_ret2
    rw [HE.out]
    exact ⟨rfl, rfl⟩
set_option maxRecDepth 100000 in
set_option maxHeartbeats 400000 in
theorem oclone_any (v : Value) (xs : List UInt8) (w : World) (h : Bts A w v xs) (b1 : xs.length ≤ 1099511627776) :
    Calls Try.prog 66 #[v] w fun e w' => ∃ v', e = .returned v' ∧ w'.ownsRow w.heap.size 5 1 v' xs.length (xs.map bv) ∧ Keep No w w' := by
  obtain ⟨a, c, rfl, hc, hc2⟩ := h.shape
  have qT := fun (w : World) (a : Option Addr) (n c n' c' : Nat) => Lib.run_eql_slice_nil (P := Try.prog) w _ _ a n c n' c' Try.underlying26
  cases a with
  | none =>
    have e0 : xs.length = 0 := by
      obtain ⟨_, a', cap, e, c1, _, c2, _⟩ := h
      cases e
      have := c2 rfl
      omega
    obtain rfl : xs = [] := List.eq_nil_of_length_eq_zero e0
    go_enter Try.func66, Try.ntmps66
    go_wp2_with fail
    go_ret
    exact ⟨_, rfl, World.ownsRow_nil _ _ _ _, Keep.refl _ _⟩
  | some a =>
    go_enter Try.func66, Try.ntmps66
    go_wp2_with (at_builtin; refine wl_append rfl _ _ _ _ rfl _ _ rfl rfl ?_)
    have hown : (w.alloc (.cells #[] 5)).ownsRow w.heap.size 5 1 (.slice (some ⟨w.heap.size, 0, none⟩) 0 0) 0 [] := World.ownsRow_made w #[] 0 (Nat.le_refl _) (Nat.zero_le _) rfl
    refine rg_append w.heap.size 5 _ 1 1 Try.underlying26 o_info rfl (by decide) hown (h.keep ((Keep.refl No w).alloc _) fun _ _ _ h => h) (bv_one _) (by unfold maxLen; omega) (by omega) (by simp) ?_
    intro v' w2 ho hk _ _
    simp only [Nat.zero_add, List.nil_append] at ho
    go_wp2_with fail
    go_ret
    exact ⟨_, rfl, ho, ((Keep.refl No w).alloc _).trans hk fun j hj e => by
      simp only [Value.ownBlock, Option.some.injEq] at e; omega⟩
/-- bytes with a number -/
def setX (b : List UInt8) (at_ : Nat) (n : Int) (x : Nat) : List UInt8 := setR b at_ (le n.toNat x)
theorem oset_bad {v : Value} (b : List UInt8) (at_ : Nat) (n : Int) (x : Nat) (hb : Bts A w v b) (hl : b.length ≤ 1099511627776) (ha : at_ < 18446744073709551616) (h0 : -9223372036854775808 ≤ n) (h1 : n < 9223372036854775808) (hf : fitsE b.length at_ n ≠ 0) :
    Calls Try.prog 115 #[v, .int .u64 (at_ : Int), .int .i64 n, .int .u64 (x : Int)] w fun e w' => e = .returned (.tuple #[.slice none 0 0, .int .i64 (fitsE b.length at_ n : Nat)]) ∧ w = w' := by
  have hfit := ofits_any b at_ n hb hl ha h0 h1
  obtain ⟨a, c, rfl, hc, hc2⟩ := hb.shape
  generalize fitsE b.length at_ n = er at *
  have hne : (er : Int) ≠ 0 := by omega
  go_enter Try.func115, Try.ntmps115
  go_wp2_with fail
  refine hfit.mono ?_
  rintro e x ⟨rfl, rfl⟩
  go_wp2_with fail
  go_ret2
  exact ⟨rfl, rfl⟩
set_option maxRecDepth 100000 in
set_option maxHeartbeats 2000000 in
theorem oset_any {v : Value} (b : List UInt8) (at_ : Nat) (n : Int) (x : Nat) (hb : Bts A w v b) (hl : b.length ≤ 1099511627776) (ha : at_ < 18446744073709551616) (hx : x < 18446744073709551616) (hf : fitsE b.length at_ n = 0) :
    Calls Try.prog 115 #[v, .int .u64 (at_ : Int), .int .i64 n, .int .u64 (x : Int)] w fun e w' => ∃ v', e = .returned (.tuple #[v', .int .i64 0]) ∧ w'.ownsRow w.heap.size 5 1 v' b.length ((setX b at_ n x).map bv) ∧ Keep No w w' := by
  obtain ⟨hn, hat, hsz⟩ := fits_parts hf
  have hfit := ofits_any b at_ n hb hl ha (by omega) (by omega)
  have hcl := oclone_any v b w hb hl
  rw [hf] at hfit
  unfold setX
  have hnn : n = (n.toNat : Int) := by omega
  have hn8 : n.toNat ≤ 8 := by omega
  have hn1 : 1 ≤ n.toNat := by omega
  generalize n.toNat = k at *
  subst hnn
  clear hn hf
  obtain ⟨a, c, rfl, hc, hc2⟩ := hb.shape
  go_enter Try.func115, Try.ntmps115
  go_wp2_with fail
  refine hfit.mono ?_
  rintro e W ⟨rfl, rfl⟩
  clear hfit
  go_wp2_with fail
  refine hcl.mono ?_
  rintro e W ⟨v', rfl, ho, hK⟩
  clear hcl
  have hbl : 0 < b.length := by omega
  rcases ho.2 with ⟨_, h0⟩ | ⟨g, cap, cur, rfl, hgb, _⟩
  · omega
  go_wp2_with fail
  go_loopw [23] (fun iv wr => ∃ i : Nat, iv = .int .i64 i ∧ i ≤ k ∧ wr.ownsRow w.heap.size 5 1 (.slice (some ⟨g, 0, none⟩) b.length cap) b.length ((setR b at_ ((le k x).take i)).map bv) ∧ Keep No w wr) (fun iv _ => k - (intOf iv).toNat)
  case atStart => exact ⟨0, rfl, Nat.zero_le _, ho, hK⟩
  case round =>
    clear ho hK
    obtain ⟨i, rfl, hi, ho, hK⟩ := hrel
    rcases Nat.lt_or_ge i k with hlt | hge
    · have hin : at_ + i < b.length := by omega
      have hle := le_len k x
      have htk : (le k x).take (i + 1) = (le k x).take i ++ [UInt8.ofNat (x / 256 ^ i % 256)] := by
        rw [List.take_succ_eq_append_getElem (by omega), le_get k x i hlt]
      have hlen : ((le k x).take i).length = i := by rw [List.length_take]; omega
      have hnx : setR b at_ ((le k x).take (i + 1)) = (setR b at_ ((le k x).take i)).set (at_ + i) (UInt8.ofNat (x / 256 ^ i % 256)) := by rw [htk, setR_snoc, hlen]
      have hsl : (setR b at_ ((le k x).take i)).length = b.length := setR_len _ _ _
      have hc1 : wr.cell? ⟨g, at_ + i, none⟩ = some (bv ((setR b at_ ((le k x).take i))[at_ + i]'(by omega))) := by
        rw [ho.cellAt (at_ + i) (by omega), List.getElem?_map, List.getElem?_eq_getElem (by omega)]
        rfl
      have hfz : wr.frozen? ⟨g, at_ + i, none⟩ = false := ho.frozenAt _
      have ho2 := ho.stored (at_ + i) (bv (UInt8.ofNat (x / 256 ^ i % 256)))
      rw [← List.map_set, ← hnx] at ho2
      have hshr : (x : Int) / 2 ^ (8 * i) = ((x / 256 ^ i : Nat) : Int) := by rw [pow256]; push_cast; rfl
      have hbyte : IntKind.u8.wrap ((x / 256 ^ i : Nat) : Int) = ((UInt8.ofNat (x / 256 ^ i % 256)).toNat : Int) := by
        rw [IntKind.wrap_u8', UInt8.toNat_ofNat', Nat.mod_mod]
        omega
      have hk2 := hK.setCell (p := ⟨g, at_ + i, none⟩) (fun h => absurd h (Nat.not_lt.2 hgb)) (bv (UInt8.ofNat (x / 256 ^ i % 256)))
      unfold bv at hc1 ho2 hk2
      generalize (setR b at_ ((le k x).take i))[at_ + i]'(by omega) = y at *
      have hltz : (i : Int) < (k : Int) := by omega
      have hsum : (at_ : Int) + (i : Int) = ((at_ + i : Nat) : Int) := by omega
      have hinz : ((at_ + i : Nat) : Int) < (b.length : Int) := by omega
      have hatz : (at_ : Int) < 9223372036854775808 := by omega
      have hi8 : (i : Int) ≤ 8 := by omega
      clear hnx htk hsl ho hK
      obtain ⟨j, hj⟩ : ∃ j, j = at_ + i := ⟨_, rfl⟩
      rw [← hj] at hsum hinz hc1 hfz ho2 hk2
      have hjz : (j : Int) < 9223372036854775808 := by omega
      clear hj hin
      generalize UInt8.ofNat (x / 256 ^ i % 256) = z at *
      generalize x / 256 ^ i = q at *
      go_wp2_with fail
      go_roundw
      case rel => exact ⟨i + 1, by go_num, hlt, ho2.1, hk2⟩
      case measure => simp [intOf]; omega
    · obtain rfl : i = k := Nat.le_antisymm hi hge
      rw [List.take_of_length_le (by rw [le_len]; exact Nat.le_refl _)] at ho
      go_wp2_with fail
      go_ret2
      exact ⟨_, rfl, ho, hK⟩
end
end Go.Proofs.Ytbnahidopemkiaa
namespace Go.Dm.Ld
open Go Go.Dm.Oc
abbrev BS := List UInt8

/-- so many bytes from a place on -/
def cutM (b : BS) (at_ size : Nat) : Nat × BS := if hasB b.length at_ size then (0, (b.drop at_).take size) else (10, [])

/-! heads -/
structure Hd where
  kind : Nat
  entry : Nat
  segs : Nat
  count : Nat
deriving DecidableEq
def hd0 : Hd := ⟨0, 0, 0, 0⟩
def magic : BS := [127, 69, 76, 70, 2, 1, 1, 0, 0, 0, 0, 0, 0, 0, 0, 0]
def headB (h : Hd) : BS := magic ++ le 2 h.kind ++ le 2 19823 ++ le 4 1 ++ le 8 h.entry ++ le 8 h.segs ++ le 8 0 ++ le 4 0 ++ le 2 64 ++ le 2 56 ++ le 2 h.count ++ le 2 0 ++ le 2 0 ++ le 2 0
def headOk (h : Hd) : Bool := decide (2 ≤ h.kind) && decide (h.kind ≤ 4) && decide (h.count ≤ 64)
def headIn (b : BS) : Hd := ⟨getX b 16 2, getX b 24 8, getX b 32 8, getX b 56 2⟩
def headM (b : BS) : Nat × Hd :=
  if b.length < 64 then (10, hd0) else if headOk (headIn b) && decide (headB (headIn b) = b.take 64) then (0, headIn b) else (11, hd0)
theorem headB_len (h : Hd) : (headB h).length = 64 := by
  simp only [headB, List.length_append, le_len, magic, List.length_cons, List.length_nil]

/-! segments -/
structure Sg where
  ty : Nat
  fl : Nat
  off : Nat
  va : Nat
  fi : Nat
  me : Nat
  al : Nat
deriving DecidableEq
def sg0 : Sg := ⟨0, 0, 0, 0, 0, 0, 0⟩
def SgOk (s : Sg) : Prop := s.ty < 4294967296 ∧ s.fl < 4294967296 ∧ s.off < 18446744073709551616 ∧ s.va < 18446744073709551616 ∧ s.fi < 18446744073709551616 ∧ s.me < 18446744073709551616 ∧ s.al < 18446744073709551616
def sgIn (b : BS) : Sg := ⟨getX b 0 8 % 4294967296, getX b 0 8 / 4294967296, getX b 8 8, getX b 16 8, getX b 32 8, getX b 40 8, getX b 48 8⟩
def sgGet (b : BS) : Nat × Sg :=
  if b.length < 56 then (10, sg0) else if getX b 16 8 = getX b 24 8 then (0, sgIn b) else (11, sg0)
def sgGo (rest : BS) : Nat → Nat → List Sg → Nat × List Sg
  | 0, _, acc => (0, acc)
  | k + 1, i, acc => if (sgGet (rest.drop (i * 56))).1 = 0 then sgGo rest k (i + 1) (acc ++ [(sgGet (rest.drop (i * 56))).2]) else ((sgGet (rest.drop (i * 56))).1, [])
def sgTab (b : BS) (at_ n : Nat) : Nat × List Sg :=
  if 64 < n then (1, []) else if (cutM b at_ (n * 56)).1 = 0 then sgGo (cutM b at_ (n * 56)).2 n 0 [] else ((cutM b at_ (n * 56)).1, [])
def kindB (k : Nat) : Bool := decide (k = 0 ∨ k = 1 ∨ k = 2 ∨ k = 4 ∨ k = 7)
def firstM (s : Sg) : Nat := s.va / 256 * 256
def lastM (s : Sg) : Nat := (s.va + s.me + 255) / 256 * 256
def oneE (s : Sg) (size : Nat) : Nat :=
  if kindB s.ty = false ∨ 7 < s.fl then 11
  else if s.ty = 0 then 0
  else if size < s.off ∨ size - s.off < s.fi then 10
  else if s.me < s.fi then 11
  else if 4294967296 < s.va ∨ 4294967296 - s.va < s.me then 13
  else if s.ty = 1 ∧ (s.va % 256 ≠ s.off % 256 ∨ s.me = 0) then 11
  else 0
def singleB (s : Sg) : Bool := decide (s.ty = 2 ∨ s.ty = 7)
def liesB (x s : Sg) : Bool := decide (x.ty = 1 ∧ x.off ≤ s.off ∧ s.off - x.off ≤ x.fi ∧ s.fi ≤ x.fi - (s.off - x.off) ∧ (x.va + s.off) % 18446744073709551616 = (s.va + x.off) % 18446744073709551616)
def withinB (l : List Sg) (s : Sg) : Bool := decide (s.fi = 0) || l.any fun x => liesB x s
def chkA (size : Nat) : List Sg → Nat → List Sg → Nat
  | _, _, [] => 0
  | pre, bh, s :: r =>
    if oneE s size ≠ 0 then oneE s size
    else if singleB s = true ∧ pre.any (fun x => x.ty == s.ty) = true then 12
    else if s.ty = 1 then (if firstM s < bh then 12 else chkA size (pre ++ [s]) (lastM s) r)
    else chkA size (pre ++ [s]) bh r
def chkE (l : List Sg) (size : Nat) : Nat :=
  if chkA size [] 0 l ≠ 0 then chkA size [] 0 l else if l.any (fun s => singleB s && !withinB l s) then 11 else 0
def findM (l : List Sg) (k : Nat) : Option Sg := l.find? fun s => s.ty == k
def holdsB (s : Sg) (addr size : Nat) : Bool := decide (0 < size ∧ s.ty = 1 ∧ s.va ≤ addr ∧ addr - s.va ≤ s.fi ∧ size ≤ s.fi - (addr - s.va))
def placeM : List Sg → Nat → Nat → Nat × Nat
  | [], _, _ => (40, 0)
  | s :: r, addr, size => if holdsB s addr size then (0, s.off + (addr - s.va)) else placeM r addr size

/-! entries -/
structure Dy where
  need : List Nat
  v : List Nat
deriving DecidableEq
def dy0 : Dy := ⟨[], [0, 0, 0, 0, 0, 0, 0]⟩
/-- where a tag's number stands: Soname, Strtab, Strsz, Symtab, Symnum, Rela, Relasz -/
def tagAt (t : Nat) : Option Nat :=
  if t = 14 then some 0 else if t = 5 then some 1 else if t = 10 then some 2 else if t = 6 then some 3 else if t = 1610612749 then some 4 else if t = 7 then some 5 else if t = 8 then some 6 else none
def seenOk (s : List Bool) : Bool := s.getD 1 false && s.getD 2 false && (s.getD 3 false == s.getD 4 false) && (s.getD 5 false == s.getD 6 false)
def dyGo (b : BS) : Nat → Nat → Dy → List Bool → Nat × Dy
  | 0, _, _, _ => (10, dy0)
  | f + 1, at_, x, seen =>
    if hasB b.length at_ 16 = false then (10, dy0)
    else if getX b at_ 8 = 0 then (if seenOk seen then (0, x) else (11, dy0))
    else if getX b at_ 8 = 1 then dyGo b f (at_ + 16) { x with need := x.need ++ [getX b (at_ + 8) 8] } seen
    else match tagAt (getX b at_ 8) with
      | none => (11, dy0)
      | some k => if seen.getD k false then (12, dy0) else dyGo b f (at_ + 16) { x with v := x.v.set k (getX b (at_ + 8) 8) } (seen.set k true)
def dyM (b : BS) : Nat × Dy := dyGo b (b.length / 16 + 1) 0 dy0 [false, false, false, false, false, false, false]

/-! names -/
def atM (t : BS) (at_ : Nat) : Nat × BS :=
  if t.length ≤ at_ then (10, []) else if (t.drop at_).contains 0 then (0, (t.drop at_).takeWhile (· != 0)) else (11, [])
def chkN (t : BS) : Nat := if t.head? = some 0 ∧ t.getLast? = some 0 then 0 else 11

/-! symbols -/
structure Sy where
  nm : Nat
  inf : Nat
  oth : Nat
  sec : Nat
  val : Nat
  sz : Nat
deriving DecidableEq
def sy0 : Sy := ⟨0, 0, 0, 0, 0, 0⟩
def SyOk (s : Sy) : Prop := s.nm < 4294967296 ∧ s.inf < 256 ∧ s.oth < 256 ∧ s.sec < 65536 ∧ s.val < 18446744073709551616 ∧ s.sz < 18446744073709551616
def syIn (b : BS) (i : Nat) : Sy := ⟨getX b i 4, getX b (i + 4) 1, getX b (i + 5) 1, getX b (i + 6) 2, getX b (i + 8) 8, getX b (i + 16) 8⟩
def syTab (b : BS) : Nat × List Sy := if b.length % 24 = 0 then (0, (List.range (b.length / 24)).map fun i => syIn b (24 * i)) else (10, [])
def mayS (s : Sy) : Bool :=
  decide (s.inf / 16 ≤ 2) && decide (s.inf % 16 = 0 ∨ s.inf % 16 = 1 ∨ s.inf % 16 = 2 ∨ s.inf % 16 = 6) && decide (s.oth = 0) && decide (s.sec ≤ 1) && decide (s.nm ≠ 0) && (decide (s.sec ≠ 0) || decide (s.val = 0 ∧ s.sz = 0 ∧ s.inf / 16 ≠ 0))
def chkS : List Sy → Nat
  | [] => 0
  | s :: r => if s = sy0 ∧ r.all mayS = true then 0 else 11

/-! relocations -/
structure Rl where
  off : Nat
  ty : Nat
  sym : Nat
  add : Nat
deriving DecidableEq
def RlOk (x : Rl) : Prop := x.off < 18446744073709551616 ∧ x.ty < 4294967296 ∧ x.sym < 4294967296 ∧ x.add < 18446744073709551616
def rlIn (b : BS) (i : Nat) : Rl := ⟨getX b i 8, getX b (i + 8) 4, getX b (i + 12) 4, getX b (i + 16) 8⟩
def rlTab (b : BS) : Nat × List Rl := if b.length % 24 = 0 then (0, (List.range (b.length / 24)).map fun i => rlIn b (24 * i)) else (10, [])
def knownB (t : Nat) : Bool := decide (t = 0 ∨ t = 1 ∨ t = 6 ∨ t = 7 ∨ t = 8 ∨ t = 16 ∨ t = 17 ∨ t = 18)
def rlE (n : Nat) (x : Rl) : Nat :=
  if knownB x.ty = false then 33 else if 0 < x.sym ∧ n ≤ x.sym then 10 else if decide (x.ty = 0 ∨ x.ty = 8) = decide (x.sym = 0) then 0 else 11
def chkR (n : Nat) : List Rl → Nat
  | [] => 0
  | x :: r => if rlE n x = 0 then chkR n r else rlE n x

/-! images -/
structure Im where
  hd : Hd
  segs : List Sg
  so : BS
  need : List BS
  names : List BS
  syms : List Sy
  rels : List Rl
  bytes : BS
deriving DecidableEq
def im0 : Im := ⟨hd0, [], [], [], [], [], [], []⟩
def shapeM (b : BS) : Nat × Hd × List Sg :=
  if (headM b).1 ≠ 0 then ((headM b).1, hd0, [])
  else if (headM b).2.kind = 4 then (11, hd0, [])
  else if (sgTab b (headM b).2.segs (headM b).2.count).1 ≠ 0 then ((sgTab b (headM b).2.segs (headM b).2.count).1, hd0, [])
  else if chkE (sgTab b (headM b).2.segs (headM b).2.count).2 b.length ≠ 0 then (chkE (sgTab b (headM b).2.segs (headM b).2.count).2 b.length, hd0, [])
  else if findM (sgTab b (headM b).2.segs (headM b).2.count).2 1 = none then (11, hd0, [])
  else (0, (headM b).2, (sgTab b (headM b).2.segs (headM b).2.count).2)
/-- the bytes of an address -/
def atI (b : BS) (l : List Sg) (addr size : Nat) : Nat × BS :=
  if (placeM l addr size).1 = 0 then cutM b (placeM l addr size).2 size else ((placeM l addr size).1, [])
def needGo (t : BS) : List Nat → List BS → Nat × List BS
  | [], acc => (0, acc)
  | p :: r, acc => if (atM t p).1 ≠ 0 then ((atM t p).1, []) else if (atM t p).2 = [] then (11, []) else needGo t r (acc ++ [(atM t p).2])
structure Nd where
  info : Dy
  table : BS
  so : BS
  need : List BS
def nd0 : Nd := ⟨dy0, [], [], []⟩
def soM (t : BS) (p : Nat) : Nat × BS := if p = 0 then (0, []) else atM t p
def namedM (b : BS) (l : List Sg) (s : Sg) : Nat × Nd :=
  if (cutM b s.off s.fi).1 ≠ 0 then ((cutM b s.off s.fi).1, nd0)
  else if (dyM (cutM b s.off s.fi).2).1 ≠ 0 then ((dyM (cutM b s.off s.fi).2).1, nd0)
  else
    let d := (dyM (cutM b s.off s.fi).2).2
    if (atI b l (d.v.getD 1 0) (d.v.getD 2 0)).1 ≠ 0 then ((atI b l (d.v.getD 1 0) (d.v.getD 2 0)).1, nd0)
    else
      let t := (atI b l (d.v.getD 1 0) (d.v.getD 2 0)).2
      if chkN t ≠ 0 then (chkN t, nd0)
      else if (soM t (d.v.getD 0 0)).1 ≠ 0 then ((soM t (d.v.getD 0 0)).1, nd0)
      else if (needGo t d.need []).1 ≠ 0 then ((needGo t d.need []).1, nd0)
      else (0, ⟨d, t, (soM t (d.v.getD 0 0)).2, (needGo t d.need []).2⟩)
def nmGo (t : BS) : List Sy → List BS → Nat × List BS
  | [], acc => (0, acc)
  | s :: r, acc => if (atM t s.nm).1 ≠ 0 then ((atM t s.nm).1, []) else nmGo t r (acc ++ [(atM t s.nm).2])
def symsM (b : BS) (l : List Sg) (d : Dy) (t : BS) : Nat × List Sy × List BS :=
  if 1024 < d.v.getD 4 0 then (13, [], [])
  else if d.v.getD 4 0 = 0 then (0, [], [])
  else
    let c := atI b l (d.v.getD 3 0) (24 * d.v.getD 4 0)
    if c.1 ≠ 0 then (c.1, [], [])
    else if chkS (syTab c.2).2 ≠ 0 then (chkS (syTab c.2).2, [], [])
    else if (nmGo t (syTab c.2).2 []).1 ≠ 0 then ((nmGo t (syTab c.2).2 []).1, [], [])
    else (0, (syTab c.2).2, (nmGo t (syTab c.2).2 []).2)
def relsM (b : BS) (l : List Sg) (d : Dy) (n : Nat) : Nat × List Rl :=
  if 65536 < d.v.getD 6 0 then (13, [])
  else if d.v.getD 6 0 = 0 then (0, [])
  else
    let c := atI b l (d.v.getD 5 0) (d.v.getD 6 0)
    if c.1 ≠ 0 then (c.1, [])
    else if (rlTab c.2).1 ≠ 0 then ((rlTab c.2).1, [])
    else (chkR n (rlTab c.2).2, (rlTab c.2).2)
def loadedB (l : List Sg) (a : Nat) : Bool := l.any fun s => decide (s.ty = 1 ∧ s.va ≤ a ∧ a - s.va ≤ s.me ∧ 8 ≤ s.me - (a - s.va))
def sySound (l : List Sg) : List Sy → Nat
  | [] => 0
  | s :: r =>
    if s.sec = 0 then sySound l r
    else if s.inf % 16 = 6 then
      match findM l 7 with
      | none => 11
      | some t => if t.me < s.val then 11 else sySound l r
    else if 4294967296 < s.val then 13
    else sySound l r
def soundM (l : List Sg) (rels : List Rl) (syms : List Sy) : Nat :=
  if rels.any (fun x => decide (x.ty ≠ 0) && !loadedB l x.off) then 40 else sySound l syms
/-- what a file says -/
def parseM (b : BS) : Nat × Im :=
  if 65536 < b.length then (13, im0)
  else if (shapeM b).1 ≠ 0 then ((shapeM b).1, im0)
  else
    let l := (shapeM b).2.2
    match findM l 2 with
    | none => if soundM l [] [] ≠ 0 then (soundM l [] [], im0) else (0, ⟨(shapeM b).2.1, l, [], [], [], [], [], b⟩)
    | some s =>
      let n := namedM b l s
      if n.1 ≠ 0 then (n.1, im0)
      else
        let y := symsM b l n.2.info n.2.table
        if y.1 ≠ 0 then (y.1, im0)
        else
          let x := relsM b l n.2.info y.2.1.length
          if x.1 ≠ 0 then (x.1, im0)
          else if soundM l x.2 y.2.1 ≠ 0 then (soundM l x.2 y.2.1, im0)
          else (0, ⟨(shapeM b).2.1, l, n.2.so, n.2.need, y.2.2, y.2.1, x.2, b⟩)
end Go.Dm.Ld
namespace Go.Proofs.Ytbnahidopemkiaa
open Go.RowKit Go.Dm Go.Dm.Oc Go.Dm.Ld
section
variable {A : Nat → Prop} {w : World}
/-- a part of bytes -/
theorem bts_part {a : Option Addr} {b : List UInt8} {c : Nat} (hb : Bts A w (.slice a b.length c) b) {lo n : Nat} (h : lo + n ≤ b.length) :
    Bts A w (.slice (a.map fun x => x.add lo) n (c - lo)) ((b.drop lo).take n) := by
  have hl : ((b.drop lo).take n).length = n := by rw [List.length_take, List.length_drop]; omega
  obtain ⟨h1, a', cap, e, hc, hd, hf, hr⟩ := hb
  cases e
  unfold Bts
  rw [hl]
  refine ⟨by rw [List.length_map, hl]; omega, _, _, rfl, by omega, by omega, fun ha => ?_, fun hn => ?_⟩
  · have := hf (Option.map_eq_none_iff.1 ha)
    omega
  · obtain ⟨g, off, rfl, hA, hg, hr⟩ := hr (by omega)
    refine ⟨g, off + lo, by simp [Addr.add], hA, hg, fun j u hu => ?_⟩
    rw [Nat.add_assoc]
    refine hr _ _ ?_
    rw [List.getElem?_map, List.getElem?_take] at hu
    split at hu
    · rw [List.getElem?_map, ← List.getElem?_drop]; exact hu
    · cases hu
set_option maxRecDepth 100000 in
theorem ocut_any {v : Value} (b : List UInt8) (at_ size : Nat) (hb : Bts A w v b) (hl : b.length ≤ 1099511627776) (ha : at_ < 18446744073709551616) (hs : size < 18446744073709551616) :
    Calls Try.prog 83 #[v, .int .u64 (at_ : Int), .int .u64 (size : Int)] w fun e w' => ∃ v', e = .returned (.tuple #[v', .int .i64 ((cutM b at_ size).1 : Int)]) ∧ w'.ownsRow w.heap.size 5 1 v' (cutM b at_ size).2.length ((cutM b at_ size).2.map bv) ∧ Keep No w w' := by
  have hh := ohas_any b.length at_ size (by omega) ha hs w
  unfold cutM
  cases hq : hasB b.length at_ size with
  | false =>
    rw [hq] at hh
    rw [if_neg (by decide)]
    clear hq
    obtain ⟨a, c, rfl, hc, hc2⟩ := hb.shape
    go_enter Try.func83, Try.ntmps83
    go_wp2_with fail
    refine hh.mono ?_
    rintro e W ⟨rfl, rfl⟩
    go_wp2_with fail
    go_ret2
    exact ⟨_, rfl, World.ownsRow_nil _ _ _ _, Keep.refl _ _⟩
  | true =>
    rw [hq] at hh
    rw [if_pos rfl]
    simp only [hasB, Bool.and_eq_true, decide_eq_true_eq] at hq
    obtain ⟨h1, h2⟩ := hq
    have hadd : (IntKind.u64.wrap ((at_ : Int) + (size : Int))) = ((at_ + size : Nat) : Int) := by
      rw [IntKind.wrap_u64]
      omega
    obtain ⟨a, c, rfl, hc, hc2⟩ := hb.shape
    have hp := Lib.hid (bts_part hb (lo := at_) (n := size) (by omega))
    have hlen : ((b.drop at_).take size).length = size := by rw [List.length_take, List.length_drop]; omega
    generalize (b.drop at_).take size = cs at *
    go_enter Try.func83, Try.ntmps83
    go_wp2_with fail
    refine hh.mono ?_
    rintro e W ⟨rfl, rfl⟩
    clear hh
    go_wp2_with fail
    · obtain rfl : size = 0 := by omega
      obtain rfl : cs = [] := List.eq_nil_of_length_eq_zero hlen
      refine (oclone_any (A := A) _ [] _ ⟨rfl, a, 0, rfl, Nat.le_refl _, Nat.zero_le _, fun _ => rfl, fun h => absurd h (Nat.lt_irrefl _)⟩ (by simp)).mono ?_
      rintro e W ⟨v', rfl, ho, hk⟩
      go_wp2_with fail
      go_ret2
      exact ⟨_, rfl, ho, hk⟩
    · refine (oclone_any _ cs _ hp.out (by omega)).mono ?_
      rintro e W ⟨v', rfl, ho, hk⟩
      go_wp2_with fail
      go_ret2
      exact ⟨_, rfl, ho, hk⟩
set_option maxRecDepth 100000 in
theorem odown_any (x : Nat) (hx : x < 18446744073709551616) (w : World) :
    Calls Try.prog 74 #[.int .u64 (x : Int), .int .u64 256] w fun e w' => e = .returned (.tuple #[.int .u64 ((x / 256 * 256 : Nat) : Int), .int .i64 0]) ∧ w = w' := by
  have e255 := u64_andNot_nat x 255 hx (by decide)
  have em : x &&& (18446744073709551615 - 255) = x / 256 * 256 := by
    have h1 : (18446744073709551615 - 255 : Nat) = (2 ^ 56 - 1) * 2 ^ 8 := by decide
    rw [h1]
    apply Nat.eq_of_testBit_eq
    intro i
    rw [Nat.testBit_and, Nat.testBit_mul_two_pow, Nat.testBit_two_pow_sub_one, show (256 : Nat) = 2 ^ 8 from rfl, Nat.testBit_mul_two_pow, Nat.testBit_div_two_pow]
    by_cases h8 : 8 ≤ i
    · by_cases h56 : i - 8 < 56
      · simp [h8, h56]
      · have : x.testBit i = false := Nat.testBit_lt_two_pow (Nat.lt_of_lt_of_le hx (Nat.pow_le_pow_right (n := 2) (by decide) (show 64 ≤ i by omega)))
        simp [h8, h56, this]
    · simp [h8]
  rw [em] at e255
  have ed : bits .andNot .u64 (x : Int) 255 = ((x / 256 * 256 : Nat) : Int) := e255
  have ea : bits .and .u64 256 255 = 0 := by decide
  generalize x / 256 * 256 = y at *
  clear e255 em
  go_enter Try.func74, Try.ntmps74
  go_wp2_with fail
  all_goals
    go_ret2
    exact ⟨rfl, rfl⟩
set_option maxRecDepth 100000 in
theorem oup_any (x : Nat) (hx : x ≤ 18446744073709551360) (w : World) :
    Calls Try.prog 75 #[.int .u64 (x : Int), .int .u64 256] w fun e w' => e = .returned (.tuple #[.int .u64 (((x + 255) / 256 * 256 : Nat) : Int), .int .i64 0]) ∧ w = w' := by
  have hd := odown_any x (by omega) w
  have hy : x / 256 * 256 ≤ x := by omega
  have hz : (x + 255) / 256 * 256 = if x / 256 * 256 = x then x / 256 * 256 else x / 256 * 256 + 256 := by
    split <;> omega
  rw [hz]
  have hm : x / 256 * 256 ≠ x → x / 256 * 256 + 256 < 18446744073709551616 := by omega
  clear hz
  generalize x / 256 * 256 = y at *
  go_enter Try.func75, Try.ntmps75
  go_wp2_with fail
  refine hd.mono ?_
  rintro e W ⟨rfl, rfl⟩
  clear hd
  by_cases he : y = x
  · subst he
    go_wp2_with fail
    go_ret2
    exact ⟨rfl, rfl⟩
  · have hi : ¬ ((y : Int) = (x : Int)) := by omega
    have hm := hm he
    go_wp2_with fail
    go_ret2
    exact ⟨rfl, rfl⟩
set_option maxRecDepth 100000 in
theorem nchk_any {v : Value} (b : List UInt8) (hb : Bts A w v b) (hl : b.length ≤ 1099511627776) :
    Calls Try.prog 86 #[v] w fun e w' => e = .returned (.int .i64 (chkN b : Nat)) ∧ w = w' := by
  rcases Nat.eq_zero_or_pos b.length with h0 | hpos
  · obtain ⟨a, c, rfl, hc, hc2⟩ := hb.shape
    obtain rfl := List.eq_nil_of_length_eq_zero h0
    go_enter Try.func86, Try.ntmps86
    go_wp2_with fail
    go_ret
    exact ⟨rfl, rfl⟩
  · obtain ⟨g, off, cap, rfl, _, hg, hc, hc2, hr⟩ := Sl.at hb hpos
    have q0 : w.cell? ⟨g, off, none⟩ = some (.int .u8 ((b[0]'hpos).toNat : Int)) := hr 0 _ (by rw [List.getElem?_map, List.getElem?_eq_getElem hpos]; rfl)
    have q1 : w.cell? ⟨g, off + (b.length - 1), none⟩ = some (.int .u8 ((b[b.length - 1]'(by omega)).toNat : Int)) := hr (b.length - 1) _ (by rw [List.getElem?_map, List.getElem?_eq_getElem (by omega)]; rfl)
    have hres : chkN b = if (b[0]'hpos).toNat = 0 ∧ (b[b.length - 1]'(by omega)).toNat = 0 then 0 else 11 := by
      unfold chkN
      have e1 : b.head? = some (b[0]'hpos) := by rw [List.head?_eq_getElem?, List.getElem?_eq_getElem hpos]
      have e2 : b.getLast? = some (b[b.length - 1]'(by omega)) := by rw [List.getLast?_eq_getElem?, List.getElem?_eq_getElem (by omega)]
      rw [e1, e2]
      simp only [Option.some.injEq, ← UInt8.toNat_inj, UInt8.toNat_zero]
    have hx := (b[0]'hpos).toNat_lt
    have hy := (b[b.length - 1]'(by omega)).toNat_lt
    rw [hres]
    generalize (b[0]'hpos).toNat = x at *
    generalize (b[b.length - 1]'(by omega)).toNat = y at *
    clear hres hr hb
    generalize b.length = n at *
    have hn : ((n : Int) == 0) = false := by rw [beq_eq_false_iff_ne]; omega
    have hsub : (n : Int) - 1 = ((n - 1 : Nat) : Int) := by omega
    go_enter Try.func86, Try.ntmps86
    go_wp2_with fail
    all_goals
      go_ret
      refine ⟨?_, rfl⟩
      first
        | rfl
        | (exfalso
           simp_all
           done)
        | (exfalso
           simp only [bne_iff_ne, bne_eq_false_iff_eq, ne_eq] at *
           omega)
/-- where the first 0 stands -/
def zeroAt (b : List UInt8) : Int := if b.contains 0 then ((b.takeWhile (· != 0)).length : Int) else -1
theorem takeWhile_at {b : List UInt8} {i : Nat} (hi : i < b.length) (h0 : b[i] = 0) (hno : ∀ j, (hj : j < i) → b[j]'(by omega) ≠ 0) : b.contains 0 = true ∧ b.takeWhile (· != 0) = b.take i := by
  induction b generalizing i with
  | nil => simp at hi
  | cons c r ih =>
    cases i with
    | zero =>
      simp only [List.getElem_cons_zero] at h0
      subst h0
      simp
    | succ i =>
      have hc : c ≠ 0 := hno 0 (by omega)
      obtain ⟨h1, h2⟩ := ih (i := i) (by simpa using hi) (by simpa using h0) (fun j hj => by have := hno (j + 1) (by omega); simpa using this)
      constructor
      · simp only [List.contains_cons, h1, Bool.or_true]
      · rw [List.takeWhile_cons_of_pos (by simpa using hc), h2, List.take_succ_cons]
theorem zeroAt_at {b : List UInt8} {i : Nat} (hi : i < b.length) (h0 : b[i] = 0) (hno : ∀ j, (hj : j < i) → b[j]'(by omega) ≠ 0) : zeroAt b = i := by
  obtain ⟨h1, h2⟩ := takeWhile_at hi h0 hno
  unfold zeroAt
  rw [if_pos h1, h2, List.length_take]
  omega
theorem zeroAt_none {b : List UInt8} (hno : ∀ j, (hj : j < b.length) → b[j] ≠ 0) : zeroAt b = -1 := by
  unfold zeroAt
  rw [if_neg]
  intro h
  rw [List.contains_iff_mem] at h
  obtain ⟨j, hj, e⟩ := List.getElem_of_mem h
  exact hno j hj e
set_option maxRecDepth 100000 in
theorem idxB_any {v : Value} (b : List UInt8) (hb : Bts A w v b) (hl : b.length ≤ 1099511627776) :
    Calls Try.prog 103 #[v, .int .u8 0] w fun e w' => e = .returned (.int .i64 (zeroAt b)) ∧ w = w' := by
  have HB := Lib.hid hb
  obtain ⟨a, c, rfl, hc, hc2⟩ := hb.shape
  clear hb
  go_enter Try.func103, Try.ntmps103
  go_wp2_with fail
  go_loopw [5, 8] (fun _ iv wr => ∃ i : Nat, iv = .int .i64 i ∧ i ≤ b.length ∧ (∀ j, j < i → ∀ hj : j < b.length, b[j] ≠ 0) ∧ w = wr) (fun _ iv _ => b.length - (intOf iv).toNat)
  case atStart => exact ⟨0, rfl, Nat.zero_le _, (fun j hj => absurd hj (Nat.not_lt_zero _)), rfl⟩
  case round =>
    obtain ⟨i, rfl, hi, hno, rfl⟩ := hrel
    rcases Nat.lt_or_ge i b.length with hlt | hge
    · obtain ⟨g, off, cap, ev, _, _, _, _, hr⟩ := Sl.at HB.out (by omega)
      cases ev
      have q0 : w.cell? ⟨g, off + i, none⟩ = some (.int .u8 ((b[i]).toNat : Int)) := hr i _ (by rw [List.getElem?_map, List.getElem?_eq_getElem hlt]; rfl)
      have hx := (b[i]).toNat_lt
      have hz : (b[i]).toNat = 0 ↔ b[i] = 0 := by rw [← UInt8.toNat_inj]; rfl
      have HNo := Lib.hid hno
      have HR := Lib.hid hr
      clear hr hno
      by_cases h0 : b[i] = 0
      · have e0 := hz.2 h0
        have hres := zeroAt_at hlt h0 fun j hj => HNo.out j hj (by omega)
        have HRes := Lib.hid hres
        clear hres
        rw [e0] at q0
        clear hz hx e0
        go_wp2_with fail
        go_ret
        rw [HRes.out]
        exact ⟨rfl, rfl⟩
      · have e0 : (b[i]).toNat ≠ 0 := fun h => h0 (hz.1 h)
        clear hz
        generalize hX : (b[i]).toNat = x at *
        clear hX
        go_wp2_with fail
        go_roundw
        case rel =>
          refine ⟨i + 1, rfl, hlt, fun j hj hjl => ?_, trivial⟩
          rcases Nat.lt_succ_iff_lt_or_eq.1 hj with h | rfl
          · exact HNo.out j h hjl
          · exact h0
        case measure => simp [intOf]; omega
    · obtain rfl : i = b.length := by omega
      have hres := zeroAt_none fun j hj => hno j hj hj
      have HRes := Lib.hid hres
      clear hres
      go_wp2_with fail
      go_ret
      rw [HRes.out]
      exact ⟨rfl, rfl⟩
end
end Go.Proofs.Ytbnahidopemkiaa
namespace Go.Proofs.Ytbnahidopemkiaa
open Go.RowKit Go.Dm Go.Dm.Oc Go.Dm.Ld
section
variable {A : Nat → Prop} {w : World}
theorem under_u8 : Try.prog.underlying 5 = some (.int .u8) := Try.underlying5
/-- string(b) -/
theorem conv_str {v : Value} {l : List UInt8} (h : Bts A w v l) : (convert 26 9 v).run Try.prog w = .ok (.string ⟨l.toArray⟩) w := by
  obtain ⟨_, a, cap, rfl, hn, _, h0, hr⟩ := h
  cases a with
  | none =>
    obtain rfl := h0 rfl
    obtain rfl : l = [] := List.eq_nil_of_length_eq_zero (by omega)
    exact run_convert_bytes_nil (P := Try.prog) (w := w) 26 5 Try.underlying26 under_u8 0 0 9 Try.underlying9
  | some a =>
    refine run_convert_bytes_back (P := Try.prog) w 26 9 5 a cap l Try.underlying26 under_u8 Try.underlying9 fun j hj => ?_
    obtain ⟨g, off, e2, _, _, hc⟩ := hr (by omega)
    cases e2
    rw [Addr.add_lit]
    exact hc j (bv l[j]) (by simp [hj])
theorem takeWhile_zero (b : List UInt8) : b.take (zeroAt b).toNat = if b.contains 0 then b.takeWhile (· != 0) else [] := by
  unfold zeroAt
  split
  · rw [Int.toNat_natCast]
    exact (List.prefix_iff_eq_take.1 (List.takeWhile_prefix _)).symm
  · rfl
theorem zeroAt_le (b : List UInt8) : -1 ≤ zeroAt b ∧ zeroAt b ≤ b.length := by
  unfold zeroAt
  split
  · have := (List.takeWhile_prefix (l := b) (· != 0)).length_le
    omega
  · omega
set_option maxRecDepth 100000 in
theorem nat_any {v : Value} (b : List UInt8) (at_ : Nat) (hb : Bts A w v b) (hl : b.length ≤ 1099511627776) (ha : at_ < 18446744073709551616) :
    Calls Try.prog 87 #[v, .int .u64 (at_ : Int)] w fun e w' => e = .returned (.tuple #[.string ⟨(atM b at_).2.toArray⟩, .int .i64 ((atM b at_).1 : Int)]) ∧ w = w' := by
  unfold atM
  rcases Nat.lt_or_ge at_ b.length with hlt | hge
  · rw [if_neg (by omega)]
    obtain ⟨a, c, rfl, hc, hc2⟩ := hb.shape
    have hp := bts_part hb (lo := at_) (n := b.length - at_) (by omega)
    rw [List.take_of_length_le (by rw [List.length_drop]; exact Nat.le_refl _)] at hp
    have hdl : (b.drop at_).length = b.length - at_ := List.length_drop
    rw [← hdl] at hp
    have hsub : (b.length : Int) - at_ = ((b.drop at_).length : Int) := by omega
    have hdpos : 0 < (b.drop at_).length := by omega
    have hneq : ¬ c = at_ := by omega
    have hall := takeWhile_zero (b.drop at_)
    have hzl := zeroAt_le (b.drop at_)
    have hidx := idxB_any (b.drop at_) hp (by omega)
    have hp2 := fun n hn => bts_part (lo := 0) (n := n) hp (by omega)
    have hzn : (b.drop at_).contains 0 = true ↔ 0 ≤ zeroAt (b.drop at_) := by
      unfold zeroAt
      split
      · rename_i h
        simp only [h, true_iff]
        omega
      · rename_i h
        simp only [h]
        decide
    generalize b.drop at_ = d at *
    have HP2 := Lib.hid hp2
    clear hp2 hp hb
    generalize hB : b.length = n at *
    clear hB
    rcases Int.lt_or_le (zeroAt d) 0 with hneg | hpos
    · have hc0 : d.contains 0 = false := by
        cases hcc : d.contains 0 with
        | false => rfl
        | true => have := hzn.1 hcc; omega
      rw [hc0, if_neg (by decide)]
      clear hc0 hzn hall hzl
      generalize zeroAt d = z at *
      go_enter Try.func87, Try.ntmps87
      go_wp2_with fail
      rw [← hdl]
      refine hidx.mono ?_
      rintro e W ⟨rfl, rfl⟩
      clear hidx
      go_wp2_with fail
      go_ret2
      exact ⟨rfl, rfl⟩
    · have hc0 := hzn.2 hpos
      rw [hc0, if_pos rfl] at hall
      rw [hc0, if_pos rfl]
      have hpart := HP2.out (zeroAt d).toNat (by omega)
      rw [List.drop_zero, hall] at hpart
      have hcs := conv_str hpart
      have e0 : (fun x : Addr => x.add 0) = fun x => x := by funext x; simp [Addr.add]
      rw [e0, Option.map_map, Nat.sub_zero] at hcs
      clear hc0 hzn hall hpart
      have hzz : zeroAt d = ((zeroAt d).toNat : Int) := by omega
      generalize zeroAt d = zz at *
      generalize zz.toNat = z at *
      subst hzz
      generalize List.takeWhile (fun x => x != 0) d = s at *
      go_enter Try.func87, Try.ntmps87
      go_wp2_with fail
      rw [← hdl]
      refine hidx.mono ?_
      rintro e W ⟨rfl, rfl⟩
      clear hidx
      go_wp2_with fail
      go_ret2
      exact ⟨rfl, rfl⟩
  · rw [if_pos hge]
    obtain ⟨a, c, rfl, hc, hc2⟩ := hb.shape
    clear hb
    generalize b.length = n at *
    go_enter Try.func87, Try.ntmps87
    go_wp2_with fail
    go_ret2
    exact ⟨rfl, rfl⟩
end
end Go.Proofs.Ytbnahidopemkiaa
