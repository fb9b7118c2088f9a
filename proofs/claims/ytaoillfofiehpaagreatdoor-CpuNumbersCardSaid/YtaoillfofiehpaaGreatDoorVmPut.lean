/- Put. No condition. -/
import Derived.Test.YtaoillfofiehpaaGreatDoorVmG2
import Derived.Deep.MidRow
set_option linter.unusedVariables false
set_option linter.unusedSimpArgs false
namespace Go.Dm.Vm
open Go
/-- a page as it is handed in -/
structure PgR where
  addr : Nat
  prot : Int
  dirty : Bool
  file : List UInt8
  off : Nat
  b : List UInt8
def toPg (r : PgR) : Pg := ⟨r.addr, r.prot.toNat, r.dirty, r.file, r.off, r.b⟩
def lowR (p : Option PgR) (r : PgR) : Bool := match p with | some q => decide (r.addr ≤ q.addr) | none => false
def badR (p : Option PgR) (r : PgR) : Bool := lowR p r || !Vm.may r.addr 256 r.prot || !(r.b.length == 256) || (r.file.isEmpty && !(r.off == 0))
def putE : Option PgR → List PgR → Nat
  | _, [] => 0
  | p, r :: t => if badR p r then 11 else putE (some r) t
theorem putE_at (l : List PgR) (p : Option PgR) : putE p l = 0 ∨ putE p l = 11 := by
  induction l generalizing p with
  | nil => exact .inl rfl
  | cons r t ih =>
    unfold putE
    split
    · exact .inr rfl
    · exact ih _
/-- all ahead of the i-th are good -/
def okTo (l : List PgR) (i : Nat) : Prop := ∀ j (hj : j < l.length), j < i → badR (if j = 0 then none else l[j - 1]?) l[j] = false
theorem putE_of (l : List PgR) : ∀ (p : Option PgR), (∀ j (hj : j < l.length), badR (if j = 0 then p else l[j - 1]?) l[j] = false) → putE p l = 0 := by
  induction l with
  | nil => intro p h; rfl
  | cons r t ih =>
    intro p h
    unfold putE
    have h0 := h 0 (by simp)
    simp only [if_true, List.getElem_cons_zero] at h0
    rw [if_neg (by rw [h0]; decide)]
    refine ih (some r) fun j hj => ?_
    have h1 := h (j + 1) (by simpa using hj)
    rw [if_neg (by omega), List.getElem_cons_succ, Nat.add_sub_cancel] at h1
    by_cases hj0 : j = 0
    · subst hj0
      simpa using h1
    · rw [if_neg hj0]
      obtain ⟨k, rfl⟩ : ∃ k, j = k + 1 := ⟨j - 1, by omega⟩
      simpa using h1
theorem putE_bad (l : List PgR) : ∀ (p : Option PgR) (i : Nat) (hi : i < l.length), badR (if i = 0 then p else l[i - 1]?) l[i] = true → putE p l = 11 := by
  induction l with
  | nil => intro p i hi; simp at hi
  | cons r t ih =>
    intro p i hi h
    unfold putE
    split
    · rfl
    · rename_i hb
      cases i with
      | zero => simp at h; exact absurd h hb
      | succ i =>
        refine ih (some r) i (by simpa using hi) ?_
        rw [if_neg (by omega), List.getElem_cons_succ, Nat.add_sub_cancel] at h
        by_cases hi0 : i = 0
        · subst hi0
          simpa using h
        · rw [if_neg hi0]
          obtain ⟨k, rfl⟩ : ∃ k, i = k + 1 := ⟨i - 1, by omega⟩
          simpa using h
theorem good_parts {p : Option PgR} {r : PgR} (h : badR p r = false) : lowR p r = false ∧ Vm.may r.addr 256 r.prot = true ∧ r.b.length = 256 ∧ (r.file = [] → r.off = 0) := by
  unfold badR at h
  simp only [Bool.or_eq_false_iff, Bool.and_eq_false_iff, Bool.not_eq_false'] at h
  refine ⟨h.1.1.1, h.1.1.2, by simpa using h.1.2, fun e => ?_⟩
  rcases h.2 with h2 | h2
  · rw [e] at h2; simp at h2
  · simpa using h2
end Go.Dm.Vm
namespace Go.Proofs.YtaoillfofiehpaaGreatDoor
open Go.RowKit Go.Dm Go.Dm.Vm Go.Maps Go.Dm.Oc Go.WideMaps Go.WideElems

def encR (x : PgR × Value) : List Value := [.int .u64 (x.1.addr : Int), .int .i64 x.1.prot, .bool x.1.dirty, .string ⟨x.1.file.toArray⟩, .int .u64 (x.1.off : Int), x.2]
theorem encR_len (x : PgR × Value) : (encR x).length = 6 := rfl
theorem wo_mapUpdate {P : Program} {o : Oper} {a : Act} {w : World} {Q : Exit → Act → World → Prop} {K : Act → World → Prop} (m x v : Operand) (t : TypeId) (ho : o.op = Op.mapUpdate t m x v) (v1 v2 v3 : Value) (h1 : a.eval m = v1) (h2 : a.eval x = v2) (h3 : a.eval v = v3)
    (h : UpdateGoal P t v1 v2 v3 w fun w' => K (a.put o.dst undef) w') : o.wp P a w K Q := by
  obtain ⟨_, w', hr, hk⟩ := h
  unfold Oper.wp
  simp [execOp, ho, h1, h2, h3, hr, Result.andThen]
  exact hk
theorem insP_last {p : Pg} {m : V} (h : ∀ q ∈ m, q.addr < p.addr) : insP p m = m ++ [p] := by
  induction m with
  | nil => rfl
  | cons q r ih =>
    unfold insP
    rw [if_neg (by have := h q (List.mem_cons_self ..); omega), ih fun x hx => h x (List.mem_cons_of_mem _ hx)]
    rfl
theorem run_ldo {P : Program} {a : Act} {o : Oper} {w' : World} (ty : TypeId) (x : Operand) (ho : o.op = .load ty x) (b off : Nat) (hx : a.eval x = .pointer (some ⟨b, off, none⟩)) {v : Value} (h : (loadVar ty ⟨b, off, none⟩).run P w' = .ok v w') : (execOp a.eval o).run P w' = .ok (.value v) w' := by
  unfold execOp
  simp only [ho, hx, Instr.loadAt, Instr.sureAddr, Sem.run_bind, Sem.run_pure, Result.andThen_ok, h]
theorem run_bdo {P : Program} {a : Act} {o : Oper} {w' : World} (ty : TypeId) (ps : Array (Nat × Operand)) (ho : o.op = .build ty ps) {v : Value} {qs : Array (Nat × Value)} (hq : (ps.map fun x => (x.1, a.eval x.2)) = qs) (h : (Instr.build ty qs).run P w' = .ok v w') : (execOp a.eval o).run P w' = .ok (.value v) w' := by
  unfold execOp
  simp only [ho, Sem.run_bind, Sem.run_pure, Result.andThen_ok, hq, h]
theorem fill_one (place : Nat → Option (Nat × Nat)) (cs : Array Value) (i off : Nat) (v : Value) (rest : List (Nat × Value)) (hp : place i = some (off, 1)) (hv : v.cells = #[v]) (hl : off + 1 ≤ cs.size) : Instr.fill place cs ((i, v) :: rest) = Instr.fill place (cs.setIfInBounds off v) rest := by
  rw [Instr.fill, hp]
  simp only [hv]
  rw [if_neg (by simp; omega)]
  rfl
theorem fill_agg (place : Nat → Option (Nat × Nat)) (cs : Array Value) (i off n : Nat) (B : Array Value) (hp : place i = some (off, n)) (hv : B.size = n) (hl : off + n ≤ cs.size) : Instr.fill place cs [(i, .agg B)] = some (B.zipIdx.foldl (fun cs (x : Value × Nat) => cs.setIfInBounds (off + x.2) x.1) cs) := by
  rw [Instr.fill, hp]
  have hc : (Value.agg B).cells = B := rfl
  simp only [hc]
  rw [if_neg (by simp; omega)]
  rfl
theorem foldl_put (off : Nat) (l : List Value) : ∀ (k : Nat) (cs : Array Value), off + k + l.length ≤ cs.size → ((l.zipIdx k).foldl (fun cs (x : Value × Nat) => cs.setIfInBounds (off + x.2) x.1) cs).toList = cs.toList.take (off + k) ++ l ++ cs.toList.drop (off + k + l.length) := by
  induction l with
  | nil => intro k cs h; simp
  | cons c r ih =>
    intro k cs h
    rw [List.length_cons] at h
    rw [List.zipIdx_cons, List.foldl_cons, ih (k + 1) _ (by rw [Array.size_setIfInBounds]; omega), Array.toList_setIfInBounds]
    have hlt : off + k < cs.toList.length := by rw [Array.length_toList]; omega
    rw [show off + (k + 1) = off + k + 1 by omega, List.take_succ_eq_append_getElem (by rw [List.length_set]; exact hlt), List.getElem_set_self, List.take_set_of_le (Nat.le_refl _), List.drop_set_of_lt (by omega), List.length_cons]
    simp only [List.append_assoc, List.cons_append, List.nil_append]
    rw [show off + k + 1 + r.length = off + k + (r.length + 1) by omega]
theorem built_eq (parts : List (Nat × Value)) : Tryz.prog.built 71 parts = Instr.fill (fun i => (#[(0, 1), (1, 1), (2, 1), (3, 1), (4, 256)] : Array (Nat × Nat))[i]?) Tryz.zeroCells71 parts := by kernel_rfl
theorem built_page (p : Int) (dt : Bool) (fl : ByteArray) (o : Nat) (B : Array Value) (hB : B.size = 256) :
    Tryz.prog.built 71 [(0, .int .i64 p), (1, .bool dt), (2, .string fl), (3, .int .u64 (o : Int)), (4, .agg B)] = some ((Value.int .i64 p :: Value.bool dt :: Value.string fl :: Value.int .u64 (o : Int) :: B.toList).toArray) := by
  rw [built_eq]
  have hz : Tryz.zeroCells71.size = 260 := by kernel_rfl
  generalize Tryz.zeroCells71 = Z at *
  rw [fill_one _ _ 0 0 _ _ rfl rfl (by omega), fill_one _ _ 1 1 _ _ rfl rfl (by rw [Array.size_setIfInBounds]; omega), fill_one _ _ 2 2 _ _ rfl rfl (by rw [Array.size_setIfInBounds, Array.size_setIfInBounds]; omega), fill_one _ _ 3 3 _ _ rfl rfl (by rw [Array.size_setIfInBounds, Array.size_setIfInBounds, Array.size_setIfInBounds]; omega)]
  have hsz : ((((Z.setIfInBounds 0 (.int .i64 p)).setIfInBounds 1 (.bool dt)).setIfInBounds 2 (.string fl)).setIfInBounds 3 (.int .u64 (o : Int))).size = 260 := by simpa using hz
  have htk : ((((Z.setIfInBounds 0 (.int .i64 p)).setIfInBounds 1 (.bool dt)).setIfInBounds 2 (.string fl)).setIfInBounds 3 (.int .u64 (o : Int))).toList.take 4 = [.int .i64 p, .bool dt, .string fl, .int .u64 (o : Int)] := by
    obtain ⟨l⟩ := Z
    have hl : l.length = 260 := by simpa using hz
    match l, hl with
    | _ :: _ :: _ :: _ :: _, _ => simp
  generalize (((Z.setIfInBounds 0 (.int .i64 p)).setIfInBounds 1 (.bool dt)).setIfInBounds 2 (.string fl)).setIfInBounds 3 (.int .u64 (o : Int)) = Z4 at *
  rw [fill_agg _ _ 4 4 256 B rfl hB (by omega)]
  congr 1
  apply Array.toList_inj.1
  have h := foldl_put 4 B.toList 0 Z4 (by rw [Array.length_toList]; omega)
  rw [htk, Array.length_toList, List.drop_of_length_le (by rw [Array.length_toList]; omega)] at h
  simp only [List.append_nil] at h
  rw [← Array.foldl_toList, Array.toList_zipIdx, h]
  rfl
section
variable {A : Nat → Prop} {w : World} {d mb x y z u : Nat} {f : Nat → Nat} {m : V}
end
end Go.Proofs.YtaoillfofiehpaaGreatDoor
