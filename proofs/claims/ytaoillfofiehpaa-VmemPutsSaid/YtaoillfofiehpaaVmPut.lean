/- Put. No condition. -/
import Derived.Test.YtaoillfofiehpaaVmL
import Derived.Deep.MidRow
set_option linter.unusedVariables false
set_option linter.unusedSimpArgs false
namespace Go.Dm.Vm
open Go
/-- a page as it is handed in -/
structure PgR where
  addr : Nat
  prot : Int
  dirty : Bool
  file : List UInt8
  off : Nat
  b : List UInt8
def toPg (r : PgR) : Pg := ⟨r.addr, r.prot.toNat, r.dirty, r.file, r.off, r.b⟩
def lowR (p : Option PgR) (r : PgR) : Bool := match p with | some q => decide (r.addr ≤ q.addr) | none => false
def badR (p : Option PgR) (r : PgR) : Bool := lowR p r || !Vm.may r.addr 256 r.prot || !(r.b.length == 256) || (r.file.isEmpty && !(r.off == 0))
def putE : Option PgR → List PgR → Nat
  | _, [] => 0
  | p, r :: t => if badR p r then 11 else putE (some r) t
theorem putE_at (l : List PgR) (p : Option PgR) : putE p l = 0 ∨ putE p l = 11 := by
  induction l generalizing p with
  | nil => exact .inl rfl
  | cons r t ih =>
    unfold putE
    split
    · exact .inr rfl
    · exact ih _
/-- all ahead of the i-th are good -/
def okTo (l : List PgR) (i : Nat) : Prop := ∀ j (hj : j < l.length), j < i → badR (if j = 0 then none else l[j - 1]?) l[j] = false
theorem putE_of (l : List PgR) : ∀ (p : Option PgR), (∀ j (hj : j < l.length), badR (if j = 0 then p else l[j - 1]?) l[j] = false) → putE p l = 0 := by
  induction l with
  | nil => intro p h; rfl
  | cons r t ih =>
    intro p h
    unfold putE
    have h0 := h 0 (by simp)
    simp only [if_true, List.getElem_cons_zero] at h0
    rw [if_neg (by rw [h0]; decide)]
    refine ih (some r) fun j hj => ?_
    have h1 := h (j + 1) (by simpa using hj)
    rw [if_neg (by omega), List.getElem_cons_succ, Nat.add_sub_cancel] at h1
    by_cases hj0 : j = 0
    · subst hj0
      simpa using h1
    · rw [if_neg hj0]
      obtain ⟨k, rfl⟩ : ∃ k, j = k + 1 := ⟨j - 1, by omega⟩
      simpa using h1
theorem putE_bad (l : List PgR) : ∀ (p : Option PgR) (i : Nat) (hi : i < l.length), badR (if i = 0 then p else l[i - 1]?) l[i] = true → putE p l = 11 := by
  induction l with
  | nil => intro p i hi; simp at hi
  | cons r t ih =>
    intro p i hi h
    unfold putE
    split
    · rfl
    · rename_i hb
      cases i with
      | zero => simp at h; exact absurd h hb
      | succ i =>
        refine ih (some r) i (by simpa using hi) ?_
        rw [if_neg (by omega), List.getElem_cons_succ, Nat.add_sub_cancel] at h
        by_cases hi0 : i = 0
        · subst hi0
          simpa using h
        · rw [if_neg hi0]
          obtain ⟨k, rfl⟩ : ∃ k, i = k + 1 := ⟨i - 1, by omega⟩
          simpa using h
theorem good_parts {p : Option PgR} {r : PgR} (h : badR p r = false) : lowR p r = false ∧ Vm.may r.addr 256 r.prot = true ∧ r.b.length = 256 ∧ (r.file = [] → r.off = 0) := by
  unfold badR at h
  simp only [Bool.or_eq_false_iff, Bool.and_eq_false_iff, Bool.not_eq_false'] at h
  refine ⟨h.1.1.1, h.1.1.2, by simpa using h.1.2, fun e => ?_⟩
  rcases h.2 with h2 | h2
  · rw [e] at h2; simp at h2
  · simpa using h2
end Go.Dm.Vm
namespace Go.Proofs.Ytaoillfofiehpaa
open Go.RowKit Go.Dm Go.Dm.Vm Go.Maps Go.Dm.Oc Go.WideMaps Go.WideElems

def encR (x : PgR × Value) : List Value := [.int .u64 (x.1.addr : Int), .int .i64 x.1.prot, .bool x.1.dirty, .string ⟨x.1.file.toArray⟩, .int .u64 (x.1.off : Int), x.2]
theorem encR_len (x : PgR × Value) : (encR x).length = 6 := rfl
theorem wo_mapUpdate {P : Program} {o : Oper} {a : Act} {w : World} {Q : Exit → Act → World → Prop} {K : Act → World → Prop} (m x v : Operand) (t : TypeId) (ho : o.op = Op.mapUpdate t m x v) (v1 v2 v3 : Value) (h1 : a.eval m = v1) (h2 : a.eval x = v2) (h3 : a.eval v = v3)
    (h : UpdateGoal P t v1 v2 v3 w fun w' => K (a.put o.dst undef) w') : o.wp P a w K Q := by
  obtain ⟨_, w', hr, hk⟩ := h
  unfold Oper.wp
  simp [execOp, ho, h1, h2, h3, hr, Result.andThen]
  exact hk
theorem insP_last {p : Pg} {m : V} (h : ∀ q ∈ m, q.addr < p.addr) : insP p m = m ++ [p] := by
  induction m with
  | nil => rfl
  | cons q r ih =>
    unfold insP
    rw [if_neg (by have := h q (List.mem_cons_self ..); omega), ih fun x hx => h x (List.mem_cons_of_mem _ hx)]
    rfl
theorem run_ldo {P : Program} {a : Act} {o : Oper} {w' : World} (ty : TypeId) (x : Operand) (ho : o.op = .load ty x) (b off : Nat) (hx : a.eval x = .pointer (some ⟨b, off, none⟩)) {v : Value} (h : (loadVar ty ⟨b, off, none⟩).run P w' = .ok v w') : (execOp a.eval o).run P w' = .ok (.value v) w' := by
  unfold execOp
  simp only [ho, hx, Instr.loadAt, Instr.sureAddr, Sem.run_bind, Sem.run_pure, Result.andThen_ok, h]
theorem run_bdo {P : Program} {a : Act} {o : Oper} {w' : World} (ty : TypeId) (ps : Array (Nat × Operand)) (ho : o.op = .build ty ps) {v : Value} {qs : Array (Nat × Value)} (hq : (ps.map fun x => (x.1, a.eval x.2)) = qs) (h : (Instr.build ty qs).run P w' = .ok v w') : (execOp a.eval o).run P w' = .ok (.value v) w' := by
  unfold execOp
  simp only [ho, Sem.run_bind, Sem.run_pure, Result.andThen_ok, hq, h]
theorem fill_one (place : Nat → Option (Nat × Nat)) (cs : Array Value) (i off : Nat) (v : Value) (rest : List (Nat × Value)) (hp : place i = some (off, 1)) (hv : v.cells = #[v]) (hl : off + 1 ≤ cs.size) : Instr.fill place cs ((i, v) :: rest) = Instr.fill place (cs.setIfInBounds off v) rest := by
  rw [Instr.fill, hp]
  simp only [hv]
  rw [if_neg (by simp; omega)]
  rfl
theorem fill_agg (place : Nat → Option (Nat × Nat)) (cs : Array Value) (i off n : Nat) (B : Array Value) (hp : place i = some (off, n)) (hv : B.size = n) (hl : off + n ≤ cs.size) : Instr.fill place cs [(i, .agg B)] = some (B.zipIdx.foldl (fun cs (x : Value × Nat) => cs.setIfInBounds (off + x.2) x.1) cs) := by
  rw [Instr.fill, hp]
  have hc : (Value.agg B).cells = B := rfl
  simp only [hc]
  rw [if_neg (by simp; omega)]
  rfl
theorem foldl_put (off : Nat) (l : List Value) : ∀ (k : Nat) (cs : Array Value), off + k + l.length ≤ cs.size → ((l.zipIdx k).foldl (fun cs (x : Value × Nat) => cs.setIfInBounds (off + x.2) x.1) cs).toList = cs.toList.take (off + k) ++ l ++ cs.toList.drop (off + k + l.length) := by
  induction l with
  | nil => intro k cs h; simp
  | cons c r ih =>
    intro k cs h
    rw [List.length_cons] at h
    rw [List.zipIdx_cons, List.foldl_cons, ih (k + 1) _ (by rw [Array.size_setIfInBounds]; omega), Array.toList_setIfInBounds]
    have hlt : off + k < cs.toList.length := by rw [Array.length_toList]; omega
    rw [show off + (k + 1) = off + k + 1 by omega, List.take_succ_eq_append_getElem (by rw [List.length_set]; exact hlt), List.getElem_set_self, List.take_set_of_le (Nat.le_refl _), List.drop_set_of_lt (by omega), List.length_cons]
    simp only [List.append_assoc, List.cons_append, List.nil_append]
    rw [show off + k + 1 + r.length = off + k + (r.length + 1) by omega]
theorem built_eq (parts : List (Nat × Value)) : Try.prog.built 67 parts = Instr.fill (fun i => (#[(0, 1), (1, 1), (2, 1), (3, 1), (4, 256)] : Array (Nat × Nat))[i]?) Try.zeroCells67 parts := by kernel_rfl
theorem built_page (p : Int) (dt : Bool) (fl : ByteArray) (o : Nat) (B : Array Value) (hB : B.size = 256) :
    Try.prog.built 67 [(0, .int .i64 p), (1, .bool dt), (2, .string fl), (3, .int .u64 (o : Int)), (4, .agg B)] = some ((Value.int .i64 p :: Value.bool dt :: Value.string fl :: Value.int .u64 (o : Int) :: B.toList).toArray) := by
  rw [built_eq]
  have hz : Try.zeroCells67.size = 260 := by kernel_rfl
  generalize Try.zeroCells67 = Z at *
  rw [fill_one _ _ 0 0 _ _ rfl rfl (by omega), fill_one _ _ 1 1 _ _ rfl rfl (by rw [Array.size_setIfInBounds]; omega), fill_one _ _ 2 2 _ _ rfl rfl (by rw [Array.size_setIfInBounds, Array.size_setIfInBounds]; omega), fill_one _ _ 3 3 _ _ rfl rfl (by rw [Array.size_setIfInBounds, Array.size_setIfInBounds, Array.size_setIfInBounds]; omega)]
  have hsz : ((((Z.setIfInBounds 0 (.int .i64 p)).setIfInBounds 1 (.bool dt)).setIfInBounds 2 (.string fl)).setIfInBounds 3 (.int .u64 (o : Int))).size = 260 := by simpa using hz
  have htk : ((((Z.setIfInBounds 0 (.int .i64 p)).setIfInBounds 1 (.bool dt)).setIfInBounds 2 (.string fl)).setIfInBounds 3 (.int .u64 (o : Int))).toList.take 4 = [.int .i64 p, .bool dt, .string fl, .int .u64 (o : Int)] := by
    obtain ⟨l⟩ := Z
    have hl : l.length = 260 := by simpa using hz
    match l, hl with
    | _ :: _ :: _ :: _ :: _, _ => simp
  generalize (((Z.setIfInBounds 0 (.int .i64 p)).setIfInBounds 1 (.bool dt)).setIfInBounds 2 (.string fl)).setIfInBounds 3 (.int .u64 (o : Int)) = Z4 at *
  rw [fill_agg _ _ 4 4 256 B rfl hB (by omega)]
  congr 1
  apply Array.toList_inj.1
  have h := foldl_put 4 B.toList 0 Z4 (by rw [Array.length_toList]; omega)
  rw [htk, Array.length_toList, List.drop_of_length_le (by rw [Array.length_toList]; omega)] at h
  simp only [List.append_nil] at h
  rw [← Array.foldl_toList, Array.toList_zipIdx, h]
  rfl
section
variable {A : Nat → Prop} {w : World} {d mb x y z u : Nat} {f : Nat → Nat} {m : V}
set_option maxRecDepth 100000 in
set_option maxHeartbeats 4000000 in
theorem vput_any {v : Value} (L : List (PgR × Value)) (hv : Fl A w 6 encR v L) (hB : ∀ x ∈ L, Bts A w x.2 x.1.b) (hr : ∀ x ∈ L, x.1.addr < 18446744073709551616 ∧ x.1.off < 18446744073709551616 ∧ x.1.file.length ≤ maxLen ∧ x.1.b.length ≤ 1099511627776) (hl : L.length ≤ 512) :
    Calls Try.prog 9 #[v] w fun e w' => Keep No w w' ∧ ((putE none (L.map (·.1)) = 0 ∧ ∃ d mb f, e = .returned (.tuple #[ptrTo d, .int .i64 0]) ∧ SRep (fun k => w.heap.size ≤ k ∧ k < w'.heap.size) w' d ((L.map (·.1)).map toPg) mb f) ∨ (putE none (L.map (·.1)) = 11 ∧ e = .returned (.tuple #[.pointer none, .int .i64 11]))) := by
  obtain ⟨av, cv, rfl, _, _⟩ := hv.shape
  go_enter Try.func9, Try.ntmps9
  go_wp2_with (first | (at_builtin; refine wl_append rfl _ _ _ _ rfl _ _ rfl rfl ?_) | (at_make; refine wl_make rfl _ _ _ rfl _ _ rfl rfl ?_) | (at_mapUpdate; refine wl_mapUpdate rfl _ _ _ _ rfl _ _ _ rfl rfl rfl ?_) | (at_lookup; refine wl_lookup rfl _ _ _ _ rfl _ _ rfl rfl ?_) | (at_delete; refine wl_delete rfl _ _ _ _ rfl _ _ rfl rfl ?_) | (with_reducible refine wl_len rfl _ _ rfl _ rfl ?_) | (with_reducible refine wl_range rfl _ _ rfl _ rfl ?_) | (with_reducible refine wl_next rfl _ rfl _ rfl ?_) | (with_reducible refine wl_copy rfl _ _ _ _ rfl _ _ rfl rfl ?_) | (with_reducible refine wl_max rfl _ _ _ _ rfl _ _ rfl rfl ?_) | (with_reducible refine wl_min rfl _ _ _ _ rfl _ _ rfl rfl ?_))
  refine (vnew_any _).mono ?_
  rintro e W0 ⟨mb, d, f0, rfl, hN, hk0⟩
  unfold ptrTo
  go_wp2_with (first | (at_builtin; refine wl_append rfl _ _ _ _ rfl _ _ rfl rfl ?_) | (at_make; refine wl_make rfl _ _ _ rfl _ _ rfl rfl ?_) | (at_mapUpdate; refine wl_mapUpdate rfl _ _ _ _ rfl _ _ _ rfl rfl rfl ?_) | (at_lookup; refine wl_lookup rfl _ _ _ _ rfl _ _ rfl rfl ?_) | (at_delete; refine wl_delete rfl _ _ _ _ rfl _ _ rfl rfl ?_) | (with_reducible refine wl_len rfl _ _ rfl _ rfl ?_) | (with_reducible refine wl_range rfl _ _ rfl _ rfl ?_) | (with_reducible refine wl_next rfl _ rfl _ rfl ?_) | (with_reducible refine wl_copy rfl _ _ _ _ rfl _ _ rfl rfl ?_) | (with_reducible refine wl_max rfl _ _ _ _ rfl _ _ rfl rfl ?_) | (with_reducible refine wl_min rfl _ _ _ _ rfl _ _ rfl rfl ?_))
  go_loopw [11] (fun iv wr => ∃ (i : Nat) (f : Nat → Nat), iv = .int .i64 i ∧ i ≤ L.length ∧ SRep (fun k => w.heap.size ≤ k ∧ k < wr.heap.size) wr d (((L.take i).map (·.1)).map toPg) mb f ∧ okTo (L.map (·.1)) i ∧ Keep No w wr) (fun iv _ => L.length - (intOf iv).toNat)
  case atStart => exact ⟨0, f0, rfl, Nat.zero_le _, hN, fun j _ hj => absurd hj (Nat.not_lt_zero _), hk0⟩
  case round =>
    clear hN hk0
    obtain ⟨i, f, rfl, hi, hS, hok, hk⟩ := hrel
    rcases Nat.lt_or_ge i L.length with hlt | hge
    · have hat := (hv.no hk).at encR_len hlt
      obtain ⟨g, off, cap, e, hAg, hg, _, _, hcell⟩ := hat
      cases e
      have hxm : L[i] ∈ L := List.getElem_mem hlt
      have q0 := hcell 0 _ rfl
      have q1 := hcell 1 _ rfl
      have q2 := hcell 2 _ rfl
      have q3 := hcell 3 _ rfl
      have q4 := hcell 4 _ rfl
      have q5 := hcell 5 _ rfl
      rw [Nat.add_zero] at q0
      have hltz : (i : Int) < (L.length : Int) := by omega
      have hbi := hB _ hxm
      obtain ⟨ra, ro, rf, rb⟩ := hr _ hxm
      have hLi : (L.map (·.1))[i]'(by simpa using hlt) = L[i].1 := by simp
      have hprev : 0 < i → ∃ q : PgR, (L.map (·.1))[i - 1]? = some q ∧ wr.cell? ⟨g, off + (i - 1) * 6, none⟩ = some (.int .u64 (q.addr : Int)) := fun h0 => by
        have hj : i - 1 < L.length := by omega
        obtain ⟨g', off', cap', e', _, _, _, _, hc'⟩ := (hv.no hk).at encR_len hj
        cases e'
        have := hc' 0 _ rfl
        rw [Nat.add_zero] at this
        exact ⟨L[i - 1].1, by rw [List.getElem?_map, List.getElem?_eq_getElem hj]; rfl, this⟩
      have htk : ((L.take (i + 1)).map (·.1)).map toPg = ((L.take i).map (·.1)).map toPg ++ [toPg L[i].1] := by rw [List.take_succ_eq_append_getElem hlt, List.map_append, List.map_append]; rfl
      have hbad : ∀ c : Bool, badR (if i = 0 then none else (L.map (·.1))[i - 1]?) L[i].1 = c → (c = true → putE none (L.map (·.1)) = 11) ∧ (c = false → okTo (L.map (·.1)) (i + 1)) := fun c hc => by
        subst hc
        refine ⟨fun h => putE_bad _ none i (by simpa using hlt) (by rw [hLi]; exact h), fun h => fun j hj hji => ?_⟩
        rcases Nat.lt_or_ge j i with h2 | h2
        · exact hok j hj h2
        · obtain rfl : j = i := by omega
          rw [hLi]; exact h
      have HBAD := Lib.hid hbad
      clear hbad hcell
      rw [show L[i].1 = L[i].fst from rfl] at *
      generalize hx : L[i] = xx at *
      obtain ⟨r, sv⟩ := xx
      simp only at q0 q1 q2 q3 q4 q5 ra ro rf rb hbi
      obtain ⟨ab, cb, rfl, _, _⟩ := hbi.shape
      have hb1 : (#[.int .u64 (r.addr : Int), .int .i64 r.prot, .bool r.dirty, .string ⟨r.file.toArray⟩, .int .u64 (r.off : Int), .slice ab r.b.length cb] : Array Value).all (·.oneCell') = true := by simp [Value.oneCell']
      have hi2 : (Try.prog.info? 27).map (·.size) = some 6 := by kernel_rfl
      have hz0 : (#[.int .u64 0, .int .i64 0, .bool false, .string ⟨#[]⟩, .int .u64 0, .slice none 0 0] : Array Value).size = 6 := rfl
      go_wp2_with (first | (at_builtin; refine wl_append rfl _ _ _ _ rfl _ _ rfl rfl ?_) | (at_make; refine wl_make rfl _ _ _ rfl _ _ rfl rfl ?_) | (at_mapUpdate; refine wl_mapUpdate rfl _ _ _ _ rfl _ _ _ rfl rfl rfl ?_) | (at_lookup; refine wl_lookup rfl _ _ _ _ rfl _ _ rfl rfl ?_) | (at_delete; refine wl_delete rfl _ _ _ _ rfl _ _ rfl rfl ?_) | (with_reducible refine wl_len rfl _ _ rfl _ rfl ?_) | (with_reducible refine wl_range rfl _ _ rfl _ rfl ?_) | (with_reducible refine wl_next rfl _ rfl _ rfl ?_) | (with_reducible refine wl_copy rfl _ _ _ _ rfl _ _ rfl rfl ?_) | (with_reducible refine wl_max rfl _ _ _ _ rfl _ _ rfl rfl ?_) | (with_reducible refine wl_min rfl _ _ _ _ rfl _ _ rfl rfl ?_) | (with_reducible refine wl_stAgg rfl _ _ _ rfl _ _ rfl rfl ?_))
      refine rg_stAgg (Blk.new wr _ _) hi2 hz0 hb1 ?_
      intro w2 hb2 hk2 hs2
      have hka : Keep No wr (wr.alloc (.cells #[.int .u64 0, .int .i64 0, .bool false, .string ⟨#[]⟩, .int .u64 0, .slice none 0 0] 27)) := (Keep.refl _ _).alloc _
      have hk2' : Keep No wr w2 := hka.trans hk2 fun j hj e => by have e2 : j = wr.heap.size := e; omega
      have hsz2 : wr.heap.size < w2.heap.size := hb2.lt
      have b0 := hb2.cell 0
      have b1 := hb2.cell 1
      have b2 := hb2.cell 2
      have b3 := hb2.cell 3
      have b4 := hb2.cell 4
      have b5 := hb2.cell 5
      simp only [List.getElem?_toArray, List.getElem?_cons_zero, List.getElem?_cons_succ] at b0 b1 b2 b3 b4 b5
      have hbi2 := hbi.keep (hk.trans' hk2') fun _ _ _ h => h
      have hS2 := (hS.no (fun k hk => hk.2) hk2').mono fun k hk ha => (⟨ha.1, hk⟩ : w.heap.size ≤ k ∧ k < w2.heap.size)
      have hkw2 := hk.trans' hk2'
      have hprev2 : 0 < i → ∃ q : PgR, (L.map (·.1))[i - 1]? = some q ∧ w2.cell? ⟨g, off + (i - 1) * 6, none⟩ = some (.int .u64 (q.addr : Int)) := fun h0 => by
        obtain ⟨q, e1, e2⟩ := hprev h0
        exact ⟨q, e1, (hk2'.cell (p := ⟨g, off + (i - 1) * 6, none⟩) hg fun h => h).trans e2⟩
      clear q0 q1 q2 q3 q4 q5 hprev hS hk hbi hs2 hka hk2 hk2'
      generalize wr.heap.size = tb at *
      obtain ⟨low, hlow⟩ : ∃ low : Bool, low = lowR (if i = 0 then none else (L.map (·.1))[i - 1]?) r := ⟨_, rfl⟩
      have hbd : badR (if i = 0 then none else (L.map (·.1))[i - 1]?) r = (low || !Vm.may r.addr 256 r.prot || !(r.b.length == 256) || (r.file.isEmpty && !(r.off == 0))) := by rw [hlow]; rfl
      rw [hbd] at HBAD
      clear hbd hxm
      go_wp2_with (first | (at_builtin; refine wl_append rfl _ _ _ _ rfl _ _ rfl rfl ?_) | (at_make; refine wl_make rfl _ _ _ rfl _ _ rfl rfl ?_) | (at_mapUpdate; refine wl_mapUpdate rfl _ _ _ _ rfl _ _ _ rfl rfl rfl ?_) | (at_lookup; refine wl_lookup rfl _ _ _ _ rfl _ _ rfl rfl ?_) | (at_delete; refine wl_delete rfl _ _ _ _ rfl _ _ rfl rfl ?_) | (with_reducible refine wl_len rfl _ _ rfl _ rfl ?_) | (with_reducible refine wl_range rfl _ _ rfl _ rfl ?_) | (with_reducible refine wl_next rfl _ rfl _ rfl ?_) | (with_reducible refine wl_copy rfl _ _ _ _ rfl _ _ rfl rfl ?_) | (with_reducible refine wl_max rfl _ _ _ _ rfl _ _ rfl rfl ?_) | (with_reducible refine wl_min rfl _ _ _ _ rfl _ _ rfl rfl ?_))
      rcases Nat.eq_zero_or_pos i with h0 | h0
      · subst h0
        have hl0 : low = false := hlow
        subst hl0
        clear hprev2 hlow
        refine wp_region_sig (fun w' => True) (fun j => decide (j ≤ 99)) [(0, true), (1, true), (2, true), (3, true), (4, true), (5, true), (6, true), (7, true), (8, true), (9, true), (10, true), (11, true), (12, true), (13, true)] (by kernel_rfl) (by kernel_rfl) (by intro c a d v w h; cases d <;> exact h) trivial ?_
        apply sig_still (o := ⟨some 16, _, _, _, _, _⟩) rfl rfl
        · intro w' hS
          first | (go_simp; done) | (go_simp; rfl) | rfl
        go_frame
        apply sig_still (o := ⟨some 17, _, _, _, _, _⟩) rfl rfl
        · intro w' hS
          first | (go_simp; done) | (go_simp; rfl) | rfl
        go_frame
        apply sig_still (o := ⟨some 18, _, _, _, _, _⟩) rfl rfl
        · intro w' hS
          first | (go_simp; done) | (go_simp; rfl) | rfl
        go_frame
        refine sig_skip (o := ⟨some 19, _, _, _, _, _⟩) rfl (by rfl) ?_
        go_frame
        refine sig_skip (o := ⟨some 20, _, _, _, _, _⟩) rfl (by rfl) ?_
        go_frame
        refine sig_skip (o := ⟨some 21, _, _, _, _, _⟩) rfl (by rfl) ?_
        go_frame
        refine sig_skip (o := ⟨some 22, _, _, _, _, _⟩) rfl (by rfl) ?_
        go_frame
        refine sig_skip (o := ⟨some 23, _, _, _, _, _⟩) rfl (by rfl) ?_
        go_frame
        refine sig_skip (o := ⟨some 24, _, _, _, _, _⟩) rfl (by rfl) ?_
        go_frame
        refine sig_skip (o := ⟨some 25, _, _, _, _, _⟩) rfl (by rfl) ?_
        go_frame
        refine sig_skip (o := ⟨some 26, _, _, _, _, _⟩) rfl (by rfl) ?_
        go_frame
        refine sig_skip (o := ⟨some 27, _, _, _, _, _⟩) rfl (by rfl) ?_
        go_frame
        apply sig_still (o := ⟨some 28, _, _, _, _, _⟩) rfl rfl
        · intro w' hS
          first | (go_simp; done) | (go_simp; rfl) | rfl
        go_frame
        apply sig_still (o := ⟨some 7, _, _, _, _, _⟩) rfl rfl
        · intro w' hS
          first | (go_simp; done) | (go_simp; rfl) | rfl
        go_frame
        refine sig_nil ?_
        have HLT : Hid (∀ q ∈ ((L.take 0).map (·.1)).map toPg, q.addr < r.addr) := Lib.hid (by simp)
        go_wp2_with (first | (at_builtin; refine wl_append rfl _ _ _ _ rfl _ _ rfl rfl ?_) | (at_make; refine wl_make rfl _ _ _ rfl _ _ rfl rfl ?_) | (at_mapUpdate; refine wl_mapUpdate rfl _ _ _ _ rfl _ _ _ rfl rfl rfl ?_) | (at_lookup; refine wl_lookup rfl _ _ _ _ rfl _ _ rfl rfl ?_) | (at_delete; refine wl_delete rfl _ _ _ _ rfl _ _ rfl rfl ?_) | (with_reducible refine wl_len rfl _ _ rfl _ rfl ?_) | (with_reducible refine wl_range rfl _ _ rfl _ rfl ?_) | (with_reducible refine wl_next rfl _ rfl _ rfl ?_) | (with_reducible refine wl_copy rfl _ _ _ _ rfl _ _ rfl rfl ?_) | (with_reducible refine wl_max rfl _ _ _ _ rfl _ _ rfl rfl ?_) | (with_reducible refine wl_min rfl _ _ _ _ rfl _ _ rfl rfl ?_))
        refine (vmay_any r.addr 256 r.prot ra (by omega) _).mono ?_
        rintro e X ⟨rfl, rfl⟩
        have hbl : (r.b.length : Int) < 9223372036854775808 := by omega
        cases hmay : Vm.may r.addr 256 r.prot with
        | false =>
          go_wp2_with (first | (at_builtin; refine wl_append rfl _ _ _ _ rfl _ _ rfl rfl ?_) | (at_make; refine wl_make rfl _ _ _ rfl _ _ rfl rfl ?_) | (at_mapUpdate; refine wl_mapUpdate rfl _ _ _ _ rfl _ _ _ rfl rfl rfl ?_) | (at_lookup; refine wl_lookup rfl _ _ _ _ rfl _ _ rfl rfl ?_) | (at_delete; refine wl_delete rfl _ _ _ _ rfl _ _ rfl rfl ?_) | (with_reducible refine wl_len rfl _ _ rfl _ rfl ?_) | (with_reducible refine wl_range rfl _ _ rfl _ rfl ?_) | (with_reducible refine wl_next rfl _ rfl _ rfl ?_) | (with_reducible refine wl_copy rfl _ _ _ _ rfl _ _ rfl rfl ?_) | (with_reducible refine wl_max rfl _ _ _ _ rfl _ _ rfl rfl ?_) | (with_reducible refine wl_min rfl _ _ _ _ rfl _ _ rfl rfl ?_))
          go_ret2
          exact ⟨hkw2.drew, .inr ⟨(HBAD.out true (by rw [hmay]; rfl)).1 rfl, rfl⟩⟩
        | true =>
          by_cases hb256 : r.b.length = 256
          · have hde : ({ data := #[] } : ByteArray).toList = [] := by rw [ByteArray.toList_eq]
            by_cases hfe : r.file = []
            · have hdf : ({ data := r.file.toArray } : ByteArray).toList = [] := by rw [ByteArray.toList_eq, hfe]
              by_cases hoz : r.off = 0
              · have hgood := (HBAD.out false (by rw [hmay, hb256, hfe, hoz]; rfl)).2 rfl
                have hpg : PgOk (toPg r) := by
                  have hp := may_parts hmay
                  have ht : top = 4294967296 := rfl
                  refine ⟨hp.1, ?_, ?_, hb256, ro, rf⟩
                  · show r.addr < top; omega
                  · show r.prot.toNat ≤ 7; omega
                have hpr : (r.prot.toNat : Int) = r.prot := by have hp := may_parts hmay; omega
                have HPR := Lib.hid hpr
                clear hpr
                have HG := Lib.hid hgood
                have HPG := Lib.hid hpg
                have i0 : (r.off : Int) = 0 := by omega
                clear hgood hpg HBAD hmay hde hfe
                rw [hb256] at b5 hbi2 hb2
                obtain ⟨g1, o1, cap1, e1, hA1, hl1, _, _, hc1⟩ := Sl.at hbi2 (by decide)
                cases e1
                have qd : w2.cell? ⟨d, 0, none⟩ = some (.map (some mb)) := hS2.blk.cell 0
                have hrg : w2.rangeAt g1 o1 (r.b.map bv) := hc1
                clear hc1
                go_wp2_with (first | (at_builtin; refine wl_append rfl _ _ _ _ rfl _ _ rfl rfl ?_) | (at_make; refine wl_make rfl _ _ _ rfl _ _ rfl rfl ?_) | (at_mapUpdate; refine wl_mapUpdate rfl _ _ _ _ rfl _ _ _ rfl rfl rfl ?_) | (at_lookup; refine wl_lookup rfl _ _ _ _ rfl _ _ rfl rfl ?_) | (at_delete; refine wl_delete rfl _ _ _ _ rfl _ _ rfl rfl ?_) | (with_reducible refine wl_len rfl _ _ rfl _ rfl ?_) | (with_reducible refine wl_range rfl _ _ rfl _ rfl ?_) | (with_reducible refine wl_next rfl _ rfl _ rfl ?_) | (with_reducible refine wl_copy rfl _ _ _ _ rfl _ _ rfl rfl ?_) | (with_reducible refine wl_max rfl _ _ _ _ rfl _ _ rfl rfl ?_) | (with_reducible refine wl_min rfl _ _ _ _ rfl _ _ rfl rfl ?_))
                clear hdf
                try clear hoz i0
                refine wp_region_sig (fun w' => w'.cell? ⟨tb, 0, none⟩ = some (.int .u64 (r.addr : Int)) ∧ w'.cell? ⟨tb, 1, none⟩ = some (.int .i64 r.prot) ∧ w'.cell? ⟨tb, 2, none⟩ = some (.bool r.dirty) ∧ w'.cell? ⟨tb, 3, none⟩ = some (.string ⟨r.file.toArray⟩) ∧ w'.cell? ⟨tb, 4, none⟩ = some (.int .u64 (r.off : Int)) ∧ w'.cell? ⟨tb, 5, none⟩ = some (.slice (some ⟨g1, o1, none⟩) 256 cb) ∧ w'.cell? ⟨d, 0, none⟩ = some (.map (some mb)) ∧ w'.rangeAt g1 o1 (r.b.map bv)) (fun j => decide (j ≤ 19)) [(0, true), (1, true), (2, true), (3, true), (4, true), (5, true), (6, true), (7, true), (8, true), (9, true), (10, true), (11, true), (12, true), (13, true), (14, true), (15, true), (16, true), (17, true), (18, true), (19, false), (20, false)] (by kernel_rfl) (by kernel_rfl) (by intro c a d v w h; cases d <;> exact h) ⟨b0, b1, b2, b3, b4, b5, qd, hrg⟩ ?_
                apply sig_still (o := ⟨some 54, _, _, _, _, _⟩) rfl rfl
                · intro w' hS
                  obtain ⟨q1, q2, q3, q4, q5, q6, q7, q8⟩ := hS
                  first | (go_simp; done) | (go_simp; rfl) | rfl
                go_frame
                apply sig_still (o := ⟨some 55, _, _, _, _, _⟩) rfl rfl
                · intro w' hS
                  obtain ⟨q1, q2, q3, q4, q5, q6, q7, q8⟩ := hS
                  first | (go_simp; done) | (go_simp; rfl) | rfl
                go_frame
                apply sig_still (o := ⟨some 56, _, _, _, _, _⟩) rfl rfl
                · intro w' hS
                  obtain ⟨q1, q2, q3, q4, q5, q6, q7, q8⟩ := hS
                  first | (go_simp; done) | (go_simp; rfl) | rfl
                go_frame
                apply sig_still (o := ⟨some 57, _, _, _, _, _⟩) rfl rfl
                · intro w' hS
                  obtain ⟨q1, q2, q3, q4, q5, q6, q7, q8⟩ := hS
                  first | (go_simp; done) | (go_simp; rfl) | rfl
                go_frame
                apply sig_still (o := ⟨some 58, _, _, _, _, _⟩) rfl rfl
                · intro w' hS
                  obtain ⟨q1, q2, q3, q4, q5, q6, q7, q8⟩ := hS
                  first | (go_simp; done) | (go_simp; rfl) | rfl
                go_frame
                apply sig_still (o := ⟨some 59, _, _, _, _, _⟩) rfl rfl
                · intro w' hS
                  obtain ⟨q1, q2, q3, q4, q5, q6, q7, q8⟩ := hS
                  first | (go_simp; done) | (go_simp; rfl) | rfl
                go_frame
                apply sig_still (o := ⟨some 60, _, _, _, _, _⟩) rfl rfl
                · intro w' hS
                  obtain ⟨q1, q2, q3, q4, q5, q6, q7, q8⟩ := hS
                  first | (go_simp; done) | (go_simp; rfl) | rfl
                go_frame
                apply sig_still (o := ⟨some 61, _, _, _, _, _⟩) rfl rfl
                · intro w' hS
                  obtain ⟨q1, q2, q3, q4, q5, q6, q7, q8⟩ := hS
                  first | (go_simp; done) | (go_simp; rfl) | rfl
                go_frame
                apply sig_still (o := ⟨some 62, _, _, _, _, _⟩) rfl rfl
                · intro w' hS
                  obtain ⟨q1, q2, q3, q4, q5, q6, q7, q8⟩ := hS
                  first | (go_simp; done) | (go_simp; rfl) | rfl
                go_frame
                apply sig_still (o := ⟨some 63, _, _, _, _, _⟩) rfl rfl
                · intro w' hS
                  obtain ⟨q1, q2, q3, q4, q5, q6, q7, q8⟩ := hS
                  first | (go_simp; done) | (go_simp; rfl) | rfl
                go_frame
                apply sig_still (o := ⟨some 64, _, _, _, _, _⟩) rfl rfl
                · intro w' hS
                  obtain ⟨q1, q2, q3, q4, q5, q6, q7, q8⟩ := hS
                  first | (go_simp; done) | (go_simp; rfl) | rfl
                go_frame
                apply sig_still (o := ⟨some 65, _, _, _, _, _⟩) rfl rfl
                · intro w' hS
                  obtain ⟨q1, q2, q3, q4, q5, q6, q7, q8⟩ := hS
                  first | (go_simp; done) | (go_simp; rfl) | rfl
                go_frame
                apply sig_still (o := ⟨some 66, _, _, _, _, _⟩) rfl rfl
                · intro w' hS
                  obtain ⟨q1, q2, q3, q4, q5, q6, q7, q8⟩ := hS
                  first | (go_simp; done) | (go_simp; rfl) | rfl
                go_frame
                apply sig_still (o := ⟨some 67, _, _, _, _, _⟩) rfl rfl
                · intro w' hS
                  obtain ⟨q1, q2, q3, q4, q5, q6, q7, q8⟩ := hS
                  first | (go_simp; done) | (go_simp; rfl) | rfl
                go_frame
                apply sig_still (o := ⟨some 68, _, _, _, _, _⟩) rfl rfl
                · intro w' hS
                  obtain ⟨q1, q2, q3, q4, q5, q6, q7, q8⟩ := hS
                  first | (go_simp; done) | (go_simp; rfl) | rfl
                go_frame
                apply sig_still (o := ⟨some 69, _, _, _, _, _⟩) rfl rfl
                · intro w' hS
                  obtain ⟨q1, q2, q3, q4, q5, q6, q7, q8⟩ := hS
                  first | (go_simp; done) | (go_simp; rfl) | rfl
                go_frame
                apply sig_still (o := ⟨some 70, _, _, _, _, _⟩) rfl rfl
                · intro w' hS
                  obtain ⟨q1, q2, q3, q4, q5, q6, q7, q8⟩ := hS
                  first | (go_simp; done) | (go_simp; rfl) | rfl
                go_frame
                apply sig_still (o := ⟨some 71, _, _, _, _, _⟩) rfl rfl
                · intro w' hS
                  obtain ⟨_, _, _, _, _, _, _, hq⟩ := hS
                  have hld := run_loadVar_mid (P := Try.prog) w' g1 o1 65 (r.b.map bv) _ hq Try.underlying65 rfl (by rw [List.length_map, hb256]; kernel_rfl)
                  exact run_ldo _ _ rfl g1 o1 rfl hld
                go_frame
                apply sig_still (o := ⟨some 72, _, _, _, _, _⟩) rfl rfl
                · intro w' hS
                  have hbu := run_build (P := Try.prog) w' 67 #[(0, .int .i64 r.prot), (1, .bool r.dirty), (2, .string ⟨r.file.toArray⟩), (3, .int .u64 (r.off : Int)), (4, .agg (r.b.map bv).toArray)] _ (built_page r.prot r.dirty ⟨r.file.toArray⟩ r.off (r.b.map bv).toArray (by simpa using hb256))
                  exact run_bdo _ _ rfl (by simp only [List.map_toArray, List.map_cons, List.map_nil]; rfl) hbu
                go_frame
                refine sig_eff (o := ⟨some 73, _, _, _, _, _⟩) rfl rfl (fun K hKe => ?_)
                go_wp2_with (first | (at_builtin; refine wl_append rfl _ _ _ _ rfl _ _ rfl rfl ?_) | (at_make; refine wl_make rfl _ _ _ rfl _ _ rfl rfl ?_) | (at_mapUpdate; refine wl_mapUpdate rfl _ _ _ _ rfl _ _ _ rfl rfl rfl ?_) | (at_lookup; refine wl_lookup rfl _ _ _ _ rfl _ _ rfl rfl ?_) | (at_delete; refine wl_delete rfl _ _ _ _ rfl _ _ rfl rfl ?_) | (with_reducible refine wl_len rfl _ _ rfl _ rfl ?_) | (with_reducible refine wl_range rfl _ _ rfl _ rfl ?_) | (with_reducible refine wl_next rfl _ rfl _ rfl ?_) | (with_reducible refine wl_copy rfl _ _ _ _ rfl _ _ rfl rfl ?_) | (with_reducible refine wl_max rfl _ _ _ _ rfl _ _ rfl rfl ?_) | (with_reducible refine wl_min rfl _ _ _ _ rfl _ _ rfl rfl ?_))
                have hCe : (Value.int .i64 r.prot :: Value.bool r.dirty :: Value.string ⟨r.file.toArray⟩ :: Value.int .u64 (r.off : Int) :: (r.b.map bv)).toArray = pgC (toPg r) := by
                  unfold pgC toPg
                  rw [HPR.out]
                rw [hCe]
                have hkd : Keep No w2 (w2.alloc (.cells (pgC (toPg r)) 67)).drew.drew := ((Keep.refl No w2).alloc _).drew.drew
                have hB3 : Blk (w2.alloc (.cells (pgC (toPg r)) 67)).drew.drew w2.heap.size (pgC (toPg r)) 67 := Blk.new w2 _ _
                have hS3 := hS2.no (fun k hk => hk.2) hkd
                generalize (w2.alloc (.cells (pgC (toPg r)) 67)).drew.drew = w3 at *
                have tbl : tb < w2.heap.size := hsz2
                refine ⟨fun _ => ⟨(hkd.cell (p := ⟨tb, 0, none⟩) tbl fun h => h).trans b0, (hkd.cell (p := ⟨tb, 1, none⟩) tbl fun h => h).trans b1, (hkd.cell (p := ⟨tb, 2, none⟩) tbl fun h => h).trans b2, (hkd.cell (p := ⟨tb, 3, none⟩) tbl fun h => h).trans b3, (hkd.cell (p := ⟨tb, 4, none⟩) tbl fun h => h).trans b4, (hkd.cell (p := ⟨tb, 5, none⟩) tbl fun h => h).trans b5, hS3.blk.cell 0, fun j u hu => (hkd.cell (p := ⟨g1, o1 + j, none⟩) hl1 fun h => h).trans (hrg j u hu)⟩, ?_⟩
                clear b0 b1 b2 b3 b4 b5 qd hrg
                refine sig_eff (o := ⟨none, _, _, _, _, _⟩) rfl rfl (fun K hKe => ?_)
                refine wo_mapUpdate _ _ _ _ rfl _ _ _ rfl rfl rfl ?_
                refine rg_store hS3.mp kU64 Try.underlying68 (by rw [VL_len, List.length_map, List.length_map, List.length_take]; unfold maxLen; omega) (kOf ra) ?_
                intro w4 hm4 hk4 hs4
                have hfree : ∀ q ∈ ((L.take 0).map (·.1)).map toPg, q.addr ≠ (toPg r).addr := fun q hq => Nat.ne_of_lt (HLT.out q hq)
                have hres := SRep.put (w0 := w2) (p := toPg r) (nb := w2.heap.size) hS3 (fun k hk => hk.2) HPG.out hfree (by rw [List.length_map, List.length_map, List.length_take]; omega) hm4 hk4 (Nat.le_refl _) hB3
                rw [insP_last HLT.out, ← htk] at hres
                have hmb0 : w.heap.size ≤ mb := hS2.Am.1
                have hw2l : w.heap.size ≤ w2.heap.size := hkw2.size
                have hres2 : SRep (fun k => w.heap.size ≤ k ∧ k < w4.heap.size) w4 d (((L.take (0 + 1)).map (·.1)).map toPg) mb (fun x => if x = (toPg r).addr then w2.heap.size else f x) := hres.mono fun k hk ha => by
                  rcases ha with ha | ha
                  · exact ⟨ha.1, hk⟩
                  · exact ⟨Nat.le_trans hw2l ha.1, hk⟩
                have hkf : Keep No w w4 := (hkw2.trans' hkd).trans hk4 fun j hj e => by have e2 : j = mb := e; omega
                clear hres hfree hm4 hk4 hs4 hB3 hS3 hkd hS2 hb2 hbi2
                refine hKe _ _ ⟨fun h => by simp at h, sig_nil ?_⟩
                go_wp2_with (first | (at_builtin; refine wl_append rfl _ _ _ _ rfl _ _ rfl rfl ?_) | (at_make; refine wl_make rfl _ _ _ rfl _ _ rfl rfl ?_) | (at_mapUpdate; refine wl_mapUpdate rfl _ _ _ _ rfl _ _ _ rfl rfl rfl ?_) | (at_lookup; refine wl_lookup rfl _ _ _ _ rfl _ _ rfl rfl ?_) | (at_delete; refine wl_delete rfl _ _ _ _ rfl _ _ rfl rfl ?_) | (with_reducible refine wl_len rfl _ _ rfl _ rfl ?_) | (with_reducible refine wl_range rfl _ _ rfl _ rfl ?_) | (with_reducible refine wl_next rfl _ rfl _ rfl ?_) | (with_reducible refine wl_copy rfl _ _ _ _ rfl _ _ rfl rfl ?_) | (with_reducible refine wl_max rfl _ _ _ _ rfl _ _ rfl rfl ?_) | (with_reducible refine wl_min rfl _ _ _ _ rfl _ _ rfl rfl ?_))
                go_roundw
                case rel => exact ⟨0 + 1, _, by go_num, hlt, hres2, HG.out, hkf⟩
                case measure => simp [intOf]; omega
              · have hoz1 : ((r.off : Int) == 0) = false := by simpa using hoz
                have hoz2 : (r.off : Int) ≠ 0 := by omega
                have hl256 : (r.b.length : Int) = 256 := by omega
                have hbad := (HBAD.out true (by rw [hmay, hfe]; simp; omega)).1 rfl
                clear hfe HBAD hde hbl
                go_wp2_with (first | (at_builtin; refine wl_append rfl _ _ _ _ rfl _ _ rfl rfl ?_) | (at_make; refine wl_make rfl _ _ _ rfl _ _ rfl rfl ?_) | (at_mapUpdate; refine wl_mapUpdate rfl _ _ _ _ rfl _ _ _ rfl rfl rfl ?_) | (at_lookup; refine wl_lookup rfl _ _ _ _ rfl _ _ rfl rfl ?_) | (at_delete; refine wl_delete rfl _ _ _ _ rfl _ _ rfl rfl ?_) | (with_reducible refine wl_len rfl _ _ rfl _ rfl ?_) | (with_reducible refine wl_range rfl _ _ rfl _ rfl ?_) | (with_reducible refine wl_next rfl _ rfl _ rfl ?_) | (with_reducible refine wl_copy rfl _ _ _ _ rfl _ _ rfl rfl ?_) | (with_reducible refine wl_max rfl _ _ _ _ rfl _ _ rfl rfl ?_) | (with_reducible refine wl_min rfl _ _ _ _ rfl _ _ rfl rfl ?_))
                go_ret2
                exact ⟨hkw2.drew, .inr ⟨hbad, rfl⟩⟩
            · obtain ⟨c0, r0, hcr⟩ := List.exists_cons_of_ne_nil hfe
              have hdf : ({ data := r.file.toArray } : ByteArray).toList = c0 :: r0 := by rw [ByteArray.toList_eq, hcr]
              have hgood := (HBAD.out false (by rw [hmay, hb256, hcr]; rfl)).2 rfl
              have hpg : PgOk (toPg r) := by
                have hp := may_parts hmay
                have ht : top = 4294967296 := rfl
                refine ⟨hp.1, ?_, ?_, hb256, ro, rf⟩
                · show r.addr < top; omega
                · show r.prot.toNat ≤ 7; omega
              have hpr : (r.prot.toNat : Int) = r.prot := by have hp := may_parts hmay; omega
              have HPR := Lib.hid hpr
              clear hpr
              have HG := Lib.hid hgood
              have HPG := Lib.hid hpg
              clear hgood hpg HBAD hmay hcr
              rw [hb256] at b5 hbi2 hb2
              obtain ⟨g1, o1, cap1, e1, hA1, hl1, _, _, hc1⟩ := Sl.at hbi2 (by decide)
              cases e1
              have qd : w2.cell? ⟨d, 0, none⟩ = some (.map (some mb)) := hS2.blk.cell 0
              have hrg : w2.rangeAt g1 o1 (r.b.map bv) := hc1
              clear hc1
              go_wp2_with (first | (at_builtin; refine wl_append rfl _ _ _ _ rfl _ _ rfl rfl ?_) | (at_make; refine wl_make rfl _ _ _ rfl _ _ rfl rfl ?_) | (at_mapUpdate; refine wl_mapUpdate rfl _ _ _ _ rfl _ _ _ rfl rfl rfl ?_) | (at_lookup; refine wl_lookup rfl _ _ _ _ rfl _ _ rfl rfl ?_) | (at_delete; refine wl_delete rfl _ _ _ _ rfl _ _ rfl rfl ?_) | (with_reducible refine wl_len rfl _ _ rfl _ rfl ?_) | (with_reducible refine wl_range rfl _ _ rfl _ rfl ?_) | (with_reducible refine wl_next rfl _ rfl _ rfl ?_) | (with_reducible refine wl_copy rfl _ _ _ _ rfl _ _ rfl rfl ?_) | (with_reducible refine wl_max rfl _ _ _ _ rfl _ _ rfl rfl ?_) | (with_reducible refine wl_min rfl _ _ _ _ rfl _ _ rfl rfl ?_))
              clear hdf
              try clear hoz i0
              refine wp_region_sig (fun w' => w'.cell? ⟨tb, 0, none⟩ = some (.int .u64 (r.addr : Int)) ∧ w'.cell? ⟨tb, 1, none⟩ = some (.int .i64 r.prot) ∧ w'.cell? ⟨tb, 2, none⟩ = some (.bool r.dirty) ∧ w'.cell? ⟨tb, 3, none⟩ = some (.string ⟨r.file.toArray⟩) ∧ w'.cell? ⟨tb, 4, none⟩ = some (.int .u64 (r.off : Int)) ∧ w'.cell? ⟨tb, 5, none⟩ = some (.slice (some ⟨g1, o1, none⟩) 256 cb) ∧ w'.cell? ⟨d, 0, none⟩ = some (.map (some mb)) ∧ w'.rangeAt g1 o1 (r.b.map bv)) (fun j => decide (j ≤ 19)) [(0, true), (1, true), (2, true), (3, true), (4, true), (5, true), (6, true), (7, true), (8, true), (9, true), (10, true), (11, true), (12, true), (13, true), (14, true), (15, true), (16, true), (17, true), (18, true), (19, false), (20, false)] (by kernel_rfl) (by kernel_rfl) (by intro c a d v w h; cases d <;> exact h) ⟨b0, b1, b2, b3, b4, b5, qd, hrg⟩ ?_
              apply sig_still (o := ⟨some 54, _, _, _, _, _⟩) rfl rfl
              · intro w' hS
                obtain ⟨q1, q2, q3, q4, q5, q6, q7, q8⟩ := hS
                first | (go_simp; done) | (go_simp; rfl) | rfl
              go_frame
              apply sig_still (o := ⟨some 55, _, _, _, _, _⟩) rfl rfl
              · intro w' hS
                obtain ⟨q1, q2, q3, q4, q5, q6, q7, q8⟩ := hS
                first | (go_simp; done) | (go_simp; rfl) | rfl
              go_frame
              apply sig_still (o := ⟨some 56, _, _, _, _, _⟩) rfl rfl
              · intro w' hS
                obtain ⟨q1, q2, q3, q4, q5, q6, q7, q8⟩ := hS
                first | (go_simp; done) | (go_simp; rfl) | rfl
              go_frame
              apply sig_still (o := ⟨some 57, _, _, _, _, _⟩) rfl rfl
              · intro w' hS
                obtain ⟨q1, q2, q3, q4, q5, q6, q7, q8⟩ := hS
                first | (go_simp; done) | (go_simp; rfl) | rfl
              go_frame
              apply sig_still (o := ⟨some 58, _, _, _, _, _⟩) rfl rfl
              · intro w' hS
                obtain ⟨q1, q2, q3, q4, q5, q6, q7, q8⟩ := hS
                first | (go_simp; done) | (go_simp; rfl) | rfl
              go_frame
              apply sig_still (o := ⟨some 59, _, _, _, _, _⟩) rfl rfl
              · intro w' hS
                obtain ⟨q1, q2, q3, q4, q5, q6, q7, q8⟩ := hS
                first | (go_simp; done) | (go_simp; rfl) | rfl
              go_frame
              apply sig_still (o := ⟨some 60, _, _, _, _, _⟩) rfl rfl
              · intro w' hS
                obtain ⟨q1, q2, q3, q4, q5, q6, q7, q8⟩ := hS
                first | (go_simp; done) | (go_simp; rfl) | rfl
              go_frame
              apply sig_still (o := ⟨some 61, _, _, _, _, _⟩) rfl rfl
              · intro w' hS
                obtain ⟨q1, q2, q3, q4, q5, q6, q7, q8⟩ := hS
                first | (go_simp; done) | (go_simp; rfl) | rfl
              go_frame
              apply sig_still (o := ⟨some 62, _, _, _, _, _⟩) rfl rfl
              · intro w' hS
                obtain ⟨q1, q2, q3, q4, q5, q6, q7, q8⟩ := hS
                first | (go_simp; done) | (go_simp; rfl) | rfl
              go_frame
              apply sig_still (o := ⟨some 63, _, _, _, _, _⟩) rfl rfl
              · intro w' hS
                obtain ⟨q1, q2, q3, q4, q5, q6, q7, q8⟩ := hS
                first | (go_simp; done) | (go_simp; rfl) | rfl
              go_frame
              apply sig_still (o := ⟨some 64, _, _, _, _, _⟩) rfl rfl
              · intro w' hS
                obtain ⟨q1, q2, q3, q4, q5, q6, q7, q8⟩ := hS
                first | (go_simp; done) | (go_simp; rfl) | rfl
              go_frame
              apply sig_still (o := ⟨some 65, _, _, _, _, _⟩) rfl rfl
              · intro w' hS
                obtain ⟨q1, q2, q3, q4, q5, q6, q7, q8⟩ := hS
                first | (go_simp; done) | (go_simp; rfl) | rfl
              go_frame
              apply sig_still (o := ⟨some 66, _, _, _, _, _⟩) rfl rfl
              · intro w' hS
                obtain ⟨q1, q2, q3, q4, q5, q6, q7, q8⟩ := hS
                first | (go_simp; done) | (go_simp; rfl) | rfl
              go_frame
              apply sig_still (o := ⟨some 67, _, _, _, _, _⟩) rfl rfl
              · intro w' hS
                obtain ⟨q1, q2, q3, q4, q5, q6, q7, q8⟩ := hS
                first | (go_simp; done) | (go_simp; rfl) | rfl
              go_frame
              apply sig_still (o := ⟨some 68, _, _, _, _, _⟩) rfl rfl
              · intro w' hS
                obtain ⟨q1, q2, q3, q4, q5, q6, q7, q8⟩ := hS
                first | (go_simp; done) | (go_simp; rfl) | rfl
              go_frame
              apply sig_still (o := ⟨some 69, _, _, _, _, _⟩) rfl rfl
              · intro w' hS
                obtain ⟨q1, q2, q3, q4, q5, q6, q7, q8⟩ := hS
                first | (go_simp; done) | (go_simp; rfl) | rfl
              go_frame
              apply sig_still (o := ⟨some 70, _, _, _, _, _⟩) rfl rfl
              · intro w' hS
                obtain ⟨q1, q2, q3, q4, q5, q6, q7, q8⟩ := hS
                first | (go_simp; done) | (go_simp; rfl) | rfl
              go_frame
              apply sig_still (o := ⟨some 71, _, _, _, _, _⟩) rfl rfl
              · intro w' hS
                obtain ⟨_, _, _, _, _, _, _, hq⟩ := hS
                have hld := run_loadVar_mid (P := Try.prog) w' g1 o1 65 (r.b.map bv) _ hq Try.underlying65 rfl (by rw [List.length_map, hb256]; kernel_rfl)
                exact run_ldo _ _ rfl g1 o1 rfl hld
              go_frame
              apply sig_still (o := ⟨some 72, _, _, _, _, _⟩) rfl rfl
              · intro w' hS
                have hbu := run_build (P := Try.prog) w' 67 #[(0, .int .i64 r.prot), (1, .bool r.dirty), (2, .string ⟨r.file.toArray⟩), (3, .int .u64 (r.off : Int)), (4, .agg (r.b.map bv).toArray)] _ (built_page r.prot r.dirty ⟨r.file.toArray⟩ r.off (r.b.map bv).toArray (by simpa using hb256))
                exact run_bdo _ _ rfl (by simp only [List.map_toArray, List.map_cons, List.map_nil]; rfl) hbu
              go_frame
              refine sig_eff (o := ⟨some 73, _, _, _, _, _⟩) rfl rfl (fun K hKe => ?_)
              go_wp2_with (first | (at_builtin; refine wl_append rfl _ _ _ _ rfl _ _ rfl rfl ?_) | (at_make; refine wl_make rfl _ _ _ rfl _ _ rfl rfl ?_) | (at_mapUpdate; refine wl_mapUpdate rfl _ _ _ _ rfl _ _ _ rfl rfl rfl ?_) | (at_lookup; refine wl_lookup rfl _ _ _ _ rfl _ _ rfl rfl ?_) | (at_delete; refine wl_delete rfl _ _ _ _ rfl _ _ rfl rfl ?_) | (with_reducible refine wl_len rfl _ _ rfl _ rfl ?_) | (with_reducible refine wl_range rfl _ _ rfl _ rfl ?_) | (with_reducible refine wl_next rfl _ rfl _ rfl ?_) | (with_reducible refine wl_copy rfl _ _ _ _ rfl _ _ rfl rfl ?_) | (with_reducible refine wl_max rfl _ _ _ _ rfl _ _ rfl rfl ?_) | (with_reducible refine wl_min rfl _ _ _ _ rfl _ _ rfl rfl ?_))
              have hCe : (Value.int .i64 r.prot :: Value.bool r.dirty :: Value.string ⟨r.file.toArray⟩ :: Value.int .u64 (r.off : Int) :: (r.b.map bv)).toArray = pgC (toPg r) := by
                unfold pgC toPg
                rw [HPR.out]
              rw [hCe]
              have hkd : Keep No w2 (w2.alloc (.cells (pgC (toPg r)) 67)).drew.drew := ((Keep.refl No w2).alloc _).drew.drew
              have hB3 : Blk (w2.alloc (.cells (pgC (toPg r)) 67)).drew.drew w2.heap.size (pgC (toPg r)) 67 := Blk.new w2 _ _
              have hS3 := hS2.no (fun k hk => hk.2) hkd
              generalize (w2.alloc (.cells (pgC (toPg r)) 67)).drew.drew = w3 at *
              have tbl : tb < w2.heap.size := hsz2
              refine ⟨fun _ => ⟨(hkd.cell (p := ⟨tb, 0, none⟩) tbl fun h => h).trans b0, (hkd.cell (p := ⟨tb, 1, none⟩) tbl fun h => h).trans b1, (hkd.cell (p := ⟨tb, 2, none⟩) tbl fun h => h).trans b2, (hkd.cell (p := ⟨tb, 3, none⟩) tbl fun h => h).trans b3, (hkd.cell (p := ⟨tb, 4, none⟩) tbl fun h => h).trans b4, (hkd.cell (p := ⟨tb, 5, none⟩) tbl fun h => h).trans b5, hS3.blk.cell 0, fun j u hu => (hkd.cell (p := ⟨g1, o1 + j, none⟩) hl1 fun h => h).trans (hrg j u hu)⟩, ?_⟩
              clear b0 b1 b2 b3 b4 b5 qd hrg
              refine sig_eff (o := ⟨none, _, _, _, _, _⟩) rfl rfl (fun K hKe => ?_)
              refine wo_mapUpdate _ _ _ _ rfl _ _ _ rfl rfl rfl ?_
              refine rg_store hS3.mp kU64 Try.underlying68 (by rw [VL_len, List.length_map, List.length_map, List.length_take]; unfold maxLen; omega) (kOf ra) ?_
              intro w4 hm4 hk4 hs4
              have hfree : ∀ q ∈ ((L.take 0).map (·.1)).map toPg, q.addr ≠ (toPg r).addr := fun q hq => Nat.ne_of_lt (HLT.out q hq)
              have hres := SRep.put (w0 := w2) (p := toPg r) (nb := w2.heap.size) hS3 (fun k hk => hk.2) HPG.out hfree (by rw [List.length_map, List.length_map, List.length_take]; omega) hm4 hk4 (Nat.le_refl _) hB3
              rw [insP_last HLT.out, ← htk] at hres
              have hmb0 : w.heap.size ≤ mb := hS2.Am.1
              have hw2l : w.heap.size ≤ w2.heap.size := hkw2.size
              have hres2 : SRep (fun k => w.heap.size ≤ k ∧ k < w4.heap.size) w4 d (((L.take (0 + 1)).map (·.1)).map toPg) mb (fun x => if x = (toPg r).addr then w2.heap.size else f x) := hres.mono fun k hk ha => by
                rcases ha with ha | ha
                · exact ⟨ha.1, hk⟩
                · exact ⟨Nat.le_trans hw2l ha.1, hk⟩
              have hkf : Keep No w w4 := (hkw2.trans' hkd).trans hk4 fun j hj e => by have e2 : j = mb := e; omega
              clear hres hfree hm4 hk4 hs4 hB3 hS3 hkd hS2 hb2 hbi2
              refine hKe _ _ ⟨fun h => by simp at h, sig_nil ?_⟩
              go_wp2_with (first | (at_builtin; refine wl_append rfl _ _ _ _ rfl _ _ rfl rfl ?_) | (at_make; refine wl_make rfl _ _ _ rfl _ _ rfl rfl ?_) | (at_mapUpdate; refine wl_mapUpdate rfl _ _ _ _ rfl _ _ _ rfl rfl rfl ?_) | (at_lookup; refine wl_lookup rfl _ _ _ _ rfl _ _ rfl rfl ?_) | (at_delete; refine wl_delete rfl _ _ _ _ rfl _ _ rfl rfl ?_) | (with_reducible refine wl_len rfl _ _ rfl _ rfl ?_) | (with_reducible refine wl_range rfl _ _ rfl _ rfl ?_) | (with_reducible refine wl_next rfl _ rfl _ rfl ?_) | (with_reducible refine wl_copy rfl _ _ _ _ rfl _ _ rfl rfl ?_) | (with_reducible refine wl_max rfl _ _ _ _ rfl _ _ rfl rfl ?_) | (with_reducible refine wl_min rfl _ _ _ _ rfl _ _ rfl rfl ?_))
              go_roundw
              case rel => exact ⟨0 + 1, _, by go_num, hlt, hres2, HG.out, hkf⟩
              case measure => simp [intOf]; omega
          · have hl256 : ((r.b.length : Int) == 256) = false := by simp; omega
            have hl257 : (r.b.length : Int) ≠ 256 := by omega
            go_wp2_with (first | (at_builtin; refine wl_append rfl _ _ _ _ rfl _ _ rfl rfl ?_) | (at_make; refine wl_make rfl _ _ _ rfl _ _ rfl rfl ?_) | (at_mapUpdate; refine wl_mapUpdate rfl _ _ _ _ rfl _ _ _ rfl rfl rfl ?_) | (at_lookup; refine wl_lookup rfl _ _ _ _ rfl _ _ rfl rfl ?_) | (at_delete; refine wl_delete rfl _ _ _ _ rfl _ _ rfl rfl ?_) | (with_reducible refine wl_len rfl _ _ rfl _ rfl ?_) | (with_reducible refine wl_range rfl _ _ rfl _ rfl ?_) | (with_reducible refine wl_next rfl _ rfl _ rfl ?_) | (with_reducible refine wl_copy rfl _ _ _ _ rfl _ _ rfl rfl ?_) | (with_reducible refine wl_max rfl _ _ _ _ rfl _ _ rfl rfl ?_) | (with_reducible refine wl_min rfl _ _ _ _ rfl _ _ rfl rfl ?_))
            go_ret2
            exact ⟨hkw2.drew, .inr ⟨(HBAD.out true (by rw [hmay]; simp [hb256])).1 rfl, rfl⟩⟩
      · obtain ⟨q, hq, qc⟩ := hprev2 h0
        rw [if_neg (by omega), hq] at hlow
        have hlw : low = decide (r.addr ≤ q.addr) := hlow
        have i1 : decide ((0 : Int) < (i : Int)) = true := by simp; omega
        have i2 : decide (0 < i) = true := by simp; omega
        obtain ⟨j, hj⟩ : ∃ j, j = i - 1 := ⟨_, rfl⟩
        rw [← hj] at qc
        have i3 : (i : Int) - 1 = (j : Int) := by omega
        have i4 : IntKind.i64.wrap (j : Int) = (j : Int) := by rw [IntKind.wrap_i64]; omega
        have i5 : (j : Int) < (L.length : Int) := by omega
        have i6 : decide ((r.addr : Int) ≤ (q.addr : Int)) = low := by rw [hlw, Bool.eq_iff_iff]; simp
        have i7 : decide (r.addr ≤ q.addr) = low := hlw.symm
        have hltf : low = false → ∀ q' ∈ ((L.take i).map (·.1)).map toPg, q'.addr < r.addr := fun hl0 q' hq' => by
          rw [hl0] at hlw
          have hrq : q.addr < r.addr := by have := hlw.symm; simp at this; omega
          have hML : (((L.take i).map (·.1)).map toPg).length = i := by rw [List.length_map, List.length_map, List.length_take]; omega
          obtain ⟨k, hk, rfl⟩ := List.getElem_of_mem hq'
          have hlast : (((L.take i).map (·.1)).map toPg)[i - 1]'(by omega) = toPg q := by
            have h1 : (((L.take i).map (·.1)).map toPg)[i - 1]? = some (toPg q) := by
              rw [List.getElem?_map, List.getElem?_map, List.getElem?_take, if_pos (by omega)]
              rw [List.getElem?_map] at hq
              rw [hq]
              rfl
            rw [List.getElem?_eq_getElem (by omega)] at h1
            exact Option.some.inj h1
          rcases Nat.lt_or_ge k (i - 1) with h2 | h2
          · have h3 := List.pairwise_iff_getElem.1 hS2.ok.srt k (i - 1) hk (by omega) h2
            rw [hlast] at h3
            have h4 : (toPg q).addr = q.addr := rfl
            omega
          · have h5 : k = i - 1 := by omega
            subst h5
            rw [hlast]
            exact hrq
        have HLT0 := Lib.hid hltf
        clear hltf
        have HJ := Lib.hid hj
        clear hj hlow hlw hprev2 hq
        refine wp_region_sig (fun w' => w'.cell? ⟨tb, 0, none⟩ = some (.int .u64 (r.addr : Int)) ∧ w'.cell? ⟨g, off + j * 6, none⟩ = some (.int .u64 (q.addr : Int))) (fun j => decide (j ≤ 99)) [(0, true), (1, true), (2, true), (3, true), (4, true), (5, true), (6, true), (7, true), (8, true), (9, true), (10, true), (11, true), (12, true), (13, true)] (by kernel_rfl) (by kernel_rfl) (by intro c a d v w h; cases d <;> exact h) ⟨b0, qc⟩ ?_
        apply sig_still (o := ⟨some 16, _, _, _, _, _⟩) rfl rfl
        · intro w' hS
          obtain ⟨q1, q2⟩ := hS
          first | (go_simp; done) | (go_simp; rfl) | rfl
        go_frame
        apply sig_still (o := ⟨some 17, _, _, _, _, _⟩) rfl rfl
        · intro w' hS
          obtain ⟨q1, q2⟩ := hS
          first | (go_simp; done) | (go_simp; rfl) | rfl
        go_frame
        apply sig_still (o := ⟨some 18, _, _, _, _, _⟩) rfl rfl
        · intro w' hS
          obtain ⟨q1, q2⟩ := hS
          first | (go_simp; done) | (go_simp; rfl) | rfl
        go_frame
        apply sig_guard (o := ⟨some 19, _, _, _, _, _⟩) rfl (by rfl)
        · intro w' hS
          obtain ⟨q1, q2⟩ := hS
          first | (go_simp; done) | (go_simp; rfl) | rfl
        go_frame
        apply sig_guard (o := ⟨some 20, _, _, _, _, _⟩) rfl (by rfl)
        · intro w' hS
          obtain ⟨q1, q2⟩ := hS
          first | (go_simp; done) | (go_simp; rfl) | rfl
        go_frame
        apply sig_guard (o := ⟨some 21, _, _, _, _, _⟩) rfl (by rfl)
        · intro w' hS
          obtain ⟨q1, q2⟩ := hS
          first | (go_simp; done) | (go_simp; rfl) | rfl
        go_frame
        apply sig_guard (o := ⟨some 22, _, _, _, _, _⟩) rfl (by rfl)
        · intro w' hS
          obtain ⟨q1, q2⟩ := hS
          first | (go_simp; done) | (go_simp; rfl) | rfl
        go_frame
        apply sig_guard (o := ⟨some 23, _, _, _, _, _⟩) rfl (by rfl)
        · intro w' hS
          obtain ⟨q1, q2⟩ := hS
          first | (go_simp; done) | (go_simp; rfl) | rfl
        go_frame
        apply sig_guard (o := ⟨some 24, _, _, _, _, _⟩) rfl (by rfl)
        · intro w' hS
          obtain ⟨q1, q2⟩ := hS
          first | (go_simp; done) | (go_simp; rfl) | rfl
        go_frame
        apply sig_guard (o := ⟨some 25, _, _, _, _, _⟩) rfl (by rfl)
        · intro w' hS
          obtain ⟨q1, q2⟩ := hS
          first | (go_simp; done) | (go_simp; rfl) | rfl
        go_frame
        apply sig_guard (o := ⟨some 26, _, _, _, _, _⟩) rfl (by rfl)
        · intro w' hS
          obtain ⟨q1, q2⟩ := hS
          first | (go_simp; done) | (go_simp; rfl) | rfl
        go_frame
        apply sig_guard (o := ⟨some 27, _, _, _, _, _⟩) rfl (by rfl)
        · intro w' hS
          obtain ⟨q1, q2⟩ := hS
          first | (go_simp; done) | (go_simp; rfl) | rfl
        go_frame
        apply sig_still (o := ⟨some 28, _, _, _, _, _⟩) rfl rfl
        · intro w' hS
          obtain ⟨q1, q2⟩ := hS
          first | (go_simp; done) | (go_simp; rfl) | rfl
        go_frame
        apply sig_still (o := ⟨some 7, _, _, _, _, _⟩) rfl rfl
        · intro w' hS
          obtain ⟨q1, q2⟩ := hS
          first | (go_simp; done) | (go_simp; rfl) | rfl
        go_frame
        refine sig_nil ?_
        cases low with
        | true =>
          go_wp2_with (first | (at_builtin; refine wl_append rfl _ _ _ _ rfl _ _ rfl rfl ?_) | (at_make; refine wl_make rfl _ _ _ rfl _ _ rfl rfl ?_) | (at_mapUpdate; refine wl_mapUpdate rfl _ _ _ _ rfl _ _ _ rfl rfl rfl ?_) | (at_lookup; refine wl_lookup rfl _ _ _ _ rfl _ _ rfl rfl ?_) | (at_delete; refine wl_delete rfl _ _ _ _ rfl _ _ rfl rfl ?_) | (with_reducible refine wl_len rfl _ _ rfl _ rfl ?_) | (with_reducible refine wl_range rfl _ _ rfl _ rfl ?_) | (with_reducible refine wl_next rfl _ rfl _ rfl ?_) | (with_reducible refine wl_copy rfl _ _ _ _ rfl _ _ rfl rfl ?_) | (with_reducible refine wl_max rfl _ _ _ _ rfl _ _ rfl rfl ?_) | (with_reducible refine wl_min rfl _ _ _ _ rfl _ _ rfl rfl ?_))
          go_ret2
          exact ⟨hkw2.drew, .inr ⟨(HBAD.out true (by rfl)).1 rfl, rfl⟩⟩
        | false =>
          have HLT : Hid (∀ q ∈ ((L.take i).map (·.1)).map toPg, q.addr < r.addr) := Lib.hid (HLT0.out rfl)
          clear HLT0
          go_wp2_with (first | (at_builtin; refine wl_append rfl _ _ _ _ rfl _ _ rfl rfl ?_) | (at_make; refine wl_make rfl _ _ _ rfl _ _ rfl rfl ?_) | (at_mapUpdate; refine wl_mapUpdate rfl _ _ _ _ rfl _ _ _ rfl rfl rfl ?_) | (at_lookup; refine wl_lookup rfl _ _ _ _ rfl _ _ rfl rfl ?_) | (at_delete; refine wl_delete rfl _ _ _ _ rfl _ _ rfl rfl ?_) | (with_reducible refine wl_len rfl _ _ rfl _ rfl ?_) | (with_reducible refine wl_range rfl _ _ rfl _ rfl ?_) | (with_reducible refine wl_next rfl _ rfl _ rfl ?_) | (with_reducible refine wl_copy rfl _ _ _ _ rfl _ _ rfl rfl ?_) | (with_reducible refine wl_max rfl _ _ _ _ rfl _ _ rfl rfl ?_) | (with_reducible refine wl_min rfl _ _ _ _ rfl _ _ rfl rfl ?_))
          refine (vmay_any r.addr 256 r.prot ra (by omega) _).mono ?_
          rintro e X ⟨rfl, rfl⟩
          have hbl : (r.b.length : Int) < 9223372036854775808 := by omega
          cases hmay : Vm.may r.addr 256 r.prot with
          | false =>
            go_wp2_with (first | (at_builtin; refine wl_append rfl _ _ _ _ rfl _ _ rfl rfl ?_) | (at_make; refine wl_make rfl _ _ _ rfl _ _ rfl rfl ?_) | (at_mapUpdate; refine wl_mapUpdate rfl _ _ _ _ rfl _ _ _ rfl rfl rfl ?_) | (at_lookup; refine wl_lookup rfl _ _ _ _ rfl _ _ rfl rfl ?_) | (at_delete; refine wl_delete rfl _ _ _ _ rfl _ _ rfl rfl ?_) | (with_reducible refine wl_len rfl _ _ rfl _ rfl ?_) | (with_reducible refine wl_range rfl _ _ rfl _ rfl ?_) | (with_reducible refine wl_next rfl _ rfl _ rfl ?_) | (with_reducible refine wl_copy rfl _ _ _ _ rfl _ _ rfl rfl ?_) | (with_reducible refine wl_max rfl _ _ _ _ rfl _ _ rfl rfl ?_) | (with_reducible refine wl_min rfl _ _ _ _ rfl _ _ rfl rfl ?_))
            go_ret2
            exact ⟨hkw2.drew, .inr ⟨(HBAD.out true (by rw [hmay]; rfl)).1 rfl, rfl⟩⟩
          | true =>
            by_cases hb256 : r.b.length = 256
            · have hde : ({ data := #[] } : ByteArray).toList = [] := by rw [ByteArray.toList_eq]
              by_cases hfe : r.file = []
              · have hdf : ({ data := r.file.toArray } : ByteArray).toList = [] := by rw [ByteArray.toList_eq, hfe]
                by_cases hoz : r.off = 0
                · have hgood := (HBAD.out false (by rw [hmay, hb256, hfe, hoz]; rfl)).2 rfl
                  have hpg : PgOk (toPg r) := by
                    have hp := may_parts hmay
                    have ht : top = 4294967296 := rfl
                    refine ⟨hp.1, ?_, ?_, hb256, ro, rf⟩
                    · show r.addr < top; omega
                    · show r.prot.toNat ≤ 7; omega
                  have hpr : (r.prot.toNat : Int) = r.prot := by have hp := may_parts hmay; omega
                  have HPR := Lib.hid hpr
                  clear hpr
                  have HG := Lib.hid hgood
                  have HPG := Lib.hid hpg
                  have i0 : (r.off : Int) = 0 := by omega
                  clear hgood hpg HBAD hmay hde hfe
                  rw [hb256] at b5 hbi2 hb2
                  obtain ⟨g1, o1, cap1, e1, hA1, hl1, _, _, hc1⟩ := Sl.at hbi2 (by decide)
                  cases e1
                  have qd : w2.cell? ⟨d, 0, none⟩ = some (.map (some mb)) := hS2.blk.cell 0
                  have hrg : w2.rangeAt g1 o1 (r.b.map bv) := hc1
                  clear hc1
                  go_wp2_with (first | (at_builtin; refine wl_append rfl _ _ _ _ rfl _ _ rfl rfl ?_) | (at_make; refine wl_make rfl _ _ _ rfl _ _ rfl rfl ?_) | (at_mapUpdate; refine wl_mapUpdate rfl _ _ _ _ rfl _ _ _ rfl rfl rfl ?_) | (at_lookup; refine wl_lookup rfl _ _ _ _ rfl _ _ rfl rfl ?_) | (at_delete; refine wl_delete rfl _ _ _ _ rfl _ _ rfl rfl ?_) | (with_reducible refine wl_len rfl _ _ rfl _ rfl ?_) | (with_reducible refine wl_range rfl _ _ rfl _ rfl ?_) | (with_reducible refine wl_next rfl _ rfl _ rfl ?_) | (with_reducible refine wl_copy rfl _ _ _ _ rfl _ _ rfl rfl ?_) | (with_reducible refine wl_max rfl _ _ _ _ rfl _ _ rfl rfl ?_) | (with_reducible refine wl_min rfl _ _ _ _ rfl _ _ rfl rfl ?_))
                  clear hdf
                  try clear hoz i0
                  refine wp_region_sig (fun w' => w'.cell? ⟨tb, 0, none⟩ = some (.int .u64 (r.addr : Int)) ∧ w'.cell? ⟨tb, 1, none⟩ = some (.int .i64 r.prot) ∧ w'.cell? ⟨tb, 2, none⟩ = some (.bool r.dirty) ∧ w'.cell? ⟨tb, 3, none⟩ = some (.string ⟨r.file.toArray⟩) ∧ w'.cell? ⟨tb, 4, none⟩ = some (.int .u64 (r.off : Int)) ∧ w'.cell? ⟨tb, 5, none⟩ = some (.slice (some ⟨g1, o1, none⟩) 256 cb) ∧ w'.cell? ⟨d, 0, none⟩ = some (.map (some mb)) ∧ w'.rangeAt g1 o1 (r.b.map bv)) (fun j => decide (j ≤ 19)) [(0, true), (1, true), (2, true), (3, true), (4, true), (5, true), (6, true), (7, true), (8, true), (9, true), (10, true), (11, true), (12, true), (13, true), (14, true), (15, true), (16, true), (17, true), (18, true), (19, false), (20, false)] (by kernel_rfl) (by kernel_rfl) (by intro c a d v w h; cases d <;> exact h) ⟨b0, b1, b2, b3, b4, b5, qd, hrg⟩ ?_
                  apply sig_still (o := ⟨some 54, _, _, _, _, _⟩) rfl rfl
                  · intro w' hS
                    obtain ⟨q1, q2, q3, q4, q5, q6, q7, q8⟩ := hS
                    first | (go_simp; done) | (go_simp; rfl) | rfl
                  go_frame
                  apply sig_still (o := ⟨some 55, _, _, _, _, _⟩) rfl rfl
                  · intro w' hS
                    obtain ⟨q1, q2, q3, q4, q5, q6, q7, q8⟩ := hS
                    first | (go_simp; done) | (go_simp; rfl) | rfl
                  go_frame
                  apply sig_still (o := ⟨some 56, _, _, _, _, _⟩) rfl rfl
                  · intro w' hS
                    obtain ⟨q1, q2, q3, q4, q5, q6, q7, q8⟩ := hS
                    first | (go_simp; done) | (go_simp; rfl) | rfl
                  go_frame
                  apply sig_still (o := ⟨some 57, _, _, _, _, _⟩) rfl rfl
                  · intro w' hS
                    obtain ⟨q1, q2, q3, q4, q5, q6, q7, q8⟩ := hS
                    first | (go_simp; done) | (go_simp; rfl) | rfl
                  go_frame
                  apply sig_still (o := ⟨some 58, _, _, _, _, _⟩) rfl rfl
                  · intro w' hS
                    obtain ⟨q1, q2, q3, q4, q5, q6, q7, q8⟩ := hS
                    first | (go_simp; done) | (go_simp; rfl) | rfl
                  go_frame
                  apply sig_still (o := ⟨some 59, _, _, _, _, _⟩) rfl rfl
                  · intro w' hS
                    obtain ⟨q1, q2, q3, q4, q5, q6, q7, q8⟩ := hS
                    first | (go_simp; done) | (go_simp; rfl) | rfl
                  go_frame
                  apply sig_still (o := ⟨some 60, _, _, _, _, _⟩) rfl rfl
                  · intro w' hS
                    obtain ⟨q1, q2, q3, q4, q5, q6, q7, q8⟩ := hS
                    first | (go_simp; done) | (go_simp; rfl) | rfl
                  go_frame
                  apply sig_still (o := ⟨some 61, _, _, _, _, _⟩) rfl rfl
                  · intro w' hS
                    obtain ⟨q1, q2, q3, q4, q5, q6, q7, q8⟩ := hS
                    first | (go_simp; done) | (go_simp; rfl) | rfl
                  go_frame
                  apply sig_still (o := ⟨some 62, _, _, _, _, _⟩) rfl rfl
                  · intro w' hS
                    obtain ⟨q1, q2, q3, q4, q5, q6, q7, q8⟩ := hS
                    first | (go_simp; done) | (go_simp; rfl) | rfl
                  go_frame
                  apply sig_still (o := ⟨some 63, _, _, _, _, _⟩) rfl rfl
                  · intro w' hS
                    obtain ⟨q1, q2, q3, q4, q5, q6, q7, q8⟩ := hS
                    first | (go_simp; done) | (go_simp; rfl) | rfl
                  go_frame
                  apply sig_still (o := ⟨some 64, _, _, _, _, _⟩) rfl rfl
                  · intro w' hS
                    obtain ⟨q1, q2, q3, q4, q5, q6, q7, q8⟩ := hS
                    first | (go_simp; done) | (go_simp; rfl) | rfl
                  go_frame
                  apply sig_still (o := ⟨some 65, _, _, _, _, _⟩) rfl rfl
                  · intro w' hS
                    obtain ⟨q1, q2, q3, q4, q5, q6, q7, q8⟩ := hS
                    first | (go_simp; done) | (go_simp; rfl) | rfl
                  go_frame
                  apply sig_still (o := ⟨some 66, _, _, _, _, _⟩) rfl rfl
                  · intro w' hS
                    obtain ⟨q1, q2, q3, q4, q5, q6, q7, q8⟩ := hS
                    first | (go_simp; done) | (go_simp; rfl) | rfl
                  go_frame
                  apply sig_still (o := ⟨some 67, _, _, _, _, _⟩) rfl rfl
                  · intro w' hS
                    obtain ⟨q1, q2, q3, q4, q5, q6, q7, q8⟩ := hS
                    first | (go_simp; done) | (go_simp; rfl) | rfl
                  go_frame
                  apply sig_still (o := ⟨some 68, _, _, _, _, _⟩) rfl rfl
                  · intro w' hS
                    obtain ⟨q1, q2, q3, q4, q5, q6, q7, q8⟩ := hS
                    first | (go_simp; done) | (go_simp; rfl) | rfl
                  go_frame
                  apply sig_still (o := ⟨some 69, _, _, _, _, _⟩) rfl rfl
                  · intro w' hS
                    obtain ⟨q1, q2, q3, q4, q5, q6, q7, q8⟩ := hS
                    first | (go_simp; done) | (go_simp; rfl) | rfl
                  go_frame
                  apply sig_still (o := ⟨some 70, _, _, _, _, _⟩) rfl rfl
                  · intro w' hS
                    obtain ⟨q1, q2, q3, q4, q5, q6, q7, q8⟩ := hS
                    first | (go_simp; done) | (go_simp; rfl) | rfl
                  go_frame
                  apply sig_still (o := ⟨some 71, _, _, _, _, _⟩) rfl rfl
                  · intro w' hS
                    obtain ⟨_, _, _, _, _, _, _, hq⟩ := hS
                    have hld := run_loadVar_mid (P := Try.prog) w' g1 o1 65 (r.b.map bv) _ hq Try.underlying65 rfl (by rw [List.length_map, hb256]; kernel_rfl)
                    exact run_ldo _ _ rfl g1 o1 rfl hld
                  go_frame
                  apply sig_still (o := ⟨some 72, _, _, _, _, _⟩) rfl rfl
                  · intro w' hS
                    have hbu := run_build (P := Try.prog) w' 67 #[(0, .int .i64 r.prot), (1, .bool r.dirty), (2, .string ⟨r.file.toArray⟩), (3, .int .u64 (r.off : Int)), (4, .agg (r.b.map bv).toArray)] _ (built_page r.prot r.dirty ⟨r.file.toArray⟩ r.off (r.b.map bv).toArray (by simpa using hb256))
                    exact run_bdo _ _ rfl (by simp only [List.map_toArray, List.map_cons, List.map_nil]; rfl) hbu
                  go_frame
                  refine sig_eff (o := ⟨some 73, _, _, _, _, _⟩) rfl rfl (fun K hKe => ?_)
                  go_wp2_with (first | (at_builtin; refine wl_append rfl _ _ _ _ rfl _ _ rfl rfl ?_) | (at_make; refine wl_make rfl _ _ _ rfl _ _ rfl rfl ?_) | (at_mapUpdate; refine wl_mapUpdate rfl _ _ _ _ rfl _ _ _ rfl rfl rfl ?_) | (at_lookup; refine wl_lookup rfl _ _ _ _ rfl _ _ rfl rfl ?_) | (at_delete; refine wl_delete rfl _ _ _ _ rfl _ _ rfl rfl ?_) | (with_reducible refine wl_len rfl _ _ rfl _ rfl ?_) | (with_reducible refine wl_range rfl _ _ rfl _ rfl ?_) | (with_reducible refine wl_next rfl _ rfl _ rfl ?_) | (with_reducible refine wl_copy rfl _ _ _ _ rfl _ _ rfl rfl ?_) | (with_reducible refine wl_max rfl _ _ _ _ rfl _ _ rfl rfl ?_) | (with_reducible refine wl_min rfl _ _ _ _ rfl _ _ rfl rfl ?_))
                  have hCe : (Value.int .i64 r.prot :: Value.bool r.dirty :: Value.string ⟨r.file.toArray⟩ :: Value.int .u64 (r.off : Int) :: (r.b.map bv)).toArray = pgC (toPg r) := by
                    unfold pgC toPg
                    rw [HPR.out]
                  rw [hCe]
                  have hkd : Keep No w2 (w2.alloc (.cells (pgC (toPg r)) 67)).drew.drew := ((Keep.refl No w2).alloc _).drew.drew
                  have hB3 : Blk (w2.alloc (.cells (pgC (toPg r)) 67)).drew.drew w2.heap.size (pgC (toPg r)) 67 := Blk.new w2 _ _
                  have hS3 := hS2.no (fun k hk => hk.2) hkd
                  generalize (w2.alloc (.cells (pgC (toPg r)) 67)).drew.drew = w3 at *
                  have tbl : tb < w2.heap.size := hsz2
                  refine ⟨fun _ => ⟨(hkd.cell (p := ⟨tb, 0, none⟩) tbl fun h => h).trans b0, (hkd.cell (p := ⟨tb, 1, none⟩) tbl fun h => h).trans b1, (hkd.cell (p := ⟨tb, 2, none⟩) tbl fun h => h).trans b2, (hkd.cell (p := ⟨tb, 3, none⟩) tbl fun h => h).trans b3, (hkd.cell (p := ⟨tb, 4, none⟩) tbl fun h => h).trans b4, (hkd.cell (p := ⟨tb, 5, none⟩) tbl fun h => h).trans b5, hS3.blk.cell 0, fun j u hu => (hkd.cell (p := ⟨g1, o1 + j, none⟩) hl1 fun h => h).trans (hrg j u hu)⟩, ?_⟩
                  clear b0 b1 b2 b3 b4 b5 qd hrg
                  refine sig_eff (o := ⟨none, _, _, _, _, _⟩) rfl rfl (fun K hKe => ?_)
                  refine wo_mapUpdate _ _ _ _ rfl _ _ _ rfl rfl rfl ?_
                  refine rg_store hS3.mp kU64 Try.underlying68 (by rw [VL_len, List.length_map, List.length_map, List.length_take]; unfold maxLen; omega) (kOf ra) ?_
                  intro w4 hm4 hk4 hs4
                  have hfree : ∀ q ∈ ((L.take i).map (·.1)).map toPg, q.addr ≠ (toPg r).addr := fun q hq => Nat.ne_of_lt (HLT.out q hq)
                  have hres := SRep.put (w0 := w2) (p := toPg r) (nb := w2.heap.size) hS3 (fun k hk => hk.2) HPG.out hfree (by rw [List.length_map, List.length_map, List.length_take]; omega) hm4 hk4 (Nat.le_refl _) hB3
                  rw [insP_last HLT.out, ← htk] at hres
                  have hmb0 : w.heap.size ≤ mb := hS2.Am.1
                  have hw2l : w.heap.size ≤ w2.heap.size := hkw2.size
                  have hres2 : SRep (fun k => w.heap.size ≤ k ∧ k < w4.heap.size) w4 d (((L.take (i + 1)).map (·.1)).map toPg) mb (fun x => if x = (toPg r).addr then w2.heap.size else f x) := hres.mono fun k hk ha => by
                    rcases ha with ha | ha
                    · exact ⟨ha.1, hk⟩
                    · exact ⟨Nat.le_trans hw2l ha.1, hk⟩
                  have hkf : Keep No w w4 := (hkw2.trans' hkd).trans hk4 fun j hj e => by have e2 : j = mb := e; omega
                  clear hres hfree hm4 hk4 hs4 hB3 hS3 hkd hS2 hb2 hbi2
                  refine hKe _ _ ⟨fun h => by simp at h, sig_nil ?_⟩
                  go_wp2_with (first | (at_builtin; refine wl_append rfl _ _ _ _ rfl _ _ rfl rfl ?_) | (at_make; refine wl_make rfl _ _ _ rfl _ _ rfl rfl ?_) | (at_mapUpdate; refine wl_mapUpdate rfl _ _ _ _ rfl _ _ _ rfl rfl rfl ?_) | (at_lookup; refine wl_lookup rfl _ _ _ _ rfl _ _ rfl rfl ?_) | (at_delete; refine wl_delete rfl _ _ _ _ rfl _ _ rfl rfl ?_) | (with_reducible refine wl_len rfl _ _ rfl _ rfl ?_) | (with_reducible refine wl_range rfl _ _ rfl _ rfl ?_) | (with_reducible refine wl_next rfl _ rfl _ rfl ?_) | (with_reducible refine wl_copy rfl _ _ _ _ rfl _ _ rfl rfl ?_) | (with_reducible refine wl_max rfl _ _ _ _ rfl _ _ rfl rfl ?_) | (with_reducible refine wl_min rfl _ _ _ _ rfl _ _ rfl rfl ?_))
                  go_roundw
                  case rel => exact ⟨i + 1, _, by go_num, hlt, hres2, HG.out, hkf⟩
                  case measure => simp [intOf]; omega
                · have hoz1 : ((r.off : Int) == 0) = false := by simpa using hoz
                  have hoz2 : (r.off : Int) ≠ 0 := by omega
                  have hl256 : (r.b.length : Int) = 256 := by omega
                  have hbad := (HBAD.out true (by rw [hmay, hfe]; simp; omega)).1 rfl
                  clear hfe HBAD hde hbl
                  go_wp2_with (first | (at_builtin; refine wl_append rfl _ _ _ _ rfl _ _ rfl rfl ?_) | (at_make; refine wl_make rfl _ _ _ rfl _ _ rfl rfl ?_) | (at_mapUpdate; refine wl_mapUpdate rfl _ _ _ _ rfl _ _ _ rfl rfl rfl ?_) | (at_lookup; refine wl_lookup rfl _ _ _ _ rfl _ _ rfl rfl ?_) | (at_delete; refine wl_delete rfl _ _ _ _ rfl _ _ rfl rfl ?_) | (with_reducible refine wl_len rfl _ _ rfl _ rfl ?_) | (with_reducible refine wl_range rfl _ _ rfl _ rfl ?_) | (with_reducible refine wl_next rfl _ rfl _ rfl ?_) | (with_reducible refine wl_copy rfl _ _ _ _ rfl _ _ rfl rfl ?_) | (with_reducible refine wl_max rfl _ _ _ _ rfl _ _ rfl rfl ?_) | (with_reducible refine wl_min rfl _ _ _ _ rfl _ _ rfl rfl ?_))
                  go_ret2
                  exact ⟨hkw2.drew, .inr ⟨hbad, rfl⟩⟩
              · obtain ⟨c0, r0, hcr⟩ := List.exists_cons_of_ne_nil hfe
                have hdf : ({ data := r.file.toArray } : ByteArray).toList = c0 :: r0 := by rw [ByteArray.toList_eq, hcr]
                have hgood := (HBAD.out false (by rw [hmay, hb256, hcr]; rfl)).2 rfl
                have hpg : PgOk (toPg r) := by
                  have hp := may_parts hmay
                  have ht : top = 4294967296 := rfl
                  refine ⟨hp.1, ?_, ?_, hb256, ro, rf⟩
                  · show r.addr < top; omega
                  · show r.prot.toNat ≤ 7; omega
                have hpr : (r.prot.toNat : Int) = r.prot := by have hp := may_parts hmay; omega
                have HPR := Lib.hid hpr
                clear hpr
                have HG := Lib.hid hgood
                have HPG := Lib.hid hpg
                clear hgood hpg HBAD hmay hcr
                rw [hb256] at b5 hbi2 hb2
                obtain ⟨g1, o1, cap1, e1, hA1, hl1, _, _, hc1⟩ := Sl.at hbi2 (by decide)
                cases e1
                have qd : w2.cell? ⟨d, 0, none⟩ = some (.map (some mb)) := hS2.blk.cell 0
                have hrg : w2.rangeAt g1 o1 (r.b.map bv) := hc1
                clear hc1
                go_wp2_with (first | (at_builtin; refine wl_append rfl _ _ _ _ rfl _ _ rfl rfl ?_) | (at_make; refine wl_make rfl _ _ _ rfl _ _ rfl rfl ?_) | (at_mapUpdate; refine wl_mapUpdate rfl _ _ _ _ rfl _ _ _ rfl rfl rfl ?_) | (at_lookup; refine wl_lookup rfl _ _ _ _ rfl _ _ rfl rfl ?_) | (at_delete; refine wl_delete rfl _ _ _ _ rfl _ _ rfl rfl ?_) | (with_reducible refine wl_len rfl _ _ rfl _ rfl ?_) | (with_reducible refine wl_range rfl _ _ rfl _ rfl ?_) | (with_reducible refine wl_next rfl _ rfl _ rfl ?_) | (with_reducible refine wl_copy rfl _ _ _ _ rfl _ _ rfl rfl ?_) | (with_reducible refine wl_max rfl _ _ _ _ rfl _ _ rfl rfl ?_) | (with_reducible refine wl_min rfl _ _ _ _ rfl _ _ rfl rfl ?_))
                clear hdf
                try clear hoz i0
                refine wp_region_sig (fun w' => w'.cell? ⟨tb, 0, none⟩ = some (.int .u64 (r.addr : Int)) ∧ w'.cell? ⟨tb, 1, none⟩ = some (.int .i64 r.prot) ∧ w'.cell? ⟨tb, 2, none⟩ = some (.bool r.dirty) ∧ w'.cell? ⟨tb, 3, none⟩ = some (.string ⟨r.file.toArray⟩) ∧ w'.cell? ⟨tb, 4, none⟩ = some (.int .u64 (r.off : Int)) ∧ w'.cell? ⟨tb, 5, none⟩ = some (.slice (some ⟨g1, o1, none⟩) 256 cb) ∧ w'.cell? ⟨d, 0, none⟩ = some (.map (some mb)) ∧ w'.rangeAt g1 o1 (r.b.map bv)) (fun j => decide (j ≤ 19)) [(0, true), (1, true), (2, true), (3, true), (4, true), (5, true), (6, true), (7, true), (8, true), (9, true), (10, true), (11, true), (12, true), (13, true), (14, true), (15, true), (16, true), (17, true), (18, true), (19, false), (20, false)] (by kernel_rfl) (by kernel_rfl) (by intro c a d v w h; cases d <;> exact h) ⟨b0, b1, b2, b3, b4, b5, qd, hrg⟩ ?_
                apply sig_still (o := ⟨some 54, _, _, _, _, _⟩) rfl rfl
                · intro w' hS
                  obtain ⟨q1, q2, q3, q4, q5, q6, q7, q8⟩ := hS
                  first | (go_simp; done) | (go_simp; rfl) | rfl
                go_frame
                apply sig_still (o := ⟨some 55, _, _, _, _, _⟩) rfl rfl
                · intro w' hS
                  obtain ⟨q1, q2, q3, q4, q5, q6, q7, q8⟩ := hS
                  first | (go_simp; done) | (go_simp; rfl) | rfl
                go_frame
                apply sig_still (o := ⟨some 56, _, _, _, _, _⟩) rfl rfl
                · intro w' hS
                  obtain ⟨q1, q2, q3, q4, q5, q6, q7, q8⟩ := hS
                  first | (go_simp; done) | (go_simp; rfl) | rfl
                go_frame
                apply sig_still (o := ⟨some 57, _, _, _, _, _⟩) rfl rfl
                · intro w' hS
                  obtain ⟨q1, q2, q3, q4, q5, q6, q7, q8⟩ := hS
                  first | (go_simp; done) | (go_simp; rfl) | rfl
                go_frame
                apply sig_still (o := ⟨some 58, _, _, _, _, _⟩) rfl rfl
                · intro w' hS
                  obtain ⟨q1, q2, q3, q4, q5, q6, q7, q8⟩ := hS
                  first | (go_simp; done) | (go_simp; rfl) | rfl
                go_frame
                apply sig_still (o := ⟨some 59, _, _, _, _, _⟩) rfl rfl
                · intro w' hS
                  obtain ⟨q1, q2, q3, q4, q5, q6, q7, q8⟩ := hS
                  first | (go_simp; done) | (go_simp; rfl) | rfl
                go_frame
                apply sig_still (o := ⟨some 60, _, _, _, _, _⟩) rfl rfl
                · intro w' hS
                  obtain ⟨q1, q2, q3, q4, q5, q6, q7, q8⟩ := hS
                  first | (go_simp; done) | (go_simp; rfl) | rfl
                go_frame
                apply sig_still (o := ⟨some 61, _, _, _, _, _⟩) rfl rfl
                · intro w' hS
                  obtain ⟨q1, q2, q3, q4, q5, q6, q7, q8⟩ := hS
                  first | (go_simp; done) | (go_simp; rfl) | rfl
                go_frame
                apply sig_still (o := ⟨some 62, _, _, _, _, _⟩) rfl rfl
                · intro w' hS
                  obtain ⟨q1, q2, q3, q4, q5, q6, q7, q8⟩ := hS
                  first | (go_simp; done) | (go_simp; rfl) | rfl
                go_frame
                apply sig_still (o := ⟨some 63, _, _, _, _, _⟩) rfl rfl
                · intro w' hS
                  obtain ⟨q1, q2, q3, q4, q5, q6, q7, q8⟩ := hS
                  first | (go_simp; done) | (go_simp; rfl) | rfl
                go_frame
                apply sig_still (o := ⟨some 64, _, _, _, _, _⟩) rfl rfl
                · intro w' hS
                  obtain ⟨q1, q2, q3, q4, q5, q6, q7, q8⟩ := hS
                  first | (go_simp; done) | (go_simp; rfl) | rfl
                go_frame
                apply sig_still (o := ⟨some 65, _, _, _, _, _⟩) rfl rfl
                · intro w' hS
                  obtain ⟨q1, q2, q3, q4, q5, q6, q7, q8⟩ := hS
                  first | (go_simp; done) | (go_simp; rfl) | rfl
                go_frame
                apply sig_still (o := ⟨some 66, _, _, _, _, _⟩) rfl rfl
                · intro w' hS
                  obtain ⟨q1, q2, q3, q4, q5, q6, q7, q8⟩ := hS
                  first | (go_simp; done) | (go_simp; rfl) | rfl
                go_frame
                apply sig_still (o := ⟨some 67, _, _, _, _, _⟩) rfl rfl
                · intro w' hS
                  obtain ⟨q1, q2, q3, q4, q5, q6, q7, q8⟩ := hS
                  first | (go_simp; done) | (go_simp; rfl) | rfl
                go_frame
                apply sig_still (o := ⟨some 68, _, _, _, _, _⟩) rfl rfl
                · intro w' hS
                  obtain ⟨q1, q2, q3, q4, q5, q6, q7, q8⟩ := hS
                  first | (go_simp; done) | (go_simp; rfl) | rfl
                go_frame
                apply sig_still (o := ⟨some 69, _, _, _, _, _⟩) rfl rfl
                · intro w' hS
                  obtain ⟨q1, q2, q3, q4, q5, q6, q7, q8⟩ := hS
                  first | (go_simp; done) | (go_simp; rfl) | rfl
                go_frame
                apply sig_still (o := ⟨some 70, _, _, _, _, _⟩) rfl rfl
                · intro w' hS
                  obtain ⟨q1, q2, q3, q4, q5, q6, q7, q8⟩ := hS
                  first | (go_simp; done) | (go_simp; rfl) | rfl
                go_frame
                apply sig_still (o := ⟨some 71, _, _, _, _, _⟩) rfl rfl
                · intro w' hS
                  obtain ⟨_, _, _, _, _, _, _, hq⟩ := hS
                  have hld := run_loadVar_mid (P := Try.prog) w' g1 o1 65 (r.b.map bv) _ hq Try.underlying65 rfl (by rw [List.length_map, hb256]; kernel_rfl)
                  exact run_ldo _ _ rfl g1 o1 rfl hld
                go_frame
                apply sig_still (o := ⟨some 72, _, _, _, _, _⟩) rfl rfl
                · intro w' hS
                  have hbu := run_build (P := Try.prog) w' 67 #[(0, .int .i64 r.prot), (1, .bool r.dirty), (2, .string ⟨r.file.toArray⟩), (3, .int .u64 (r.off : Int)), (4, .agg (r.b.map bv).toArray)] _ (built_page r.prot r.dirty ⟨r.file.toArray⟩ r.off (r.b.map bv).toArray (by simpa using hb256))
                  exact run_bdo _ _ rfl (by simp only [List.map_toArray, List.map_cons, List.map_nil]; rfl) hbu
                go_frame
                refine sig_eff (o := ⟨some 73, _, _, _, _, _⟩) rfl rfl (fun K hKe => ?_)
                go_wp2_with (first | (at_builtin; refine wl_append rfl _ _ _ _ rfl _ _ rfl rfl ?_) | (at_make; refine wl_make rfl _ _ _ rfl _ _ rfl rfl ?_) | (at_mapUpdate; refine wl_mapUpdate rfl _ _ _ _ rfl _ _ _ rfl rfl rfl ?_) | (at_lookup; refine wl_lookup rfl _ _ _ _ rfl _ _ rfl rfl ?_) | (at_delete; refine wl_delete rfl _ _ _ _ rfl _ _ rfl rfl ?_) | (with_reducible refine wl_len rfl _ _ rfl _ rfl ?_) | (with_reducible refine wl_range rfl _ _ rfl _ rfl ?_) | (with_reducible refine wl_next rfl _ rfl _ rfl ?_) | (with_reducible refine wl_copy rfl _ _ _ _ rfl _ _ rfl rfl ?_) | (with_reducible refine wl_max rfl _ _ _ _ rfl _ _ rfl rfl ?_) | (with_reducible refine wl_min rfl _ _ _ _ rfl _ _ rfl rfl ?_))
                have hCe : (Value.int .i64 r.prot :: Value.bool r.dirty :: Value.string ⟨r.file.toArray⟩ :: Value.int .u64 (r.off : Int) :: (r.b.map bv)).toArray = pgC (toPg r) := by
                  unfold pgC toPg
                  rw [HPR.out]
                rw [hCe]
                have hkd : Keep No w2 (w2.alloc (.cells (pgC (toPg r)) 67)).drew.drew := ((Keep.refl No w2).alloc _).drew.drew
                have hB3 : Blk (w2.alloc (.cells (pgC (toPg r)) 67)).drew.drew w2.heap.size (pgC (toPg r)) 67 := Blk.new w2 _ _
                have hS3 := hS2.no (fun k hk => hk.2) hkd
                generalize (w2.alloc (.cells (pgC (toPg r)) 67)).drew.drew = w3 at *
                have tbl : tb < w2.heap.size := hsz2
                refine ⟨fun _ => ⟨(hkd.cell (p := ⟨tb, 0, none⟩) tbl fun h => h).trans b0, (hkd.cell (p := ⟨tb, 1, none⟩) tbl fun h => h).trans b1, (hkd.cell (p := ⟨tb, 2, none⟩) tbl fun h => h).trans b2, (hkd.cell (p := ⟨tb, 3, none⟩) tbl fun h => h).trans b3, (hkd.cell (p := ⟨tb, 4, none⟩) tbl fun h => h).trans b4, (hkd.cell (p := ⟨tb, 5, none⟩) tbl fun h => h).trans b5, hS3.blk.cell 0, fun j u hu => (hkd.cell (p := ⟨g1, o1 + j, none⟩) hl1 fun h => h).trans (hrg j u hu)⟩, ?_⟩
                clear b0 b1 b2 b3 b4 b5 qd hrg
                refine sig_eff (o := ⟨none, _, _, _, _, _⟩) rfl rfl (fun K hKe => ?_)
                refine wo_mapUpdate _ _ _ _ rfl _ _ _ rfl rfl rfl ?_
                refine rg_store hS3.mp kU64 Try.underlying68 (by rw [VL_len, List.length_map, List.length_map, List.length_take]; unfold maxLen; omega) (kOf ra) ?_
                intro w4 hm4 hk4 hs4
                have hfree : ∀ q ∈ ((L.take i).map (·.1)).map toPg, q.addr ≠ (toPg r).addr := fun q hq => Nat.ne_of_lt (HLT.out q hq)
                have hres := SRep.put (w0 := w2) (p := toPg r) (nb := w2.heap.size) hS3 (fun k hk => hk.2) HPG.out hfree (by rw [List.length_map, List.length_map, List.length_take]; omega) hm4 hk4 (Nat.le_refl _) hB3
                rw [insP_last HLT.out, ← htk] at hres
                have hmb0 : w.heap.size ≤ mb := hS2.Am.1
                have hw2l : w.heap.size ≤ w2.heap.size := hkw2.size
                have hres2 : SRep (fun k => w.heap.size ≤ k ∧ k < w4.heap.size) w4 d (((L.take (i + 1)).map (·.1)).map toPg) mb (fun x => if x = (toPg r).addr then w2.heap.size else f x) := hres.mono fun k hk ha => by
                  rcases ha with ha | ha
                  · exact ⟨ha.1, hk⟩
                  · exact ⟨Nat.le_trans hw2l ha.1, hk⟩
                have hkf : Keep No w w4 := (hkw2.trans' hkd).trans hk4 fun j hj e => by have e2 : j = mb := e; omega
                clear hres hfree hm4 hk4 hs4 hB3 hS3 hkd hS2 hb2 hbi2
                refine hKe _ _ ⟨fun h => by simp at h, sig_nil ?_⟩
                go_wp2_with (first | (at_builtin; refine wl_append rfl _ _ _ _ rfl _ _ rfl rfl ?_) | (at_make; refine wl_make rfl _ _ _ rfl _ _ rfl rfl ?_) | (at_mapUpdate; refine wl_mapUpdate rfl _ _ _ _ rfl _ _ _ rfl rfl rfl ?_) | (at_lookup; refine wl_lookup rfl _ _ _ _ rfl _ _ rfl rfl ?_) | (at_delete; refine wl_delete rfl _ _ _ _ rfl _ _ rfl rfl ?_) | (with_reducible refine wl_len rfl _ _ rfl _ rfl ?_) | (with_reducible refine wl_range rfl _ _ rfl _ rfl ?_) | (with_reducible refine wl_next rfl _ rfl _ rfl ?_) | (with_reducible refine wl_copy rfl _ _ _ _ rfl _ _ rfl rfl ?_) | (with_reducible refine wl_max rfl _ _ _ _ rfl _ _ rfl rfl ?_) | (with_reducible refine wl_min rfl _ _ _ _ rfl _ _ rfl rfl ?_))
                go_roundw
                case rel => exact ⟨i + 1, _, by go_num, hlt, hres2, HG.out, hkf⟩
                case measure => simp [intOf]; omega
            · have hl256 : ((r.b.length : Int) == 256) = false := by simp; omega
              have hl257 : (r.b.length : Int) ≠ 256 := by omega
              go_wp2_with (first | (at_builtin; refine wl_append rfl _ _ _ _ rfl _ _ rfl rfl ?_) | (at_make; refine wl_make rfl _ _ _ rfl _ _ rfl rfl ?_) | (at_mapUpdate; refine wl_mapUpdate rfl _ _ _ _ rfl _ _ _ rfl rfl rfl ?_) | (at_lookup; refine wl_lookup rfl _ _ _ _ rfl _ _ rfl rfl ?_) | (at_delete; refine wl_delete rfl _ _ _ _ rfl _ _ rfl rfl ?_) | (with_reducible refine wl_len rfl _ _ rfl _ rfl ?_) | (with_reducible refine wl_range rfl _ _ rfl _ rfl ?_) | (with_reducible refine wl_next rfl _ rfl _ rfl ?_) | (with_reducible refine wl_copy rfl _ _ _ _ rfl _ _ rfl rfl ?_) | (with_reducible refine wl_max rfl _ _ _ _ rfl _ _ rfl rfl ?_) | (with_reducible refine wl_min rfl _ _ _ _ rfl _ _ rfl rfl ?_))
              go_ret2
              exact ⟨hkw2.drew, .inr ⟨(HBAD.out true (by rw [hmay]; simp [hb256])).1 rfl, rfl⟩⟩
    · obtain rfl : i = L.length := Nat.le_antisymm hi hge
      rw [List.take_length] at hS
      have hE : putE none (L.map (·.1)) = 0 := putE_of _ _ fun j hj => hok j hj (by simpa using hj)
      have hlz : (L.length : Int) ≤ 512 := by omega
      go_wp2_with (first | (at_builtin; refine wl_append rfl _ _ _ _ rfl _ _ rfl rfl ?_) | (at_make; refine wl_make rfl _ _ _ rfl _ _ rfl rfl ?_) | (at_mapUpdate; refine wl_mapUpdate rfl _ _ _ _ rfl _ _ _ rfl rfl rfl ?_) | (at_lookup; refine wl_lookup rfl _ _ _ _ rfl _ _ rfl rfl ?_) | (at_delete; refine wl_delete rfl _ _ _ _ rfl _ _ rfl rfl ?_) | (with_reducible refine wl_len rfl _ _ rfl _ rfl ?_) | (with_reducible refine wl_range rfl _ _ rfl _ rfl ?_) | (with_reducible refine wl_next rfl _ rfl _ rfl ?_) | (with_reducible refine wl_copy rfl _ _ _ _ rfl _ _ rfl rfl ?_) | (with_reducible refine wl_max rfl _ _ _ _ rfl _ _ rfl rfl ?_) | (with_reducible refine wl_min rfl _ _ _ _ rfl _ _ rfl rfl ?_))
      go_ret2
      exact ⟨hk, .inl ⟨hE, d, mb, f, rfl, hS⟩⟩
end
end Go.Proofs.Ytaoillfofiehpaa
