/- Words as bytes (code); a step without memory. A struct of numbers is itself: ==, != of one value; guarded loads of a whole block. The document's functions on lists of pages (chapter 13), as plain lists: they make what the model makes. Laws of memory in pages, in plain lists: what is stored is loaded; all else stays. What an instruction leaves alone; the word that is laid is the one that is done. A step leaves registers registers. No condition. -/
import Derived.Test.YtaoillfofiehpaaDoorCpu7
import Derived.Test.YtaoillfofiehpaaDoorVmP
import Derived.Laws.StructEq
import Derived.Laws.Tables
import Derived.Test.YtaoillfofiehpaaDoorCpuM
import Derived.Test.YtaoillfofiehpaaDoorCpu1
namespace Go.Dm.Cp
open Go Go.Dm.Vm Go.Dm.Oc
def codeL (l : List Nat) : List UInt8 := l.flatMap (le 8)
theorem codeL_len (l : List Nat) : (codeL l).length = 8 * l.length := by
  unfold codeL
  induction l with
  | nil => rfl
  | cons x r ih => rw [List.flatMap_cons, List.length_append, ih, le_len, List.length_cons]; omega
theorem codeL_take {l : List Nat} {i : Nat} (hi : i < l.length) : codeL (l.take (i + 1)) = codeL (l.take i) ++ le 8 l[i] := by
  unfold codeL
  rw [List.take_succ_eq_append_getElem hi, List.flatMap_append]
  simp
theorem le8_take (x k : Nat) (hk : k < 8) : (le 8 x).take (k + 1) = (le 8 x).take k ++ [UInt8.ofNat (x / 256 ^ k % 256)] := by
  rw [List.take_succ_eq_append_getElem (by rw [le_len]; exact hk), le_get 8 x k hk]
end Go.Dm.Cp
namespace Go.Proofs.YtaoillfofiehpaaDoor
open Go.RowKit Go.Dm Go.Dm.Vm Go.Dm.Cp Go.Maps Go.Dm.Oc
def encU (x : Nat) : List Value := [.int .u64 (x : Int)]
theorem FlO.bts8 {w : World} {base : Nat} {v : Value} {l : List UInt8} (h : FlO w base 5 1 encB8 v l) : Bts (fun k => base ≤ k ∧ some k = v.ownBlock) w v l := by
  unfold FlO at h
  rw [encB8_map] at h
  exact Sl.of_own h
section
variable {B : Nat → Prop} {w : World}
set_option maxRecDepth 100000 in
set_option maxHeartbeats 4000000 in
theorem code14_any {v : Value} (l : List Nat) (hl : l.length ≤ 100000) (hx : ∀ x ∈ l, x < 18446744073709551616) (h : Fl B w 1 encU v l) :
    Calls Tryd.prog 8 #[v] w fun e w' => ∃ v', e = .returned v' ∧ FlO w' w.heap.size 5 1 encB8 v' (codeL l) ∧ Keep No w w' := by
  obtain ⟨av, cv, rfl, _, _⟩ := h.shape
  have HF := Lib.hid h
  have HX := Lib.hid hx
  clear h hx
  go_enter Tryd.func8, Tryd.ntmps8
  go_wp2_with (first | (at_builtin; refine wl_append rfl _ _ _ _ rfl _ _ rfl rfl ?_) | (at_make; refine wl_make rfl _ _ _ rfl _ _ rfl rfl ?_) | (at_mapUpdate; refine wl_mapUpdate rfl _ _ _ _ rfl _ _ _ rfl rfl rfl ?_) | (at_lookup; refine wl_lookup rfl _ _ _ _ rfl _ _ rfl rfl ?_) | (at_delete; refine wl_delete rfl _ _ _ _ rfl _ _ rfl rfl ?_) | (with_reducible refine wl_len rfl _ _ rfl _ rfl ?_) | (with_reducible refine wl_range rfl _ _ rfl _ rfl ?_) | (with_reducible refine wl_next rfl _ rfl _ rfl ?_) | (with_reducible refine wl_copy rfl _ _ _ _ rfl _ _ rfl rfl ?_) | (with_reducible refine wl_max rfl _ _ _ _ rfl _ _ rfl rfl ?_) | (with_reducible refine wl_min rfl _ _ _ _ rfl _ _ rfl rfl ?_))
  go_loopw [3, 4, 5] (fun ov iv _ wr => ∃ i : Nat, iv = .int .i64 (i : Int) ∧ i ≤ l.length ∧ FlO wr w.heap.size 5 1 encB8 ov (codeL (l.take i)) ∧ Keep No w wr) (fun _ iv _ _ => l.length - (intOf iv).toNat)
  case atStart => exact ⟨0, rfl, Nat.zero_le _, FlO.nil, Keep.refl _ _⟩
  case round =>
    obtain ⟨i, rfl, hi, ho, hk⟩ := hrel
    generalize wr = wz at *
    rcases Nat.lt_or_ge i l.length with hlt | hge
    · have hltz : (i : Int) < (l.length : Int) := by omega
      have htk := codeL_take hlt
      have hlen := codeL_len (l.take i)
      rw [List.length_take_of_le hi] at hlen
      obtain ⟨g, off, cap, e, _, hgl, _, _, hc⟩ := HF.out.at (fun _ => rfl) hlt
      cases e
      have hxl := HX.out l[i] (List.getElem_mem hlt)
      have c0 := hc 0 _ rfl
      rw [Nat.mul_one, Nat.add_zero] at c0
      have c1 := (hk.cell (p := ⟨g, off + i, none⟩) hgl fun h => h).trans c0
      have C0 := Lib.hid c0
      have HTK := Lib.hid htk
      have HLEN := Lib.hid hlen
      clear htk hlen hc c0
      generalize l[i] = x at *
      generalize codeL (l.take i) = C at *
      go_wp2_with (first | (at_builtin; refine wl_append rfl _ _ _ _ rfl _ _ rfl rfl ?_) | (at_make; refine wl_make rfl _ _ _ rfl _ _ rfl rfl ?_) | (at_mapUpdate; refine wl_mapUpdate rfl _ _ _ _ rfl _ _ _ rfl rfl rfl ?_) | (at_lookup; refine wl_lookup rfl _ _ _ _ rfl _ _ rfl rfl ?_) | (at_delete; refine wl_delete rfl _ _ _ _ rfl _ _ rfl rfl ?_) | (with_reducible refine wl_len rfl _ _ rfl _ rfl ?_) | (with_reducible refine wl_range rfl _ _ rfl _ rfl ?_) | (with_reducible refine wl_next rfl _ rfl _ rfl ?_) | (with_reducible refine wl_copy rfl _ _ _ _ rfl _ _ rfl rfl ?_) | (with_reducible refine wl_max rfl _ _ _ _ rfl _ _ rfl rfl ?_) | (with_reducible refine wl_min rfl _ _ _ _ rfl _ _ rfl rfl ?_))
      go_loopw [3, 5] (fun ov kv wr => ∃ k : Nat, kv = .int .i64 (k : Int) ∧ k ≤ 8 ∧ FlO wr w.heap.size 5 1 encB8 ov (C ++ (le 8 x).take k) ∧ Keep No w wr) (fun _ kv _ => 8 - (intOf kv).toNat)
      case atStart => exact ⟨0, rfl, by omega, by simpa using ho, hk⟩
      case round =>
        obtain ⟨k, rfl, hk8, ho2, hk2⟩ := hrel
        generalize wr = wy at *
        rcases Nat.lt_or_ge k 8 with hlt2 | hge2
        · have hltz2 : (k : Int) < 8 := by omega
          have ht8 := le8_take x k hlt2
          have hln : (C ++ (le 8 x).take k).length = 8 * i + k := by rw [List.length_append, HLEN.out, List.length_take, le_len]; omega
          have c2 := (hk2.cell (p := ⟨g, off + i, none⟩) hgl fun h => h).trans C0.out
          have hshr : (x : Int) / 2 ^ (8 * k) = ((x / 256 ^ k : Nat) : Int) := by rw [pow256]; push_cast; rfl
          have hbyte : IntKind.u8.wrap ((x / 256 ^ k : Nat) : Int) = ((UInt8.ofNat (x / 256 ^ k % 256)).toNat : Int) := by
            rw [IntKind.wrap_u8', UInt8.toNat_ofNat', Nat.mod_mod]
            omega
          obtain ⟨ao, co, rfl, _, _⟩ := ho2.fl.shape
          rw [hln] at ho2 ⊢
          have HT8 := Lib.hid ht8
          have HLN := Lib.hid hln
          have HBY := Lib.hid hbyte
          clear ht8 hln
          generalize hq : x / 256 ^ k = q at *
          have HQ := Lib.hid hq
          clear hq
          go_wp2_with (first | (at_builtin; refine wl_append rfl _ _ _ _ rfl _ _ rfl rfl ?_) | (at_make; refine wl_make rfl _ _ _ rfl _ _ rfl rfl ?_) | (at_mapUpdate; refine wl_mapUpdate rfl _ _ _ _ rfl _ _ _ rfl rfl rfl ?_) | (at_lookup; refine wl_lookup rfl _ _ _ _ rfl _ _ rfl rfl ?_) | (at_delete; refine wl_delete rfl _ _ _ _ rfl _ _ rfl rfl ?_) | (with_reducible refine wl_len rfl _ _ rfl _ rfl ?_) | (with_reducible refine wl_range rfl _ _ rfl _ rfl ?_) | (with_reducible refine wl_next rfl _ rfl _ rfl ?_) | (with_reducible refine wl_copy rfl _ _ _ _ rfl _ _ rfl rfl ?_) | (with_reducible refine wl_max rfl _ _ _ _ rfl _ _ rfl rfl ?_) | (with_reducible refine wl_min rfl _ _ _ _ rfl _ _ rfl rfl ?_))
          have hbv : Value.int .u8 ((q : Int) % 256) = bv (UInt8.ofNat (q % 256)) := by
            unfold bv
            rw [UInt8.toNat_ofNat', Nat.mod_mod]
            rfl
          rw [hbv]
          refine rg_push (w := wy) (cs := #[bv (UInt8.ofNat (q % 256))]) (enc := encB8) (x := UInt8.ofNat (q % 256)) (l := C ++ (le 8 x).take k) (base := w.heap.size) _ 1 Tryd.underlying32 info_u8 rfl (by decide) rfl rfl (b8_one _) ho2 (by rw [HLN.out]; omega) (by decide) hk2.size ?_
          intro v4 w4 ho4 hk4 hb4
          have hk4' : Keep No w w4 := hk2.own ho2 hk4
          rw [List.append_assoc, ← HT8.out] at ho4
          obtain ⟨a4, c4, rfl, _, _⟩ := ho4.fl.shape
          clear hbv
          go_wp2_with (first | (at_builtin; refine wl_append rfl _ _ _ _ rfl _ _ rfl rfl ?_) | (at_make; refine wl_make rfl _ _ _ rfl _ _ rfl rfl ?_) | (at_mapUpdate; refine wl_mapUpdate rfl _ _ _ _ rfl _ _ _ rfl rfl rfl ?_) | (at_lookup; refine wl_lookup rfl _ _ _ _ rfl _ _ rfl rfl ?_) | (at_delete; refine wl_delete rfl _ _ _ _ rfl _ _ rfl rfl ?_) | (with_reducible refine wl_len rfl _ _ rfl _ rfl ?_) | (with_reducible refine wl_range rfl _ _ rfl _ rfl ?_) | (with_reducible refine wl_next rfl _ rfl _ rfl ?_) | (with_reducible refine wl_copy rfl _ _ _ _ rfl _ _ rfl rfl ?_) | (with_reducible refine wl_max rfl _ _ _ _ rfl _ _ rfl rfl ?_) | (with_reducible refine wl_min rfl _ _ _ _ rfl _ _ rfl rfl ?_))
          go_roundw
          case rel => exact ⟨k + 1, by go_num, hlt2, ho4, hk4'⟩
          case measure => simp [intOf]; omega
        · obtain rfl : k = 8 := Nat.le_antisymm hk8 hge2
          have hT : C ++ (le 8 x).take 8 = codeL (l.take (i + 1)) := by rw [HTK.out, List.take_of_length_le (by rw [le_len]; exact Nat.le_refl _)]
          rw [hT] at ho2
          clear hT ho hk
          go_wp2_with (first | (at_builtin; refine wl_append rfl _ _ _ _ rfl _ _ rfl rfl ?_) | (at_make; refine wl_make rfl _ _ _ rfl _ _ rfl rfl ?_) | (at_mapUpdate; refine wl_mapUpdate rfl _ _ _ _ rfl _ _ _ rfl rfl rfl ?_) | (at_lookup; refine wl_lookup rfl _ _ _ _ rfl _ _ rfl rfl ?_) | (at_delete; refine wl_delete rfl _ _ _ _ rfl _ _ rfl rfl ?_) | (with_reducible refine wl_len rfl _ _ rfl _ rfl ?_) | (with_reducible refine wl_range rfl _ _ rfl _ rfl ?_) | (with_reducible refine wl_next rfl _ rfl _ rfl ?_) | (with_reducible refine wl_copy rfl _ _ _ _ rfl _ _ rfl rfl ?_) | (with_reducible refine wl_max rfl _ _ _ _ rfl _ _ rfl rfl ?_) | (with_reducible refine wl_min rfl _ _ _ _ rfl _ _ rfl rfl ?_))
          go_roundw
          case rel => exact ⟨i + 1, by go_num, hlt, ho2, hk2⟩
          case measure => simp [intOf]; omega
    · obtain rfl : i = l.length := Nat.le_antisymm hi hge
      rw [List.take_length] at ho
      go_wp2_with (first | (at_builtin; refine wl_append rfl _ _ _ _ rfl _ _ rfl rfl ?_) | (at_make; refine wl_make rfl _ _ _ rfl _ _ rfl rfl ?_) | (at_mapUpdate; refine wl_mapUpdate rfl _ _ _ _ rfl _ _ _ rfl rfl rfl ?_) | (at_lookup; refine wl_lookup rfl _ _ _ _ rfl _ _ rfl rfl ?_) | (at_delete; refine wl_delete rfl _ _ _ _ rfl _ _ rfl rfl ?_) | (with_reducible refine wl_len rfl _ _ rfl _ rfl ?_) | (with_reducible refine wl_range rfl _ _ rfl _ rfl ?_) | (with_reducible refine wl_next rfl _ rfl _ rfl ?_) | (with_reducible refine wl_copy rfl _ _ _ _ rfl _ _ rfl rfl ?_) | (with_reducible refine wl_max rfl _ _ _ _ rfl _ _ rfl rfl ?_) | (with_reducible refine wl_min rfl _ _ _ _ rfl _ _ rfl rfl ?_))
      go_ret
      exact ⟨_, rfl, ho, hk⟩
end
end Go.Proofs.YtaoillfofiehpaaDoor
namespace Go.Dm
open Go Go.RowKit
section
variable {P : Program}
theorem run_equalIn_ints (d : Nat) (t e : TypeId) (n : Nat) (k : IntKind) (ht : P.underlying t = some (.array n e)) (he : P.underlying e = some (.int k)) (hsz : ∀ w, (sizeOf e).run P w = .ok 1 w) (w : World)
    (xs : Array Value) (hx : ∀ i, i < n → ∃ z, xs[i]? = some (.int k z)) :
    (Op.equalIn (d + 2) t (.agg xs) (.agg xs)).run P w = .ok true w := by
  rw [Op.equalIn]
  simp only [Sem.run_bind, run_underlying ht, Result.andThen_ok, hsz, Std.Legacy.Range.forIn_eq_forIn_range', Std.Legacy.Range.size, Nat.sub_zero, Nat.add_sub_cancel, Nat.div_one]
  have hl : ∀ i ∈ List.range' 0 n 1, i < n := fun i hi => by simpa using (List.mem_range'_1.1 hi).2
  generalize List.range' 0 n 1 = l at hl ⊢
  induction l with
  | nil => simp
  | cons i l ih =>
    obtain ⟨z, hz⟩ := hx i (hl i (by simp))
    have px : (part e xs (i * 1)).run P w = .ok (.int k z) w := by
      simp [part, isAgg, run_underlying he, hz]
    have pe : (Op.equalIn (d + 1) e (.int k z) (.int k z)).run P w = .ok true w := by
      rw [run_equalIn_int w d e k k _ _ he]
      simp
    simp only [List.forIn_cons, Sem.run_bind, px, pe, Result.andThen_ok, Bool.not_true, Bool.false_eq_true, if_false, Sem.run_pure]
    exact ih fun j hj => hl j (by simp [hj])
theorem run_eqFields_refl (d : Nat) (xs : Array Value) (w : World) : ∀ fs : List Field, (∀ f ∈ fs, ∃ v, (part f.type xs f.offset).run P w = .ok v w ∧ (Op.equalIn d f.type v v).run P w = .ok true w) → (Op.eqFields d xs xs fs).run P w = .ok true w
  | [], _ => by simp [Op.eqFields]
  | f :: fs, h => by
    obtain ⟨v, hv, he⟩ := h f (by simp)
    have ih := run_eqFields_refl d xs w fs fun g hg => h g (by simp [hg])
    unfold Op.eqFields
    split
    · simp only [Sem.run_bind, hv, Result.andThen_ok, he, Bool.not_true, Bool.false_eq_true, if_false, ih]
    · exact ih
/-- registers, then two numbers -/
theorem run_equalIn_regs (t ta e : TypeId) (n : Nat) (hf : (P.fieldsOf t).toList.map (fun f => (f.type, f.offset)) = [(ta, 0), (e, n), (e, n + 1)]) (ht : P.underlying t = some (.struct (P.fieldsOf t))) (hp : P.stoodInHeld t = false)
    (hta : P.underlying ta = some (.array n e)) (he : P.underlying e = some (.int .u64)) (hsz : ∀ w, (sizeOf e).run P w = .ok 1 w) (hsa : ∀ w, (sizeOf ta).run P w = .ok n w) (w : World)
    (xs : Array Value) (hx : ∀ i, i < n + 2 → ∃ z, xs[i]? = some (.int .u64 z)) :
    (Op.equalIn 10000 t (.agg xs) (.agg xs)).run P w = .ok true w := by
  rw [show (10000 : Nat) = 9999 + 1 from rfl, run_equalIn_agg w 9999 t xs xs ht hp]
  refine run_eqFields_refl 9999 xs w _ fun f hfm => ?_
  have hm := List.mem_map_of_mem (f := fun f : Field => (f.type, f.offset)) hfm
  rw [hf] at hm
  have one : ∀ i, i < n + 2 → f.type = e → f.offset = i → ∃ v, (part f.type xs f.offset).run P w = .ok v w ∧ (Op.equalIn 9999 f.type v v).run P w = .ok true w := fun i hi h1 h2 => by
    obtain ⟨z, hz⟩ := hx i hi
    refine ⟨.int .u64 z, ?_, ?_⟩
    · rw [h1, h2]; simp [part, isAgg, run_underlying he, hz]
    · rw [h1, run_equalIn_int w 9998 e .u64 .u64 _ _ he]; simp
  simp only [List.mem_cons, List.not_mem_nil, or_false, Prod.mk.injEq] at hm
  rcases hm with ⟨h1, h2⟩ | ⟨h1, h2⟩ | ⟨h1, h2⟩
  · refine ⟨.agg (xs.extract 0 (0 + n)), ?_, ?_⟩
    · rw [h1, h2]; simp [part, isAgg, run_underlying hta, hsa]
    · rw [h1]
      refine run_equalIn_ints 9997 ta e n .u64 hta he hsz w _ fun i hi => ?_
      obtain ⟨z, hz⟩ := hx i (by omega)
      refine ⟨z, ?_⟩
      have hs : i < xs.size := (Array.getElem?_eq_some_iff.1 hz).1
      rw [Array.getElem?_extract, Nat.zero_add, if_pos (by omega), Nat.zero_add, hz]
  · exact one n (by omega) h1 h2
  · exact one (n + 1) (by omega) h1 h2
end
section
variable {P : Program} {w : World} {ops : Array Oper} {rest : List Oper} {o : Oper} {a : Act} {Q : Exit → Act → World → Prop}
def BuildGoal (P : Program) (t : TypeId) (parts : Array (Nat × Value)) (w : World) (K : Value → World → Prop) : Prop := RunGoal P (Instr.build t parts) w K
theorem wl_build (hgd : o.guard = none) (t : TypeId) (ps : Array (Nat × Operand)) (ho : o.op = Op.build t ps) (h : BuildGoal P t (ps.map fun (i, x) => (i, a.eval x)) w fun v w' => wpList P ops Q rest (a.put o.dst v) w') : wpList P ops Q (o :: rest) a w := by
  obtain ⟨v, w', hr, hk⟩ := h
  refine wpList_plain hgd fun K hK => ?_
  unfold Oper.wp execOp
  simp only [ho, Sem.run_bind, hr, Result.andThen_ok, Sem.run_pure]
  exact hK _ _ hk
theorem rg_build {t : TypeId} {parts : Array (Nat × Value)} {cells : Array Value} {w : World} {K : Value → World → Prop} (hb : P.built t parts.toList = some cells) (h : K (.agg cells) w) : BuildGoal P t parts w K :=
  .mk (run_build w t parts cells hb) h
theorem wl_ldg (hgd : Region.wanted o (yielded ops a.tmps) = true) (x : Operand) (ty : TypeId) (ho : o.op = Op.load ty x) (p : Addr)
    (h1 : a.eval x = .pointer (some p)) (h : LdGoal P ty p w fun v w' => wpList P ops Q rest (a.put o.dst v) w') : wpList P ops Q (o :: rest) a w := by
  obtain ⟨v, w', hr, hk⟩ := h
  unfold wpList
  rw [if_pos hgd]
  refine .inl ?_
  unfold Oper.wp execOp
  simp only [ho, h1, hr, Sem.run_bind, Sem.run_pure, Result.andThen_ok]
  exact hk
def EqRGoal (P : Program) (ty : TypeId) (cs : Array Value) (w : World) (K : Prop) : Prop := P.eqGuardType P.depth ty = false ∧ (Op.equalIn 10000 ty (.agg cs) (.agg cs)).run P w = .ok true w ∧ K
theorem wl_eqg (hgd : Region.wanted o (yielded ops a.tmps) = true) (x y : Operand) (ty ty2 : TypeId) (ho : o.op = Op.binOp .eql ty x y ty2) (cs : Array Value) (h1 : a.eval x = .agg cs) (h2 : a.eval y = .agg cs)
    (h : EqRGoal P ty cs w (wpList P ops Q rest (a.put o.dst (.bool true)) w)) : wpList P ops Q (o :: rest) a w := by
  obtain ⟨hm, hq, h⟩ := h
  unfold wpList
  rw [if_pos hgd]
  refine .inl ?_
  unfold Oper.wp execOp
  simp only [ho, h1, h2, Sem.run_bind, Sem.run_pure, Result.andThen_ok, run_eqGuard_agg w _ _ _ _ _ _ hm, run_eql_struct, hq]
  exact h
theorem wl_neg (hgd : Region.wanted o (yielded ops a.tmps) = true) (x y : Operand) (ty ty2 : TypeId) (ho : o.op = Op.binOp .neq ty x y ty2) (cs : Array Value) (h1 : a.eval x = .agg cs) (h2 : a.eval y = .agg cs)
    (h : EqRGoal P ty cs w (wpList P ops Q rest (a.put o.dst (.bool false)) w)) : wpList P ops Q (o :: rest) a w := by
  obtain ⟨hm, hq, h⟩ := h
  unfold wpList
  rw [if_pos hgd]
  refine .inl ?_
  unfold Oper.wp execOp
  simp only [ho, h1, h2, Sem.run_bind, Sem.run_pure, Result.andThen_ok, run_eqGuard_agg w _ _ _ _ _ _ hm, run_neq_struct, hq]
  exact h
end
end Go.Dm
namespace Go.Dm.Vm
open Go Go.Proofs.YtaoillfofiehpaaDoor Go.Dm.Oc

/-- a page in the place of its like, or where it belongs: the rest of the list, and whether it was put -/
def withP (p : Pg) : V → Bool → V
  | [], true => []
  | [], false => [p]
  | q :: r, put => (if !put && decide (p.addr ≤ q.addr) then [p] else []) ++ ((if q.addr ≠ p.addr then [q] else []) ++ withP p r (put || decide (p.addr ≤ q.addr)))
theorem withP_done {p : Pg} {m : V} (h : ∀ q ∈ m, q.addr ≠ p.addr) : withP p m true = m := by
  induction m with
  | nil => rfl
  | cons q r ih =>
    simp only [withP, Bool.not_true, Bool.false_and, Bool.false_eq_true, if_false, List.nil_append, Bool.true_or]
    rw [if_pos (h q (List.mem_cons_self ..)), ih fun x hx => h x (List.mem_cons_of_mem _ hx)]
    rfl
theorem withP_new {p : Pg} {m : V} (hs : m.Pairwise (fun p q => p.addr < q.addr)) (h : ∀ q ∈ m, q.addr ≠ p.addr) : withP p m false = insP p m := by
  induction m with
  | nil => rfl
  | cons q r ih =>
    rw [List.pairwise_cons] at hs
    have hq := h q (List.mem_cons_self ..)
    have hr : ∀ x ∈ r, x.addr ≠ p.addr := fun x hx => h x (List.mem_cons_of_mem _ hx)
    unfold withP insP
    rw [if_pos hq]
    by_cases hlt : p.addr < q.addr
    · have hle : p.addr ≤ q.addr := by omega
      simp only [hle, hlt, decide_true, Bool.not_false, Bool.and_self, if_true, Bool.or_true, withP_done hr]
      rfl
    · have hle : ¬ p.addr ≤ q.addr := by omega
      simp only [hle, hlt, decide_false, Bool.not_false, Bool.and_false, Bool.false_eq_true, if_false, Bool.or_false, List.nil_append, ih hs.2 hr]
      rfl
theorem withP_upd {p : Pg} {m : V} (hs : m.Pairwise (fun p q => p.addr < q.addr)) (h : ∃ q ∈ m, q.addr = p.addr) : withP p m false = upd m p.addr (fun _ => p) := by
  induction m with
  | nil => obtain ⟨_, h, _⟩ := h; cases h
  | cons q r ih =>
    rw [List.pairwise_cons] at hs
    unfold withP upd
    by_cases hq : q.addr = p.addr
    · have hr : ∀ x ∈ r, x.addr ≠ p.addr := fun x hx => by have := hs.1 x hx; omega
      have hle : p.addr ≤ q.addr := by omega
      simp only [hle, decide_true, Bool.not_false, Bool.and_self, if_true, Bool.or_true, withP_done hr, List.map_cons]
      rw [if_pos hq, if_neg (by simpa using hq)]
      show p :: r = p :: _
      congr 1
      conv => lhs; rw [← List.map_id r]
      apply List.map_congr_left
      intro x hx
      rw [if_neg (hr x hx)]
      rfl
    · obtain ⟨x, hx, ex⟩ := h
      have hxr : x ∈ r := (List.mem_cons.1 hx).resolve_left fun e => hq (e ▸ ex)
      have hle : ¬ p.addr ≤ q.addr := by have := hs.1 x hxr; omega
      have := ih hs.2 ⟨x, hxr, ex⟩
      unfold upd at this
      simp only [hle, decide_false, Bool.not_false, Bool.and_false, Bool.false_eq_true, if_false, Bool.or_false, List.nil_append, this, List.map_cons]
      rw [if_pos hq, if_neg hq]
      rfl
theorem upd_upd (m : V) (a : Nat) {g1 g2 : Pg → Pg} (h1 : ∀ p, (g1 p).addr = p.addr) : upd (upd m a g1) a g2 = upd m a (fun p => g2 (g1 p)) := by
  unfold upd
  rw [List.map_map]
  apply List.map_congr_left
  intro p _
  simp only [Function.comp]
  by_cases e : p.addr = a
  · rw [if_pos e, if_pos (by rw [h1]; exact e), if_pos e]
  · rw [if_neg e, if_neg e, if_neg e]
theorem upd_id (m : V) (a : Nat) {g : Pg → Pg} (h : ∀ p ∈ m, p.addr = a → g p = p) : upd m a g = m := by
  unfold upd
  conv => rhs; rw [← List.map_id m]
  apply List.map_congr_left
  intro p hp
  split
  · rename_i e; exact h p hp e
  · rfl
theorem setB_upd (m : V) (a : Nat) (c : UInt8) : setB m a c = upd m (pageOf a) (fun p => { p with b := p.b.set (a % 256) c }) := rfl
/-- bytes within one page -/
theorem writeB_page (m : V) (a : Nat) (c : List UInt8) (h : a % 256 + c.length ≤ 256) : writeB m a c = upd m (pageOf a) (fun p => { p with b := setR p.b (a % 256) c }) := by
  induction c generalizing m a with
  | nil => exact (upd_id m _ fun p _ _ => rfl).symm
  | cons x r ih =>
    rw [List.length_cons] at h
    unfold writeB
    cases r with
    | nil => rw [setB_upd]; rfl
    | cons y t =>
      rw [List.length_cons] at h
      have e1 : pageOf (a + 1) = pageOf a := by unfold pageOf; omega
      have e2 : (a + 1) % 256 = a % 256 + 1 := by omega
      rw [ih _ (a + 1) (by rw [e2, List.length_cons]; omega), e1, e2, setB_upd, upd_upd]
      · rfl
      · intro p; rfl
theorem writeB_append (m : V) (a : Nat) (b c : List UInt8) : writeB m a (b ++ c) = writeB (writeB m a b) (a + b.length) c := by
  induction b generalizing m a with
  | nil => rfl
  | cons x r ih =>
    show writeB (setB m a x) (a + 1) (r ++ c) = writeB (writeB (setB m a x) (a + 1) r) (a + (r.length + 1)) c
    rw [ih, show a + 1 + r.length = a + (r.length + 1) by omega]
end Go.Dm.Vm
namespace Go.Dm.Vm
open Go Go.Proofs.YtaoillfofiehpaaDoor Go.Dm.Oc

/-- all pages from lo up to hi are there, and that may be done with them -/
def Full (m : V) (lo hi prot : Nat) : Prop := ∀ x, x % 256 = 0 → lo ≤ x → x < hi → ∃ p, pageAt m x = some p ∧ p.prot = prot
theorem Full.there {m : V} {lo hi prot a n : Nat} (h : Full m lo hi prot) (hlo : lo % 256 = 0) (h1 : lo ≤ a) (h2 : a + n ≤ hi) (hn : 0 < n) : there m a n = true := by
  rw [there_take]
  intro k hk
  have := (pages_step a n k hn).2 hk
  obtain ⟨p, hp, _⟩ := h (pageOf a + 256 * k) (by unfold pageOf; omega) (by unfold pageOf; omega) (by omega)
  rw [hp]; rfl
theorem Full.held {m : V} {lo hi prot a n : Nat} (h : Full m lo hi prot) (hlo : lo % 256 = 0) (h1 : lo ≤ a) (h2 : a + n ≤ hi) (hn : 0 < n) (hh : hi ≤ top) (hs : n ≤ 131328) : heldE m a n = 0 := by
  unfold heldE
  rw [if_neg (by omega), if_pos (h.there hlo h1 h2 hn)]
theorem Full.allowed {m : V} {lo hi prot a n what : Nat} (h : Full m lo hi prot) (hlo : lo % 256 = 0) (h1 : lo ≤ a) (h2 : a + n ≤ hi) (hn : 0 < n) (hp : prot &&& what ≠ 0) : allowedE m a n what = 0 := by
  unfold allowedE
  rw [if_pos]
  unfold pagesOf
  rw [List.all_eq_true]
  intro x hx
  obtain ⟨k, hk, rfl⟩ := List.mem_map.1 hx
  have := (pages_step a n k hn).2 (List.mem_range.1 hk)
  obtain ⟨p, hpp, hpr⟩ := h (pageOf a + 256 * k) (by unfold pageOf; omega) (by unfold pageOf; omega) (by omega)
  unfold allow1E
  rw [hpp]
  simp only [hpr]
  rw [if_neg hp]
  rfl
theorem Full.num {m : V} {lo hi prot a what : Nat} {n : Int} (h : Full m lo hi prot) (hlo : lo % 256 = 0) (hw : n = 1 ∨ n = 2 ∨ n = 4 ∨ n = 8) (h1 : lo ≤ a) (h2 : a + n.toNat ≤ hi) (hh : hi ≤ top) (hp : prot &&& what ≠ 0) : numE m a n what = 0 := by
  unfold numE
  rw [if_pos hw, if_pos (h.held hlo h1 h2 (by omega) hh (by omega))]
  exact h.allowed hlo h1 h2 (by omega) hp
theorem Full.upd {m : V} {lo hi prot a : Nat} {g : Pg → Pg} (h : Full m lo hi prot) (hg : ∀ p, (g p).addr = p.addr) (hp : ∀ p, (g p).prot = p.prot) : Full (upd m a g) lo hi prot := by
  intro x h1 h2 h3
  obtain ⟨p, hpp, hpr⟩ := h x h1 h2 h3
  refine ⟨_, by rw [pageAt_upd m hg, hpp]; rfl, ?_⟩
  show (if p.addr = a then g p else p).prot = prot
  split
  · rw [hp, hpr]
  · exact hpr
theorem Full.updN {m : V} {lo hi prot a k : Nat} {g : Pg → Pg} (h : Full m lo hi prot) (hg : ∀ p, (g p).addr = p.addr) (hp : ∀ p, (g p).prot = p.prot) : Full (updN g m a k) lo hi prot := by
  induction k with
  | zero => exact h
  | succ k ih => exact ih.upd hg hp
theorem Full.write {m : V} {lo hi prot : Nat} (h : Full m lo hi prot) (a : Nat) (b : List UInt8) : Full (writeB m a b) lo hi prot := by
  induction b generalizing m a with
  | nil => exact h
  | cons c r ih => exact ih (Full.upd (g := fun p => { p with b := p.b.set (a % 256) c }) h (fun _ => rfl) (fun _ => rfl)) (a + 1)
theorem Full.store {m : V} {lo hi prot : Nat} (h : Full m lo hi prot) (a : Nat) (n : Int) (x : Nat) : Full (storeV m a n x) lo hi prot := by
  unfold storeV
  split
  · exact (h.write _ _).updN (g := dirt) (fun _ => rfl) (fun _ => rfl)
  · exact h
theorem byteAt_upd {m : V} {a y : Nat} {g : Pg → Pg} (hg : ∀ p, (g p).addr = p.addr) (hb : ∀ p, (g p).b = p.b) : byteAt (upd m a g) y = byteAt m y := by
  unfold byteAt
  rw [pageAt_upd m hg]
  cases pageAt m (pageOf y) with
  | none => rfl
  | some p =>
    simp only [Option.map_some]
    split
    · rw [hb]
    · rfl
theorem byteAt_updN {m : V} {a y k : Nat} {g : Pg → Pg} (hg : ∀ p, (g p).addr = p.addr) (hb : ∀ p, (g p).b = p.b) : byteAt (updN g m a k) y = byteAt m y := by
  induction k with
  | zero => rfl
  | succ k ih => unfold updN; rw [byteAt_upd hg hb, ih]
theorem byteAt_setB {m : V} {a y : Nat} {c : UInt8} (ho : Ok m) (hp : ∃ p, pageAt m (pageOf a) = some p) : byteAt (setB m a c) y = if y = a then c else byteAt m y := by
  unfold byteAt
  rw [pageAt_setB]
  by_cases hpg : pageOf y = pageOf a
  · obtain ⟨p, hp⟩ := hp
    rw [hpg, hp]
    obtain ⟨hpm, hpa⟩ := get_mem hp
    have hl := (ho.pg p hpm).bl
    simp only [Option.map_some]
    rw [if_pos hpa]
    simp only
    by_cases e : y = a
    · subst e
      rw [if_pos rfl, List.getD_eq_getElem?_getD, List.getElem?_set_self (by rw [hl]; exact Nat.mod_lt _ (by decide))]
      rfl
    · rw [if_neg e, List.getD_eq_getElem?_getD, List.getElem?_set_ne (by unfold pageOf at hpg; omega), List.getD_eq_getElem?_getD]
  · rw [if_neg (fun e => hpg (by rw [e]))]
    cases hq : pageAt m (pageOf y) with
    | none => rfl
    | some p =>
      simp only [Option.map_some]
      rw [if_neg (by rw [(get_mem hq).2]; exact hpg)]
theorem byteAt_writeB {m : V} (b : List UInt8) (ho : Ok m) (a y : Nat) (ht : ∀ i, i < b.length → ∃ p, pageAt m (pageOf (a + i)) = some p) : byteAt (writeB m a b) y = if a ≤ y ∧ y < a + b.length then b.getD (y - a) 0 else byteAt m y := by
  induction b generalizing m a with
  | nil => rw [if_neg (by rw [List.length_nil]; omega)]; rfl
  | cons c r ih =>
    have h0 := ht 0 (by simp)
    rw [Nat.add_zero] at h0
    show byteAt (writeB (setB m a c) (a + 1) r) y = _
    rw [ih (setB_ok ho a c) (a + 1) fun i hi => ?_, byteAt_setB ho h0]
    · rw [List.length_cons]
      by_cases e : y = a
      · subst e
        rw [if_neg (by omega), if_pos rfl, if_pos (by omega), Nat.sub_self]
        rfl
      · rw [if_neg e]
        by_cases h : a + 1 ≤ y ∧ y < a + 1 + r.length
        · rw [if_pos h, if_pos (by omega), show y - a = (y - (a + 1)) + 1 by omega]
          rfl
        · rw [if_neg h, if_neg (by omega)]
    · obtain ⟨p, hp⟩ := ht (i + 1) (by simpa using hi)
      rw [show a + 1 + i = a + (i + 1) by omega]
      exact ⟨_, by rw [pageAt_setB, hp]; rfl⟩
/-- what is stored is loaded -/
theorem read_store {m : V} (ho : Ok m) {a : Nat} {n : Int} {x : Nat} (hE : numE m a n 2 = 0) (y k : Nat) : readB (storeV m a n x) y k = (List.range k).map fun i => if a ≤ y + i ∧ y + i < a + n.toNat then (le n.toNat x).getD (y + i - a) 0 else byteAt m (y + i) := by
  unfold readB
  apply List.map_congr_left
  intro i _
  unfold storeV
  rw [if_pos hE, byteAt_updN (g := dirt) (fun _ => rfl) (fun _ => rfl), byteAt_writeB _ ho, le_len]
  intro j hj
  rw [le_len] at hj
  have hp : heldE m a n.toNat = 0 := by
    unfold numE at hE
    split at hE
    · split at hE
      · assumption
      · rename_i h; exact absurd hE h
    · cases hE
  exact there_at (held_parts hp).2.2.2 hj
theorem load_store {m : V} (ho : Ok m) {a : Nat} {n : Int} {x : Nat} (hE : numE m a n 2 = 0) (hL : numE (storeV m a n x) a n 4 = 0) : loadX (storeV m a n x) a n = x % 256 ^ n.toNat := by
  unfold loadX
  rw [if_pos (show loadE (storeV m a n x) a n = 0 from hL), read_store ho hE]
  have e : ((List.range n.toNat).map fun i => if a ≤ a + i ∧ a + i < a + n.toNat then (le n.toNat x).getD (a + i - a) 0 else byteAt m (a + i)) = le n.toNat x := by
    apply List.ext_getElem
    · rw [List.length_map, List.length_range, le_len]
    · intro i h1 h2
      rw [List.length_map, List.length_range] at h1
      rw [List.getElem_map, List.getElem_range, if_pos (by omega), Nat.add_sub_cancel_left, List.getD_eq_getElem?_getD, List.getElem?_eq_getElem h2]
      rfl
  rw [e, leN_le]
theorem dirt_ok' (p : Pg) (h : PgOk p) : PgOk (dirt p) := ⟨h.al, h.lt, h.pr, h.bl, h.ol, h.fl⟩
theorem store_ok {m : V} (ho : Ok m) (a : Nat) (n : Int) (x : Nat) : Ok (storeV m a n x) := by
  unfold storeV
  split
  · exact updN_ok (g := dirt) (writeB_ok ho _ _) (fun _ => rfl) dirt_ok' _ _
  · exact ho
theorem read_write {m : V} (ho : Ok m) {a : Nat} {b : List UInt8} (hh : heldE m a b.length = 0) : readB (writeB m a b) a b.length = b := by
  unfold readB
  apply List.ext_getElem
  · rw [List.length_map, List.length_range]
  · intro i h1 h2
    rw [List.length_map, List.length_range] at h1
    rw [List.getElem_map, List.getElem_range, byteAt_writeB b ho a (a + i) (fun j hj => there_at (held_parts hh).2.2.2 hj), if_pos (by omega), Nat.add_sub_cancel_left, List.getD_eq_getElem?_getD, List.getElem?_eq_getElem h2]
    rfl
end Go.Dm.Vm
namespace Go.Dm.Cp
open Go Go.Dm.Vm Go.Dm.Oc
def Kp (s : St) (a : Nat) (n : St) : Prop := n.tls = s.tls ∧ ∀ k, k ≠ a → n.reg k = s.reg k
theorem Kp.refl (s : St) (a : Nat) : Kp s a s := ⟨rfl, fun _ _ => rfl⟩
theorem Kp.go {s n : St} {a : Nat} (h : Kp s a n) (p : Nat) : Kp s a (n.go p) := ⟨h.1, h.2⟩
theorem Kp.put {s n : St} {a : Nat} (h : Kp s a n) (x : Nat) : Kp s a (n.put a x) := ⟨h.1, fun k hk => by
  rw [← h.2 k hk]
  unfold St.reg St.put
  rw [List.getD_eq_getElem?_getD, List.getD_eq_getElem?_getD, List.getElem?_set_ne (fun e => hk e.symm)]⟩
theorem Kp.ite {s n k : St} {a : Nat} {c : Prop} [Decidable c] (h : Kp s a n) (h2 : Kp s a k) : Kp s a (if c then n else k) := by
  split
  · exact h
  · exact h2
def Kf (s : St) (a : Nat) (t : St × V × Out) : Prop := Kp s a t.1
theorem kf_ite {s : St} {x : Nat} {c : Prop} [Decidable c] {a b : St × V × Out} (h1 : Kf s x a) (h2 : Kf s x b) : Kf s x (if c then a else b) := by
  split
  · exact h1
  · exact h2
theorem do_keeps (s : St) (m : V) (i : Ins) : Kp s i.a (doM s m i).1 := by
  show Kf s i.a (doM s m i)
  unfold doM
  dsimp only
  repeat' (refine kf_ite ?_ ?_)
  all_goals
    show Kp s i.a _
    dsimp only
    first
      | exact Kp.refl _ _
      | exact (Kp.refl _ _).go _
      | exact ((Kp.refl _ _).go _).put _
      | exact (((Kp.refl _ _).go _).put _).go _
      | exact ((Kp.refl _ _).go _).go _
      | exact Kp.ite (((Kp.refl _ _).go _).go _) ((Kp.refl _ _).go _)
theorem laid_word (x : Nat) (hx : x < 18446744073709551616) : peekE (mapV [] 256 256 7 [] 0) 256 (le 8 x).length = 0 ∧ fetchE (pokeV (mapV [] 256 256 7 [] 0) 256 (le 8 x)) 256 = 0 ∧ fetchX (pokeV (mapV [] 256 256 7 [] 0) 256 (le 8 x)) 256 = x := by
  have hm : mapV [] 256 256 7 [] 0 = [newPg 256 7 [] 0 0] := rfl
  have hf : Full (mapV [] 256 256 7 [] 0) 256 512 7 := by
    rw [hm]
    intro y hy h1 h2
    obtain rfl : y = 256 := by omega
    exact ⟨_, rfl, rfl⟩
  have hok : Ok (mapV [] 256 256 7 [] 0) := by
    rw [hm]
    refine ⟨by simp, fun p hp => ?_, by simp⟩
    rw [List.mem_singleton] at hp
    subst hp
    exact ⟨rfl, by decide, by decide, noughts_len, by decide, by simp [newPg]⟩
  generalize mapV [] 256 256 7 [] 0 = m at *
  have hl := le_len 8 x
  have hh : Vm.heldE m 256 (le 8 x).length = 0 := by rw [hl]; exact hf.held (by decide) (by omega) (by omega) (by omega) (by decide) (by omega)
  have hp : peekE m 256 (le 8 x).length = 0 := by unfold peekE; rw [if_neg (by rw [hl]; omega), hh]
  have he : pokeV m 256 (le 8 x) = writeB m 256 (le 8 x) := by unfold pokeV; rw [if_pos hp]
  have hfe : fetchE (pokeV m 256 (le 8 x)) 256 = 0 := by
    rw [he]
    unfold fetchE
    rw [if_pos (by decide)]
    exact (hf.write 256 (le 8 x)).num (by decide) (by omega) (by omega) (by decide) (by decide) (by decide)
  refine ⟨hp, hfe, ?_⟩
  have hr := read_write hok hh
  rw [hl] at hr
  unfold fetchX
  rw [if_pos hfe, he, hr, leN_le]
  exact Nat.mod_eq_of_lt hx
theorem step_keeps (s : St) (hs : s.pc = 256) (x : Nat) (hx : x < 18446744073709551616) :
    (stepM s (pokeV (mapV [] 256 256 7 [] 0) 256 (le 8 x))).1.tls = s.tls ∧ ((stepM s (pokeV (mapV [] 256 256 7 [] 0) 256 (le 8 x))).2.2.kind = 3 → (stepM s (pokeV (mapV [] 256 256 7 [] 0) 256 (le 8 x))).1 = s) ∧ ∀ k, k ≠ x / 256 % 32 → (stepM s (pokeV (mapV [] 256 256 7 [] 0) 256 (le 8 x))).1.reg k = s.reg k := by
  obtain ⟨_, h1, h2⟩ := laid_word x hx
  generalize pokeV (mapV [] 256 256 7 [] 0) 256 (le 8 x) = m at *
  unfold stepM
  rw [hs, if_pos h1, h2]
  by_cases h : decE x = 0
  · rw [if_pos h]
    have hk := do_keeps s m (decI x)
    exact ⟨hk.1, do_fault, fun k hk' => hk.2 k hk'⟩
  · rw [if_neg h]
    exact ⟨rfl, fun _ => rfl, fun _ _ => rfl⟩
end Go.Dm.Cp
namespace Go.Proofs.YtaoillfofiehpaaDoor
open Go.RowKit Go.Dm Go.Dm.Vm Go.Dm.Cp Go.Maps
def Sof (t : St × V × Out) : Prop := StOk t.1
theorem sof_ite {c : Prop} [Decidable c] {a b : St × V × Out} (h1 : c → Sof a) (h2 : ¬ c → Sof b) : Sof (if c then a else b) := by
  by_cases h : c
  · rw [if_pos h]; exact h1 h
  · rw [if_neg h]; exact h2 h
theorem sok_ite {c : Prop} [Decidable c] {a b : St} (h1 : StOk a) (h2 : StOk b) : StOk (if c then a else b) := by
  split
  · exact h1
  · exact h2
theorem movhi_lt (a b : Nat) : a % 4294967296 + b % 4294967296 * 4294967296 < 18446744073709551616 := by omega
theorem do_ok {s : St} (m : V) {i : Ins} (hs : StOk s) (hi : InOk i) : StOk (doM s m i).1 := by
  have hu := u64_lt hi.lo hi.hi
  show Sof (doM s m i)
  unfold doM
  dsimp only
  repeat' (refine sof_ite (fun _ => ?_) (fun _ => ?_))
  all_goals
    show StOk _
    dsimp only
    first
      | exact hs
      | exact hs.go (add_lt _ _)
      | exact (hs.go (add_lt _ _)).put _ (hs.reg _)
      | exact (hs.go (add_lt _ _)).put _ (of_lt (by assumption) (hs.reg _) (hs.reg _))
      | exact (hs.go (add_lt _ _)).put _ (add_lt _ _)
      | exact (hs.go (add_lt _ _)).put _ hu
      | exact (hs.go (add_lt _ _)).put _ (movhi_lt _ _)
      | exact (hs.go (add_lt _ _)).put _ (loadX_lt _ _ (by omega))
      | exact sok_ite ((hs.go (add_lt _ _)).go (add_lt _ _)) (hs.go (add_lt _ _))
      | exact (hs.go (add_lt _ _)).go (add_lt _ _)
      | exact (hs.go (add_lt _ _)).go (hs.reg _)
      | exact ((hs.go (add_lt _ _)).put _ (add_lt _ _)).go (add_lt _ _)
      | exact ((hs.go (add_lt _ _)).put _ (add_lt _ _)).go (hs.reg _)
theorem step_ok {s : St} (m : V) (hs : StOk s) : StOk (stepM s m).1 := by
  unfold stepM
  split
  · split
    · rename_i h
      exact do_ok m hs (dec_inok (fetchX_lt m s.pc) h)
    · exact hs
  · exact hs
end Go.Proofs.YtaoillfofiehpaaDoor
