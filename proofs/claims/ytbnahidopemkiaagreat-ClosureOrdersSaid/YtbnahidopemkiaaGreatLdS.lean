/- Slices of flat elements: read at an index, pushed to, put one behind the other. octets: has, width, fits, Get, Set. octets: Cut, Down, Up; names: Check, At. names.At: the name at a place of a table. head: Equal of bytes. A store into a known block, at any place. Loads of a whole block, and of a part of it; a struct that is built. No condition. -/
import Derived.Test.YtbnahidopemkiaaGreatEnt
import Derived.Laws.Tables
import Derived.Laws.Rows
import Derived.Laws.ResultCell
import Derived.Test.YtbnahidopemkiaaGreatProg
import Derived.Laws.MakeOwn
import Derived.Laws.OwnMore
import Derived.BigQuiet
import Derived.Laws.CopyRow
import Derived.Laws.StructEq
set_option linter.unusedVariables false
set_option linter.unusedSimpArgs false
namespace Go.Dm
open Go Go.RowKit

/-- a slice whose elements x are the cells enc x -/
def Fl {α : Type} (A : Nat → Prop) (w : World) (k : Nat) (enc : α → List Value) (v : Value) (l : List α) : Prop := Sl A w k v l.length (l.flatMap enc)
/-- the same in a row of one's own -/
def FlO {α : Type} (w : World) (base : Nat) (e : TypeId) (k : Nat) (enc : α → List Value) (v : Value) (l : List α) : Prop := w.ownsRow base e k v l.length (l.flatMap enc)

section
variable {α : Type} {A : Nat → Prop} {w : World} {k : Nat} {enc : α → List Value} {v : Value} {l : List α}
theorem Fl.keep {S : Nat → Prop} {w' : World} (h : Fl A w k enc v l) (hk : Keep S w w') (hS : ∀ j, j < w.heap.size → A j → ¬ S j) : Fl A w' k enc v l := Sl.keep h hk hS
theorem Fl.no {w' : World} (h : Fl A w k enc v l) (hk : Keep No w w') : Fl A w' k enc v l := Sl.keep h hk fun _ _ _ h => h
theorem Fl.mono {B : Nat → Prop} (h : Fl A w k enc v l) (hab : ∀ j, j < w.heap.size → A j → B j) : Fl B w k enc v l := Sl.mono h hab
theorem Fl.shape (h : Fl A w k enc v l) : ∃ a cap, v = .slice a l.length cap ∧ l.length ≤ cap ∧ cap ≤ maxLen := Sl.shape h
theorem Fl.nil : Fl A w k enc (.slice none 0 0) [] := Sl.nil _ _ _
theorem Fl.at (h : Fl A w k enc v l) (hk : ∀ x, (enc x).length = k) {i : Nat} (hi : i < l.length) :
    ∃ g off cap, v = .slice (some ⟨g, off, none⟩) l.length cap ∧ A g ∧ g < w.heap.size ∧ l.length ≤ cap ∧ cap ≤ maxLen ∧ ∀ r u, (enc l[i])[r]? = some u → w.cell? ⟨g, off + i * k + r, none⟩ = some u := by
  obtain ⟨g, off, cap, e, ha, hg, hc, hm, hr⟩ := Sl.at h (by omega)
  refine ⟨g, off, cap, e, ha, hg, hc, hm, fun r u hu => ?_⟩
  have hel : ∀ c ∈ l.map enc, c.length = k := by
    intro c hc
    obtain ⟨x, _, rfl⟩ := List.mem_map.1 hc
    exact hk x
  have hrk : r < k := by rw [← hk l[i]]; exact (List.getElem?_eq_some_iff.1 hu).1
  rw [Nat.add_assoc]
  refine hr _ _ ?_
  rw [List.flatMap_def, flatten_get hel i r hrk, List.getElem?_map, List.getElem?_eq_getElem hi]
  exact hu
variable {base : Nat} {e : TypeId}
theorem FlO.fl (h : FlO w base e k enc v l) : Fl (fun j => base ≤ j ∧ j < w.heap.size) w k enc v l := Sl.mono (Sl.of_own h) fun j hj ha => ⟨ha.1, hj⟩
theorem FlO.same {w' : World} (h : FlO w base e k enc v l) (hs : ∀ g, v.ownBlock = some g → w'.heap[g]? = w.heap[g]?) : FlO w' base e k enc v l := by
  refine ⟨h.1, h.2.imp id ?_⟩
  rintro ⟨g, cap, cur, rfl, a, b, r⟩
  exact ⟨g, cap, cur, rfl, a, (hs g rfl).trans b, r⟩
theorem FlO.no {w' : World} (h : FlO w base e k enc v l) (hk : Keep No w w') : FlO w' base e k enc v l := h.same fun g hg => hk.block g (World.ownsRow.lt h g hg).2 fun h => h
theorem FlO.nil : FlO w base e k enc (.slice none 0 0) [] := World.ownsRow_nil _ _ _ _
/-- what is written into a row of one's own is nobody else's -/
theorem Keep.own {w0 w' : World} {n : Nat} {xs : List Value} (hK : Keep No w0 w) (ho : w.ownsRow w0.heap.size e k v n xs) (hk : Keep (fun j => some j = v.ownBlock) w w') : Keep No w0 w' :=
  hK.trans hk fun j hj h => absurd (ho.lt j h.symm).1 (Nat.not_le.2 hj)

theorem Keep.new {w w1 : World} (h : Keep No w w1) {p : Addr} (hp : w.heap.size ≤ p.block) (u : Value) : Keep No w (w1.setCell p u) := h.setCell (fun hl => absurd hl (Nat.not_lt.2 hp)) u
theorem Blk.own {w w' : World} {b base : Nat} {cs : Array Value} {t e : TypeId} {k n : Nat} {v : Value} {xs : List Value} (h : Blk w b cs t) (ho : w.ownsRow base e k v n xs) (hk : Keep (fun j => some j = v.ownBlock) w w') (hb : b < base) : Blk w' b cs t :=
  h.keep hk fun e => absurd (ho.lt b e.symm).1 (Nat.not_le.2 hb)

variable {P : Program}
/-- append(v, x) -/
theorem rg_push (z : Value) (bytes : Nat) {t ty : TypeId} (ht : P.underlying t = some (.slice e)) (hi : (P.info? e).map (fun i => (i.zero, i.size, i.bytes)) = some (some z, k, bytes)) (hzs : z.cells.size = k) (hk0 : 0 < k)
    {x : α} {cs : Array Value} (hcs : cs.toList = enc x) (hx : (enc x).length = k) (hone : ∀ u ∈ enc x, u.oneCell' = true) (ho : FlO w base e k enc v l) (hlen : l.length + 1 ≤ 1099511627776) (hb : bytes ≤ 128) (hbase : base ≤ w.heap.size) {K : Value → World → Prop}
    (h : ∀ v' w', FlO w' base e k enc v' (l ++ [x]) → Keep (fun j => some j = v.ownBlock) w w' → (v'.ownBlock = v.ownBlock ∨ v'.ownBlock = some (w.heap.size + 1)) → K v' w') : AppendGoal P t t ty v (.slice (some ⟨w.heap.size, 0, none⟩) 1 1) (w.alloc (.cells cs e)) K := by
  have hs : Sl (fun j => j = w.heap.size) (w.alloc (.cells cs e)) k (.slice (some ⟨w.heap.size, 0, none⟩) 1 1) 1 (enc x) := by
    rw [← hcs]
    exact Sl.new w cs e (by rw [← Array.length_toList, hcs, hx, Nat.one_mul]) (by unfold maxLen; omega)
  have hbb : (l.length + 1) * bytes ≤ 140737488355328 := Nat.le_trans (Nat.mul_le_mul hlen hb) (by decide)
  refine rg_append base e z k bytes ht hi hzs hk0 (ho.alloc _) hs hone (by unfold maxLen; omega) hbb (by rw [World.size_alloc]; omega) ?_
  intro v' w' ho' hk' _ hn
  refine h v' w' ?_ (((Keep.refl _ w).alloc _).trans' hk') ?_
  · unfold FlO
    rw [List.length_append, List.flatMap_append]
    simpa using ho'
  · rw [World.size_alloc] at hn; exact hn
/-- append(v, vs...) -/
theorem rg_cat (z : Value) (bytes : Nat) {t ty : TypeId} (ht : P.underlying t = some (.slice e)) (hi : (P.info? e).map (fun i => (i.zero, i.size, i.bytes)) = some (some z, k, bytes)) (hzs : z.cells.size = k) (hk0 : 0 < k)
    {vs : Value} {m : List α} (hs : Fl A w k enc vs m) (hone : ∀ x, ∀ u ∈ enc x, u.oneCell' = true) (ho : FlO w base e k enc v l) (hlen : l.length + m.length ≤ 1099511627776) (hb : bytes ≤ 128) (hbase : base ≤ w.heap.size) {K : Value → World → Prop}
    (h : ∀ v' w', FlO w' base e k enc v' (l ++ m) → Keep (fun j => some j = v.ownBlock) w w' → (v'.ownBlock = v.ownBlock ∨ v'.ownBlock = some w.heap.size) → K v' w') : AppendGoal P t t ty v vs w K := by
  have hbb : (l.length + m.length) * bytes ≤ 140737488355328 := Nat.le_trans (Nat.mul_le_mul hlen hb) (by decide)
  refine rg_append base e z k bytes ht hi hzs hk0 ho hs (fun u hu => ?_) (by unfold maxLen; omega) hbb hbase ?_
  · obtain ⟨x, _, hx⟩ := List.mem_flatMap.1 hu
    exact hone x u hx
  · intro v' w' ho' hk' _ hn
    refine h v' w' ?_ hk' hn
    unfold FlO
    rw [List.length_append, List.flatMap_append]
    exact ho'
end

/-! a whole struct is stored; a struct is the result -/
def StAggGoal (P : Program) (ty : TypeId) (g : Nat) (cells : Array Value) (w : World) (K : World → Prop) : Prop := RunGoal P (Instr.storeAt ty (.pointer (some ⟨g, 0, none⟩)) (.agg cells)) w fun _ w' => K w'
section
variable {P : Program} {w : World}
theorem wl_stAgg {ops : Array Oper} {rest : List Oper} {o : Oper} {a : Act} {Q : Exit → Act → World → Prop} (hgd : o.guard = none) (x y : Operand) (ty : TypeId) (ho : o.op = Op.store ty x y) (g : Nat) (cells : Array Value)
    (h1 : a.eval x = .pointer (some ⟨g, 0, none⟩)) (h2 : a.eval y = .agg cells) (h : StAggGoal P ty g cells w fun w' => wpList P ops Q rest (a.put o.dst undef) w') : wpList P ops Q (o :: rest) a w := by
  obtain ⟨v, w', hr, hk⟩ := h
  refine wpList_plain hgd fun K hK => ?_
  unfold Oper.wp execOp
  simp only [ho, h1, h2, hr, Sem.run_bind, Sem.run_pure, Result.andThen_ok]
  exact hK _ _ hk
theorem wo_stAgg {o : Oper} {a : Act} {Q : Exit → Act → World → Prop} {K : Act → World → Prop} (x y : Operand) (ty : TypeId) (ho : o.op = Op.store ty x y) (g : Nat) (cells : Array Value)
    (h1 : a.eval x = .pointer (some ⟨g, 0, none⟩)) (h2 : a.eval y = .agg cells) (h : StAggGoal P ty g cells w fun w' => K (a.put o.dst undef) w') : o.wp P a w K Q := by
  obtain ⟨v, w', hr, hk⟩ := h
  unfold Oper.wp execOp
  simp only [ho, h1, h2, hr, Sem.run_bind, Sem.run_pure, Result.andThen_ok]
  exact hk
theorem rg_stAgg {g : Nat} {old cells : Array Value} {t ty : TypeId} (hB : Blk w g old t) (hi : (P.info? ty).map (·.size) = some cells.size) (hold : old.size = cells.size) (h1 : cells.all (·.oneCell') = true) {K : World → Prop}
    (h : ∀ w', Blk w' g cells t → Keep (fun j => j = g) w w' → w'.heap.size = w.heap.size → K w') : StAggGoal P ty g cells w K := by
  refine .mk (v := ()) (w' := w.setRow g cells) ?_ (h _ (setRow_heap w g old cells t _ hB) ⟨rfl, rfl, rfl, by simp, fun k _ hk => setRow_other w g k cells hk⟩ (by simp))
  simp only [Instr.storeAt, Instr.sureAddr, Sem.run_bind, Sem.run_pure, Result.andThen_ok, run_storeVar_row w g t ty old cells hB hi hold h1]
/-- the result lies in block g -/
theorem ret_blk {fn : Func} {R : Ending → World → Prop} {a : Act} {p : Tmp} {ty t : TypeId} {g : Nat} {cs : Array Value} {d : TypeDesc} (h : fn.results = #[.cell p ty]) (hp : a.tmps.getD p undef = .pointer (some ⟨g, 0, none⟩)) (hB : Blk w g cs t) (hu : P.underlying ty = some d)
    (hd : (match d with | .struct _ | .array _ _ => true | _ => false) = true) (hi : (P.info? ty).map (·.size) = some cs.size) (hdf : a.defers = []) (hR : R (.returned (.agg cs)) w) : bodyPost P fn R .ret a w :=
  bodyPost_ret (results_cell_row h a.tmps w g t cs _ d hp hB hu hd hi) hdf hR
theorem ret_blk_tmp {fn : Func} {R : Ending → World → Prop} {a : Act} {p u : Tmp} {ty t : TypeId} {g : Nat} {cs : Array Value} {d : TypeDesc} (h : fn.results = #[.cell p ty, .tmp u]) (hp : a.tmps.getD p undef = .pointer (some ⟨g, 0, none⟩)) (hB : Blk w g cs t) (hu : P.underlying ty = some d)
    (hd : (match d with | .struct _ | .array _ _ => true | _ => false) = true) (hi : (P.info? ty).map (·.size) = some cs.size) (hdf : a.defers = []) (hR : R (.returned (.tuple #[.agg cs, a.tmps.getD u undef])) w) : bodyPost P fn R .ret a w :=
  bodyPost_ret (by rw [results_cell_tmp h, hp]; simp [asAddr, run_loadVar_row w g t ty cs _ d hB hu hd hi, Result.andThen]) hdf hR
end
end Go.Dm
namespace Go.Proofs.YtbnahidopemkiaaGreat
open Go.RowKit Go.Dm Go.Dm.Oc

theorem o_info : (Tryz.prog.info? 5).map (fun i => (i.zero, i.size, i.bytes)) = some (some (.int .u8 0), 1, 1) := by kernel_rfl
section
variable {A : Nat → Prop} {w : World}
theorem owidth_any (n : Int) (w : World) : Calls Tryz.prog 137 #[.int .i64 n] w fun e w' => e = .returned (.bool (widthB n)) ∧ w = w' := by
  go_enter Tryz.func137, Tryz.ntmps137
  go_wp2_with fail
  all_goals
    go_ret
    refine ⟨congrArg (fun b => Ending.returned (Value.bool b)) ?_, rfl⟩
    rw [Bool.eq_iff_iff]
    simp only [widthB, decide_eq_true_eq, true_iff, Bool.or_eq_true, beq_iff_eq]
    omega
theorem ohas_any (many at_ size : Nat) (hm : many < 9223372036854775808) (ha : at_ < 18446744073709551616) (hs : size < 18446744073709551616) (w : World) :
    Calls Tryz.prog 118 #[.int .i64 (many : Int), .int .u64 (at_ : Int), .int .u64 (size : Int)] w fun e w' => e = .returned (.bool (hasB many at_ size)) ∧ w = w' := by
  go_enter Tryz.func118, Tryz.ntmps118
  go_wp2_with fail
  all_goals
    go_ret
    refine ⟨congrArg (fun b => Ending.returned (Value.bool b)) ?_, rfl⟩
    rw [Bool.eq_iff_iff]
    simp only [hasB, Bool.and_eq_true, decide_eq_true_eq, Bool.false_eq_true, false_iff]
    omega
theorem ofits_any {v : Value} (b : List UInt8) (at_ : Nat) (n : Int) (hb : Bts A w v b) (hl : b.length ≤ 1099511627776) (ha : at_ < 18446744073709551616) (h0 : -9223372036854775808 ≤ n) (h1 : n < 9223372036854775808) :
    Calls Tryz.prog 131 #[v, .int .u64 (at_ : Int), .int .i64 n] w fun e w' => e = .returned (.int .i64 (fitsE b.length at_ n : Nat)) ∧ w = w' := by
  obtain ⟨a, c, rfl, hc, hc2⟩ := hb.shape
  have hd : fitsE b.length at_ n = if widthB n then if hasB b.length at_ n.toNat then 0 else 10 else 1 := rfl
  have HD := Lib.hid hd
  clear hd
  go_enter Tryz.func131, Tryz.ntmps131
  go_wp2_with fail
  refine (owidth_any n _).mono ?_
  rintro e x ⟨rfl, rfl⟩
  cases hw : widthB n with
  | false =>
    have HE := Lib.hid (show fitsE b.length at_ n = 1 by rw [HD.out, hw]; rfl)
    clear HD
    go_wp2_with fail
    go_ret
    rw [HE.out]
    exact ⟨rfl, rfl⟩
  | true =>
    have hn : n = (n.toNat : Int) := by simp only [widthB, decide_eq_true_eq] at hw; omega
    have hn8 : n.toNat ≤ 8 := by simp only [widthB, decide_eq_true_eq] at hw; omega
    have HE := Lib.hid (show fitsE b.length at_ n = if hasB b.length at_ n.toNat then 0 else 10 by rw [HD.out, hw]; rfl)
    clear HD hw
    generalize n.toNat = k at *
    subst hn
    go_wp2_with fail
    refine (ohas_any b.length at_ k (by omega) ha (by omega) _).mono ?_
    rintro e x ⟨rfl, rfl⟩
    cases hh : hasB b.length at_ k with
    | false =>
      have HE2 := Lib.hid (show fitsE b.length at_ (k : Int) = 10 by rw [HE.out, hh]; rfl)
      clear HE
      go_wp2_with fail
      go_ret
      rw [HE2.out]
      exact ⟨rfl, rfl⟩
    | true =>
      have HE2 := Lib.hid (show fitsE b.length at_ (k : Int) = 0 by rw [HE.out, hh]; rfl)
      clear HE
      go_wp2_with fail
      go_ret
      rw [HE2.out]
      exact ⟨rfl, rfl⟩
set_option maxRecDepth 100000 in
set_option maxHeartbeats 2000000 in
theorem oget_any {v : Value} (b : List UInt8) (at_ : Nat) (n : Int) (hb : Bts A w v b) (hl : b.length ≤ 1099511627776) (ha : at_ < 18446744073709551616) (h0 : -9223372036854775808 ≤ n) (h1 : n < 9223372036854775808) :
    Calls Tryz.prog 111 #[v, .int .u64 (at_ : Int), .int .i64 n] w fun e w' => e = .returned (.tuple #[.int .u64 (getX b at_ n : Nat), .int .i64 (fitsE b.length at_ n : Nat)]) ∧ w = w' := by
  have hfit := ofits_any b at_ n hb hl ha h0 h1
  obtain ⟨a, c, rfl, hc, hc2⟩ := hb.shape
  obtain ⟨X, hX⟩ : ∃ X, getX b at_ n = X := ⟨_, rfl⟩
  have hx : getX b at_ n = if fitsE b.length at_ n = 0 then leN ((b.drop at_).take n.toNat) else 0 := rfl
  have hparts := @fits_parts b.length at_ n
  rw [hX] at hx ⊢
  generalize fitsE b.length at_ n = er at *
  have HX := Lib.hid hx
  clear hx hX
  go_enter Tryz.func111, Tryz.ntmps111
  go_wp2_with fail
  refine hfit.mono ?_
  rintro e x ⟨rfl, rfl⟩
  clear hfit
  by_cases hf : er = 0
  · subst hf
    obtain ⟨hn, hat, hsz⟩ := hparts rfl
    have HE := Lib.hid (show X = leN ((b.drop at_).take n.toNat) by rw [HX.out, if_pos rfl])
    clear HX hparts
    have hnn : n = (n.toNat : Int) := by omega
    have hn8 : n.toNat ≤ 8 := by omega
    have hn1 : 1 ≤ n.toNat := by omega
    generalize n.toNat = k at *
    subst hnn
    clear hn
    go_wp2_with fail
    go_loopw [9, 19] (fun xv iv wr => ∃ i : Nat, xv = .int .u64 (leN ((b.drop at_).take i) : Nat) ∧ iv = .int .i64 i ∧ i ≤ k ∧ wr = w) (fun _ iv _ => k - (intOf iv).toNat)
    case atStart => exact ⟨0, rfl, rfl, Nat.zero_le _, rfl⟩
    case round =>
      obtain ⟨i, rfl, rfl, hi, rfl⟩ := hrel
      rcases Nat.lt_or_ge i k with hlt | hge
      · obtain ⟨g0, off, cap, e, hg0, hgl, _, _, hcell⟩ := hb.at (by omega)
        cases e
        have hin : at_ + i < b.length := by omega
        have qb : wr.cell? ⟨g0, off + (at_ + i), none⟩ = some (bv b[at_ + i]) := hcell (at_ + i) _ (by rw [List.getElem?_map, List.getElem?_eq_getElem hin]; rfl)
        have htk : (b.drop at_).take (i + 1) = (b.drop at_).take i ++ [b[at_ + i]] := by
          rw [List.take_succ_eq_append_getElem (by rw [List.length_drop]; omega), List.getElem_drop]
        have hlen : ((b.drop at_).take i).length = i := by rw [List.length_take, List.length_drop]; omega
        have hnx : leN ((b.drop at_).take (i + 1)) = leN ((b.drop at_).take i) + 2 ^ (8 * i) * b[at_ + i].toNat := by rw [htk, leN_snoc, hlen, pow256]
        have hlt8 : leN ((b.drop at_).take i) < 2 ^ (8 * i) := by
          have := leN_lt ((b.drop at_).take i)
          rw [hlen, pow256] at this
          exact this
        have hbb := b[at_ + i].toNat_lt
        generalize b[at_ + i] = y at *
        generalize leN ((b.drop at_).take i) = x at *
        have hor := or_top x y.toNat (8 * i) hlt8
        have hp64 : y.toNat * 2 ^ (8 * i) < 18446744073709551616 := by
          have h1 : y.toNat * 2 ^ (8 * i) < 256 * 2 ^ (8 * i) := Nat.mul_lt_mul_of_pos_right hbb (Nat.two_pow_pos _)
          have h2 : 256 * 2 ^ (8 * i) = 2 ^ (8 * (i + 1)) := by rw [show (256 : Nat) = 2 ^ 8 by rfl, ← Nat.pow_add]; congr 1; omega
          have h3 : 2 ^ (8 * (i + 1)) ≤ 2 ^ 64 := Nat.pow_le_pow_right (by decide) (by omega)
          omega
        have hx64 : x < 18446744073709551616 := by
          have h3 : 2 ^ (8 * i) ≤ 2 ^ 64 := Nat.pow_le_pow_right (by decide) (by omega)
          omega
        have hwr : IntKind.u64.wrap ((y.toNat : Int) * 2 ^ (8 * i)) = ((y.toNat * 2 ^ (8 * i) : Nat) : Int) := by
          rw [show ((y.toNat : Int) * 2 ^ (8 * i)) = ((y.toNat * 2 ^ (8 * i) : Nat) : Int) by push_cast; rfl, IntKind.wrap_u64]
          omega
        have hbor := u64_or_nat x (y.toNat * 2 ^ (8 * i)) hx64 hp64
        rw [hor, ← hnx, ← hwr] at hbor
        have HB := Lib.hid hbor
        have hltz : (i : Int) < (k : Int) := by omega
        have hsum : (at_ : Int) + (i : Int) = ((at_ + i : Nat) : Int) := by omega
        have hinz : ((at_ + i : Nat) : Int) < (b.length : Int) := by omega
        have hatz : (at_ : Int) < 9223372036854775808 := by omega
        have hi8 : (i : Int) ≤ 8 := by omega
        unfold bv at qb
        clear hor hnx htk hlt8 hcell HE hwr hbor hp64
        obtain ⟨j, hj⟩ : ∃ j, j = at_ + i := ⟨_, rfl⟩
        rw [← hj] at hsum hinz qb
        have hjz : (j : Int) < 9223372036854775808 := by omega
        clear hj hin
        go_wp2_with fail
        go_roundw
        case rel => exact ⟨i + 1, by rw [HB.out], by go_num, hlt, trivial⟩
        case measure => simp [intOf]; omega
      · obtain rfl : i = k := Nat.le_antisymm hi hge
        go_wp2_with fail
        go_ret2
        rw [HE.out]
        exact ⟨rfl, rfl⟩
  · have HE := Lib.hid (show X = 0 by rw [HX.out, if_neg hf])
    clear HX hparts
    have hne : (er : Int) ≠ 0 := by omega
    go_wp2_with fail
    go_ret2
    rw [HE.out]
    exact ⟨rfl, rfl⟩
set_option maxRecDepth 100000 in
set_option maxHeartbeats 400000 in
theorem oclone_any (v : Value) (xs : List UInt8) (w : World) (h : Bts A w v xs) (b1 : xs.length ≤ 1099511627776) :
    Calls Tryz.prog 53 #[v] w fun e w' => ∃ v', e = .returned v' ∧ w'.ownsRow w.heap.size 5 1 v' xs.length (xs.map bv) ∧ Keep No w w' := by
  obtain ⟨a, c, rfl, hc, hc2⟩ := h.shape
  have qT := fun (w : World) (a : Option Addr) (n c n' c' : Nat) => Lib.run_eql_slice_nil (P := Tryz.prog) w _ _ a n c n' c' Tryz.underlying24
  cases a with
  | none =>
    have e0 : xs.length = 0 := by
      obtain ⟨_, a', cap, e, c1, _, c2, _⟩ := h
      cases e
      have := c2 rfl
      omega
    obtain rfl : xs = [] := List.eq_nil_of_length_eq_zero e0
    go_enter Tryz.func53, Tryz.ntmps53
    go_wp2_with fail
    go_ret
    exact ⟨_, rfl, World.ownsRow_nil _ _ _ _, Keep.refl _ _⟩
  | some a =>
    go_enter Tryz.func53, Tryz.ntmps53
    go_wp2_with (at_builtin; refine wl_append rfl _ _ _ _ rfl _ _ rfl rfl ?_)
    have hown : (w.alloc (.cells #[] 5)).ownsRow w.heap.size 5 1 (.slice (some ⟨w.heap.size, 0, none⟩) 0 0) 0 [] := World.ownsRow_made w #[] 0 (Nat.le_refl _) (Nat.zero_le _) rfl
    refine rg_append w.heap.size 5 _ 1 1 Tryz.underlying24 o_info rfl (by decide) hown (h.keep ((Keep.refl No w).alloc _) fun _ _ _ h => h) (bv_one _) (by unfold maxLen; omega) (by omega) (by simp) ?_
    intro v' w2 ho hk _ _
    simp only [Nat.zero_add, List.nil_append] at ho
    go_wp2_with fail
    go_ret
    exact ⟨_, rfl, ho, ((Keep.refl No w).alloc _).trans hk fun j hj e => by
      simp only [Value.ownBlock, Option.some.injEq] at e; omega⟩
/-- bytes with a number -/
def setX (b : List UInt8) (at_ : Nat) (n : Int) (x : Nat) : List UInt8 := setR b at_ (le n.toNat x)
set_option maxRecDepth 100000 in
set_option maxHeartbeats 2000000 in
theorem oset_any {v : Value} (b : List UInt8) (at_ : Nat) (n : Int) (x : Nat) (hb : Bts A w v b) (hl : b.length ≤ 1099511627776) (ha : at_ < 18446744073709551616) (hx : x < 18446744073709551616) (hf : fitsE b.length at_ n = 0) :
    Calls Tryz.prog 138 #[v, .int .u64 (at_ : Int), .int .i64 n, .int .u64 (x : Int)] w fun e w' => ∃ v', e = .returned (.tuple #[v', .int .i64 0]) ∧ w'.ownsRow w.heap.size 5 1 v' b.length ((setX b at_ n x).map bv) ∧ Keep No w w' := by
  obtain ⟨hn, hat, hsz⟩ := fits_parts hf
  have hfit := ofits_any b at_ n hb hl ha (by omega) (by omega)
  have hcl := oclone_any v b w hb hl
  rw [hf] at hfit
  unfold setX
  have hnn : n = (n.toNat : Int) := by omega
  have hn8 : n.toNat ≤ 8 := by omega
  have hn1 : 1 ≤ n.toNat := by omega
  generalize n.toNat = k at *
  subst hnn
  clear hn hf
  obtain ⟨a, c, rfl, hc, hc2⟩ := hb.shape
  go_enter Tryz.func138, Tryz.ntmps138
  go_wp2_with fail
  refine hfit.mono ?_
  rintro e W ⟨rfl, rfl⟩
  clear hfit
  go_wp2_with fail
  refine hcl.mono ?_
  rintro e W ⟨v', rfl, ho, hK⟩
  clear hcl
  have hbl : 0 < b.length := by omega
  rcases ho.2 with ⟨_, h0⟩ | ⟨g, cap, cur, rfl, hgb, _⟩
  · omega
  go_wp2_with fail
  go_loopw [23] (fun iv wr => ∃ i : Nat, iv = .int .i64 i ∧ i ≤ k ∧ wr.ownsRow w.heap.size 5 1 (.slice (some ⟨g, 0, none⟩) b.length cap) b.length ((setR b at_ ((le k x).take i)).map bv) ∧ Keep No w wr) (fun iv _ => k - (intOf iv).toNat)
  case atStart => exact ⟨0, rfl, Nat.zero_le _, ho, hK⟩
  case round =>
    clear ho hK
    obtain ⟨i, rfl, hi, ho, hK⟩ := hrel
    rcases Nat.lt_or_ge i k with hlt | hge
    · have hin : at_ + i < b.length := by omega
      have hle := le_len k x
      have htk : (le k x).take (i + 1) = (le k x).take i ++ [UInt8.ofNat (x / 256 ^ i % 256)] := by
        rw [List.take_succ_eq_append_getElem (by omega), le_get k x i hlt]
      have hlen : ((le k x).take i).length = i := by rw [List.length_take]; omega
      have hnx : setR b at_ ((le k x).take (i + 1)) = (setR b at_ ((le k x).take i)).set (at_ + i) (UInt8.ofNat (x / 256 ^ i % 256)) := by rw [htk, setR_snoc, hlen]
      have hsl : (setR b at_ ((le k x).take i)).length = b.length := setR_len _ _ _
      have hc1 : wr.cell? ⟨g, at_ + i, none⟩ = some (bv ((setR b at_ ((le k x).take i))[at_ + i]'(by omega))) := by
        rw [ho.cellAt (at_ + i) (by omega), List.getElem?_map, List.getElem?_eq_getElem (by omega)]
        rfl
      have hfz : wr.frozen? ⟨g, at_ + i, none⟩ = false := ho.frozenAt _
      have ho2 := ho.stored (at_ + i) (bv (UInt8.ofNat (x / 256 ^ i % 256)))
      rw [← List.map_set, ← hnx] at ho2
      have hshr : (x : Int) / 2 ^ (8 * i) = ((x / 256 ^ i : Nat) : Int) := by rw [pow256]; push_cast; rfl
      have hbyte : IntKind.u8.wrap ((x / 256 ^ i : Nat) : Int) = ((UInt8.ofNat (x / 256 ^ i % 256)).toNat : Int) := by
        rw [IntKind.wrap_u8', UInt8.toNat_ofNat', Nat.mod_mod]
        omega
      have hk2 := hK.setCell (p := ⟨g, at_ + i, none⟩) (fun h => absurd h (Nat.not_lt.2 hgb)) (bv (UInt8.ofNat (x / 256 ^ i % 256)))
      unfold bv at hc1 ho2 hk2
      generalize (setR b at_ ((le k x).take i))[at_ + i]'(by omega) = y at *
      have hltz : (i : Int) < (k : Int) := by omega
      have hsum : (at_ : Int) + (i : Int) = ((at_ + i : Nat) : Int) := by omega
      have hinz : ((at_ + i : Nat) : Int) < (b.length : Int) := by omega
      have hatz : (at_ : Int) < 9223372036854775808 := by omega
      have hi8 : (i : Int) ≤ 8 := by omega
      clear hnx htk hsl ho hK
      obtain ⟨j, hj⟩ : ∃ j, j = at_ + i := ⟨_, rfl⟩
      rw [← hj] at hsum hinz hc1 hfz ho2 hk2
      have hjz : (j : Int) < 9223372036854775808 := by omega
      clear hj hin
      generalize UInt8.ofNat (x / 256 ^ i % 256) = z at *
      generalize x / 256 ^ i = q at *
      go_wp2_with fail
      go_roundw
      case rel => exact ⟨i + 1, by go_num, hlt, ho2.1, hk2⟩
      case measure => simp [intOf]; omega
    · obtain rfl : i = k := Nat.le_antisymm hi hge
      rw [List.take_of_length_le (by rw [le_len]; exact Nat.le_refl _)] at ho
      go_wp2_with fail
      go_ret2
      exact ⟨_, rfl, ho, hK⟩
end
end Go.Proofs.YtbnahidopemkiaaGreat
namespace Go.Proofs.YtbnahidopemkiaaGreat
open Go.RowKit Go.Dm Go.Dm.Oc Go.Dm.Ld
section
variable {A : Nat → Prop} {w : World}
/-- a part of bytes -/
theorem bts_part {a : Option Addr} {b : List UInt8} {c : Nat} (hb : Bts A w (.slice a b.length c) b) {lo n : Nat} (h : lo + n ≤ b.length) :
    Bts A w (.slice (a.map fun x => x.add lo) n (c - lo)) ((b.drop lo).take n) := by
  have hl : ((b.drop lo).take n).length = n := by rw [List.length_take, List.length_drop]; omega
  obtain ⟨h1, a', cap, e, hc, hd, hf, hr⟩ := hb
  cases e
  unfold Bts
  rw [hl]
  refine ⟨by rw [List.length_map, hl]; omega, _, _, rfl, by omega, by omega, fun ha => ?_, fun hn => ?_⟩
  · have := hf (Option.map_eq_none_iff.1 ha)
    omega
  · obtain ⟨g, off, rfl, hA, hg, hr⟩ := hr (by omega)
    refine ⟨g, off + lo, by simp [Addr.add], hA, hg, fun j u hu => ?_⟩
    rw [Nat.add_assoc]
    refine hr _ _ ?_
    rw [List.getElem?_map, List.getElem?_take] at hu
    split at hu
    · rw [List.getElem?_map, ← List.getElem?_drop]; exact hu
    · cases hu
set_option maxRecDepth 100000 in
theorem ocut_any {v : Value} (b : List UInt8) (at_ size : Nat) (hb : Bts A w v b) (hl : b.length ≤ 1099511627776) (ha : at_ < 18446744073709551616) (hs : size < 18446744073709551616) :
    Calls Tryz.prog 83 #[v, .int .u64 (at_ : Int), .int .u64 (size : Int)] w fun e w' => ∃ v', e = .returned (.tuple #[v', .int .i64 ((cutM b at_ size).1 : Int)]) ∧ w'.ownsRow w.heap.size 5 1 v' (cutM b at_ size).2.length ((cutM b at_ size).2.map bv) ∧ Keep No w w' := by
  have hh := ohas_any b.length at_ size (by omega) ha hs w
  unfold cutM
  cases hq : hasB b.length at_ size with
  | false =>
    rw [hq] at hh
    rw [if_neg (by decide)]
    clear hq
    obtain ⟨a, c, rfl, hc, hc2⟩ := hb.shape
    go_enter Tryz.func83, Tryz.ntmps83
    go_wp2_with fail
    refine hh.mono ?_
    rintro e W ⟨rfl, rfl⟩
    go_wp2_with fail
    go_ret2
    exact ⟨_, rfl, World.ownsRow_nil _ _ _ _, Keep.refl _ _⟩
  | true =>
    rw [hq] at hh
    rw [if_pos rfl]
    simp only [hasB, Bool.and_eq_true, decide_eq_true_eq] at hq
    obtain ⟨h1, h2⟩ := hq
    have hadd : (IntKind.u64.wrap ((at_ : Int) + (size : Int))) = ((at_ + size : Nat) : Int) := by
      rw [IntKind.wrap_u64]
      omega
    obtain ⟨a, c, rfl, hc, hc2⟩ := hb.shape
    have hp := Lib.hid (bts_part hb (lo := at_) (n := size) (by omega))
    have hlen : ((b.drop at_).take size).length = size := by rw [List.length_take, List.length_drop]; omega
    generalize (b.drop at_).take size = cs at *
    go_enter Tryz.func83, Tryz.ntmps83
    go_wp2_with fail
    refine hh.mono ?_
    rintro e W ⟨rfl, rfl⟩
    clear hh
    go_wp2_with fail
    · obtain rfl : size = 0 := by omega
      obtain rfl : cs = [] := List.eq_nil_of_length_eq_zero hlen
      refine (oclone_any (A := A) _ [] _ ⟨rfl, a, 0, rfl, Nat.le_refl _, Nat.zero_le _, fun _ => rfl, fun h => absurd h (Nat.lt_irrefl _)⟩ (by simp)).mono ?_
      rintro e W ⟨v', rfl, ho, hk⟩
      go_wp2_with fail
      go_ret2
      exact ⟨_, rfl, ho, hk⟩
    · refine (oclone_any _ cs _ hp.out (by omega)).mono ?_
      rintro e W ⟨v', rfl, ho, hk⟩
      go_wp2_with fail
      go_ret2
      exact ⟨_, rfl, ho, hk⟩
set_option maxRecDepth 100000 in
theorem odown_any (x : Nat) (hx : x < 18446744073709551616) (w : World) :
    Calls Tryz.prog 108 #[.int .u64 (x : Int), .int .u64 256] w fun e w' => e = .returned (.tuple #[.int .u64 ((x / 256 * 256 : Nat) : Int), .int .i64 0]) ∧ w = w' := by
  have e255 := u64_andNot_nat x 255 hx (by decide)
  have em : x &&& (18446744073709551615 - 255) = x / 256 * 256 := by
    have h1 : (18446744073709551615 - 255 : Nat) = (2 ^ 56 - 1) * 2 ^ 8 := by decide
    rw [h1]
    apply Nat.eq_of_testBit_eq
    intro i
    rw [Nat.testBit_and, Nat.testBit_mul_two_pow, Nat.testBit_two_pow_sub_one, show (256 : Nat) = 2 ^ 8 from rfl, Nat.testBit_mul_two_pow, Nat.testBit_div_two_pow]
    by_cases h8 : 8 ≤ i
    · by_cases h56 : i - 8 < 56
      · simp [h8, h56]
      · have : x.testBit i = false := Nat.testBit_lt_two_pow (Nat.lt_of_lt_of_le hx (Nat.pow_le_pow_right (n := 2) (by decide) (show 64 ≤ i by omega)))
        simp [h8, h56, this]
    · simp [h8]
  rw [em] at e255
  have ed : bits .andNot .u64 (x : Int) 255 = ((x / 256 * 256 : Nat) : Int) := e255
  have ea : bits .and .u64 256 255 = 0 := by decide
  generalize x / 256 * 256 = y at *
  clear e255 em
  go_enter Tryz.func108, Tryz.ntmps108
  go_wp2_with fail
  all_goals
    go_ret2
    exact ⟨rfl, rfl⟩
set_option maxRecDepth 100000 in
theorem oup_any (x : Nat) (hx : x ≤ 18446744073709551360) (w : World) :
    Calls Tryz.prog 109 #[.int .u64 (x : Int), .int .u64 256] w fun e w' => e = .returned (.tuple #[.int .u64 (((x + 255) / 256 * 256 : Nat) : Int), .int .i64 0]) ∧ w = w' := by
  have hd := odown_any x (by omega) w
  have hy : x / 256 * 256 ≤ x := by omega
  have hz : (x + 255) / 256 * 256 = if x / 256 * 256 = x then x / 256 * 256 else x / 256 * 256 + 256 := by
    split <;> omega
  rw [hz]
  have hm : x / 256 * 256 ≠ x → x / 256 * 256 + 256 < 18446744073709551616 := by omega
  clear hz
  generalize x / 256 * 256 = y at *
  go_enter Tryz.func109, Tryz.ntmps109
  go_wp2_with fail
  refine hd.mono ?_
  rintro e W ⟨rfl, rfl⟩
  clear hd
  by_cases he : y = x
  · subst he
    go_wp2_with fail
    go_ret2
    exact ⟨rfl, rfl⟩
  · have hi : ¬ ((y : Int) = (x : Int)) := by omega
    have hm := hm he
    go_wp2_with fail
    go_ret2
    exact ⟨rfl, rfl⟩
set_option maxRecDepth 100000 in
theorem nchk_any {v : Value} (b : List UInt8) (hb : Bts A w v b) (hl : b.length ≤ 1099511627776) :
    Calls Tryz.prog 86 #[v] w fun e w' => e = .returned (.int .i64 (chkN b : Nat)) ∧ w = w' := by
  rcases Nat.eq_zero_or_pos b.length with h0 | hpos
  · obtain ⟨a, c, rfl, hc, hc2⟩ := hb.shape
    obtain rfl := List.eq_nil_of_length_eq_zero h0
    go_enter Tryz.func86, Tryz.ntmps86
    go_wp2_with fail
    go_ret
    exact ⟨rfl, rfl⟩
  · obtain ⟨g, off, cap, rfl, _, hg, hc, hc2, hr⟩ := Sl.at hb hpos
    have q0 : w.cell? ⟨g, off, none⟩ = some (.int .u8 ((b[0]'hpos).toNat : Int)) := hr 0 _ (by rw [List.getElem?_map, List.getElem?_eq_getElem hpos]; rfl)
    have q1 : w.cell? ⟨g, off + (b.length - 1), none⟩ = some (.int .u8 ((b[b.length - 1]'(by omega)).toNat : Int)) := hr (b.length - 1) _ (by rw [List.getElem?_map, List.getElem?_eq_getElem (by omega)]; rfl)
    have hres : chkN b = if (b[0]'hpos).toNat = 0 ∧ (b[b.length - 1]'(by omega)).toNat = 0 then 0 else 11 := by
      unfold chkN
      have e1 : b.head? = some (b[0]'hpos) := by rw [List.head?_eq_getElem?, List.getElem?_eq_getElem hpos]
      have e2 : b.getLast? = some (b[b.length - 1]'(by omega)) := by rw [List.getLast?_eq_getElem?, List.getElem?_eq_getElem (by omega)]
      rw [e1, e2]
      simp only [Option.some.injEq, ← UInt8.toNat_inj, UInt8.toNat_zero]
    have hx := (b[0]'hpos).toNat_lt
    have hy := (b[b.length - 1]'(by omega)).toNat_lt
    rw [hres]
    generalize (b[0]'hpos).toNat = x at *
    generalize (b[b.length - 1]'(by omega)).toNat = y at *
    clear hres hr hb
    generalize b.length = n at *
    have hn : ((n : Int) == 0) = false := by rw [beq_eq_false_iff_ne]; omega
    have hsub : (n : Int) - 1 = ((n - 1 : Nat) : Int) := by omega
    go_enter Tryz.func86, Tryz.ntmps86
    go_wp2_with fail
    all_goals
      go_ret
      refine ⟨?_, rfl⟩
      first
        | rfl
        | (exfalso
           simp_all
           done)
        | (exfalso
           simp only [bne_iff_ne, bne_eq_false_iff_eq, ne_eq] at *
           omega)
/-- where the first 0 stands -/
def zeroAt (b : List UInt8) : Int := if b.contains 0 then ((b.takeWhile (· != 0)).length : Int) else -1
theorem takeWhile_at {b : List UInt8} {i : Nat} (hi : i < b.length) (h0 : b[i] = 0) (hno : ∀ j, (hj : j < i) → b[j]'(by omega) ≠ 0) : b.contains 0 = true ∧ b.takeWhile (· != 0) = b.take i := by
  induction b generalizing i with
  | nil => simp at hi
  | cons c r ih =>
    cases i with
    | zero =>
      simp only [List.getElem_cons_zero] at h0
      subst h0
      simp
    | succ i =>
      have hc : c ≠ 0 := hno 0 (by omega)
      obtain ⟨h1, h2⟩ := ih (i := i) (by simpa using hi) (by simpa using h0) (fun j hj => by have := hno (j + 1) (by omega); simpa using this)
      constructor
      · simp only [List.contains_cons, h1, Bool.or_true]
      · rw [List.takeWhile_cons_of_pos (by simpa using hc), h2, List.take_succ_cons]
theorem zeroAt_at {b : List UInt8} {i : Nat} (hi : i < b.length) (h0 : b[i] = 0) (hno : ∀ j, (hj : j < i) → b[j]'(by omega) ≠ 0) : zeroAt b = i := by
  obtain ⟨h1, h2⟩ := takeWhile_at hi h0 hno
  unfold zeroAt
  rw [if_pos h1, h2, List.length_take]
  omega
theorem zeroAt_none {b : List UInt8} (hno : ∀ j, (hj : j < b.length) → b[j] ≠ 0) : zeroAt b = -1 := by
  unfold zeroAt
  rw [if_neg]
  intro h
  rw [List.contains_iff_mem] at h
  obtain ⟨j, hj, e⟩ := List.getElem_of_mem h
  exact hno j hj e
set_option maxRecDepth 100000 in
theorem idxB_any {v : Value} (b : List UInt8) (hb : Bts A w v b) (hl : b.length ≤ 1099511627776) :
    Calls Tryz.prog 120 #[v, .int .u8 0] w fun e w' => e = .returned (.int .i64 (zeroAt b)) ∧ w = w' := by
  have HB := Lib.hid hb
  obtain ⟨a, c, rfl, hc, hc2⟩ := hb.shape
  clear hb
  go_enter Tryz.func120, Tryz.ntmps120
  go_wp2_with fail
  go_loopw [5, 8] (fun _ iv wr => ∃ i : Nat, iv = .int .i64 i ∧ i ≤ b.length ∧ (∀ j, j < i → ∀ hj : j < b.length, b[j] ≠ 0) ∧ w = wr) (fun _ iv _ => b.length - (intOf iv).toNat)
  case atStart => exact ⟨0, rfl, Nat.zero_le _, (fun j hj => absurd hj (Nat.not_lt_zero _)), rfl⟩
  case round =>
    obtain ⟨i, rfl, hi, hno, rfl⟩ := hrel
    rcases Nat.lt_or_ge i b.length with hlt | hge
    · obtain ⟨g, off, cap, ev, _, _, _, _, hr⟩ := Sl.at HB.out (by omega)
      cases ev
      have q0 : w.cell? ⟨g, off + i, none⟩ = some (.int .u8 ((b[i]).toNat : Int)) := hr i _ (by rw [List.getElem?_map, List.getElem?_eq_getElem hlt]; rfl)
      have hx := (b[i]).toNat_lt
      have hz : (b[i]).toNat = 0 ↔ b[i] = 0 := by rw [← UInt8.toNat_inj]; rfl
      have HNo := Lib.hid hno
      have HR := Lib.hid hr
      clear hr hno
      by_cases h0 : b[i] = 0
      · have e0 := hz.2 h0
        have hres := zeroAt_at hlt h0 fun j hj => HNo.out j hj (by omega)
        have HRes := Lib.hid hres
        clear hres
        rw [e0] at q0
        clear hz hx e0
        go_wp2_with fail
        go_ret
        rw [HRes.out]
        exact ⟨rfl, rfl⟩
      · have e0 : (b[i]).toNat ≠ 0 := fun h => h0 (hz.1 h)
        clear hz
        generalize hX : (b[i]).toNat = x at *
        clear hX
        go_wp2_with fail
        go_roundw
        case rel =>
          refine ⟨i + 1, rfl, hlt, fun j hj hjl => ?_, trivial⟩
          rcases Nat.lt_succ_iff_lt_or_eq.1 hj with h | rfl
          · exact HNo.out j h hjl
          · exact h0
        case measure => simp [intOf]; omega
    · obtain rfl : i = b.length := by omega
      have hres := zeroAt_none fun j hj => hno j hj hj
      have HRes := Lib.hid hres
      clear hres
      go_wp2_with fail
      go_ret
      rw [HRes.out]
      exact ⟨rfl, rfl⟩
end
end Go.Proofs.YtbnahidopemkiaaGreat
namespace Go.Proofs.YtbnahidopemkiaaGreat
open Go.RowKit Go.Dm Go.Dm.Oc Go.Dm.Ld
section
variable {A : Nat → Prop} {w : World}
theorem under_u8 : Tryz.prog.underlying 5 = some (.int .u8) := Tryz.underlying5
/-- string(b) -/
theorem conv_str {v : Value} {l : List UInt8} (h : Bts A w v l) : (convert 24 9 v).run Tryz.prog w = .ok (.string ⟨l.toArray⟩) w := by
  obtain ⟨_, a, cap, rfl, hn, _, h0, hr⟩ := h
  cases a with
  | none =>
    obtain rfl := h0 rfl
    obtain rfl : l = [] := List.eq_nil_of_length_eq_zero (by omega)
    exact run_convert_bytes_nil (P := Tryz.prog) (w := w) 24 5 Tryz.underlying24 under_u8 0 0 9 Tryz.underlying9
  | some a =>
    refine run_convert_bytes_back (P := Tryz.prog) w 24 9 5 a cap l Tryz.underlying24 under_u8 Tryz.underlying9 fun j hj => ?_
    obtain ⟨g, off, e2, _, _, hc⟩ := hr (by omega)
    cases e2
    rw [Addr.add_lit]
    exact hc j (bv l[j]) (by simp [hj])
theorem takeWhile_zero (b : List UInt8) : b.take (zeroAt b).toNat = if b.contains 0 then b.takeWhile (· != 0) else [] := by
  unfold zeroAt
  split
  · rw [Int.toNat_natCast]
    exact (List.prefix_iff_eq_take.1 (List.takeWhile_prefix _)).symm
  · rfl
theorem zeroAt_le (b : List UInt8) : -1 ≤ zeroAt b ∧ zeroAt b ≤ b.length := by
  unfold zeroAt
  split
  · have := (List.takeWhile_prefix (l := b) (· != 0)).length_le
    omega
  · omega
set_option maxRecDepth 100000 in
theorem nat_any {v : Value} (b : List UInt8) (at_ : Nat) (hb : Bts A w v b) (hl : b.length ≤ 1099511627776) (ha : at_ < 18446744073709551616) :
    Calls Tryz.prog 87 #[v, .int .u64 (at_ : Int)] w fun e w' => e = .returned (.tuple #[.string ⟨(atM b at_).2.toArray⟩, .int .i64 ((atM b at_).1 : Int)]) ∧ w = w' := by
  unfold atM
  rcases Nat.lt_or_ge at_ b.length with hlt | hge
  · rw [if_neg (by omega)]
    obtain ⟨a, c, rfl, hc, hc2⟩ := hb.shape
    have hp := bts_part hb (lo := at_) (n := b.length - at_) (by omega)
    rw [List.take_of_length_le (by rw [List.length_drop]; exact Nat.le_refl _)] at hp
    have hdl : (b.drop at_).length = b.length - at_ := List.length_drop
    rw [← hdl] at hp
    have hsub : (b.length : Int) - at_ = ((b.drop at_).length : Int) := by omega
    have hdpos : 0 < (b.drop at_).length := by omega
    have hneq : ¬ c = at_ := by omega
    have hall := takeWhile_zero (b.drop at_)
    have hzl := zeroAt_le (b.drop at_)
    have hidx := idxB_any (b.drop at_) hp (by omega)
    have hp2 := fun n hn => bts_part (lo := 0) (n := n) hp (by omega)
    have hzn : (b.drop at_).contains 0 = true ↔ 0 ≤ zeroAt (b.drop at_) := by
      unfold zeroAt
      split
      · rename_i h
        simp only [h, true_iff]
        omega
      · rename_i h
        simp only [h]
        decide
    generalize b.drop at_ = d at *
    have HP2 := Lib.hid hp2
    clear hp2 hp hb
    generalize hB : b.length = n at *
    clear hB
    rcases Int.lt_or_le (zeroAt d) 0 with hneg | hpos
    · have hc0 : d.contains 0 = false := by
        cases hcc : d.contains 0 with
        | false => rfl
        | true => have := hzn.1 hcc; omega
      rw [hc0, if_neg (by decide)]
      clear hc0 hzn hall hzl
      generalize zeroAt d = z at *
      go_enter Tryz.func87, Tryz.ntmps87
      go_wp2_with fail
      rw [← hdl]
      refine hidx.mono ?_
      rintro e W ⟨rfl, rfl⟩
      clear hidx
      go_wp2_with fail
      go_ret2
      exact ⟨rfl, rfl⟩
    · have hc0 := hzn.2 hpos
      rw [hc0, if_pos rfl] at hall
      rw [hc0, if_pos rfl]
      have hpart := HP2.out (zeroAt d).toNat (by omega)
      rw [List.drop_zero, hall] at hpart
      have hcs := conv_str hpart
      have e0 : (fun x : Addr => x.add 0) = fun x => x := by funext x; simp [Addr.add]
      rw [e0, Option.map_map, Nat.sub_zero] at hcs
      clear hc0 hzn hall hpart
      have hzz : zeroAt d = ((zeroAt d).toNat : Int) := by omega
      generalize zeroAt d = zz at *
      generalize zz.toNat = z at *
      subst hzz
      generalize List.takeWhile (fun x => x != 0) d = s at *
      go_enter Tryz.func87, Tryz.ntmps87
      go_wp2_with fail
      rw [← hdl]
      refine hidx.mono ?_
      rintro e W ⟨rfl, rfl⟩
      clear hidx
      go_wp2_with fail
      go_ret2
      exact ⟨rfl, rfl⟩
  · rw [if_pos hge]
    obtain ⟨a, c, rfl, hc, hc2⟩ := hb.shape
    clear hb
    generalize b.length = n at *
    go_enter Tryz.func87, Tryz.ntmps87
    go_wp2_with fail
    go_ret2
    exact ⟨rfl, rfl⟩
end
end Go.Proofs.YtbnahidopemkiaaGreat
namespace Go.Proofs.YtbnahidopemkiaaGreat
open Go.RowKit Go.Dm Go.Dm.Oc Go.Dm.Ld
section
variable {A B : Nat → Prop} {w : World}
/-- bytes in a row of one's own -/
theorem own_no {base size n : Nat} {e : TypeId} {v : Value} {xs : List Value} {w' : World} (ho : w.ownsRow base e size v n xs) (hk : Keep No w w') : w'.ownsRow base e size v n xs := by
  refine ⟨ho.1, ho.2.imp id ?_⟩
  rintro ⟨g, cap, cur, rfl, a, b, r⟩
  exact ⟨g, cap, cur, rfl, a, (hk.block g (World.ownsRow.lt ho g rfl).2 fun h => h).trans b, r⟩
theorem bts_own {base : Nat} {v : Value} {l : List UInt8} (ho : w.ownsRow base 5 1 v l.length (l.map bv)) : Bts (fun k => base ≤ k ∧ some k = v.ownBlock) w v l := Sl.of_own ho
/-- append(v, m...) -/
theorem rg_bytes {base : Nat} {ty : TypeId} {v vs : Value} {l m : List UInt8} (ho : w.ownsRow base 5 1 v l.length (l.map bv)) (hs : Bts A w vs m) (hlen : l.length + m.length ≤ 1099511627776) (hbase : base ≤ w.heap.size) {K : Value → World → Prop}
    (h : ∀ v' w', w'.ownsRow base 5 1 v' (l ++ m).length ((l ++ m).map bv) → Keep (fun j => some j = v.ownBlock) w w' → (v'.ownBlock = v.ownBlock ∨ v'.ownBlock = some w.heap.size) → K v' w') : AppendGoal Tryz.prog 24 24 ty v vs w K := by
  refine rg_append base 5 (.int .u8 0) 1 1 Tryz.underlying24 o_info rfl (by decide) ho hs (bv_one _) (by unfold maxLen; omega) (by omega) hbase ?_
  intro v' w' ho' hk' _ hn
  refine h v' w' ?_ hk' hn
  rw [List.length_append, List.map_append]
  exact ho'
set_option maxRecDepth 100000 in
theorem eqB_any {v u : Value} (b c : List UInt8) (hb : Bts A w v b) (hc : Bts B w u c) (hl : b.length ≤ 1099511627776) (hl2 : c.length ≤ 1099511627776) :
    Calls Tryz.prog 113 #[v, u] w fun e w' => e = .returned (.bool (decide (b = c))) ∧ Keep No w w' := by
  have HB := Lib.hid hb
  have HC := Lib.hid hc
  obtain ⟨a, k, rfl, hk, hk2⟩ := hb.shape
  obtain ⟨a2, k2, rfl, hk3, hk4⟩ := hc.shape
  clear hb hc
  by_cases hle : b.length = c.length
  · go_enter Tryz.func113, Tryz.ntmps113
    go_wp2_with fail
    go_loopw [5, 13] (fun _ iv wr => ∃ i : Nat, iv = .int .i64 i ∧ i ≤ b.length ∧ b.take i = c.take i ∧ Keep No w wr) (fun _ iv _ => b.length - (intOf iv).toNat)
    case atStart => exact ⟨0, rfl, Nat.zero_le _, by simp, Keep.refl _ _⟩
    case round =>
      obtain ⟨i, rfl, hi, hno, hK⟩ := hrel
      rcases Nat.lt_or_ge i b.length with hlt | hge
      · obtain ⟨g, off, cap, ev, _, _, _, _, hr⟩ := Sl.at (Sl.keep HB.out hK fun _ _ _ h => h) (by omega)
        cases ev
        obtain ⟨g2, off2, cap2, ev2, _, _, _, _, hr2⟩ := Sl.at (Sl.keep HC.out hK fun _ _ _ h => h) (by omega)
        cases ev2
        have q0 : wr.cell? ⟨g, off + i, none⟩ = some (.int .u8 ((b[i]).toNat : Int)) := hr i _ (by rw [List.getElem?_map, List.getElem?_eq_getElem hlt]; rfl)
        have q1 : wr.cell? ⟨g2, off2 + i, none⟩ = some (.int .u8 ((c[i]'(by omega)).toNat : Int)) := hr2 i _ (by rw [List.getElem?_map, List.getElem?_eq_getElem (by omega)]; rfl)
        have hx := (b[i]).toNat_lt
        have hy := (c[i]'(by omega)).toNat_lt
        have hz : (b[i]).toNat = (c[i]'(by omega)).toNat ↔ b[i] = c[i]'(by omega) := UInt8.toNat_inj
        clear hr hr2
        have hlc : i < c.length := by omega
        by_cases h0 : b[i] = c[i]'(by omega)
        · have e0 := hz.2 h0
          have hn2 : b.take (i + 1) = c.take (i + 1) := by
            rw [List.take_succ_eq_append_getElem hlt, List.take_succ_eq_append_getElem hlc, hno, h0]
          rw [← e0] at q1
          clear hz e0 hy h0 hno
          have HN := Lib.hid hn2
          clear hn2
          generalize (b[i]).toNat = x at *
          go_wp2_with fail
          go_quiet (fail)
          go_wp2_with fail
          go_roundw
          case rel => exact ⟨i + 1, rfl, hlt, HN.out, hK.drewN _⟩
          case measure => simp [intOf]; omega
        · have e0 : ¬ (b[i]).toNat = (c[i]'(by omega)).toNat := fun h => h0 (hz.1 h)
          have hres : decide (b = c) = false := by
            rw [decide_eq_false_iff_not]
            rintro rfl
            exact h0 rfl
          have HR := Lib.hid hres
          clear hz h0 hno hres
          generalize (b[i]).toNat = x at *
          generalize (c[i]'(by omega)).toNat = y at *
          go_wp2_with fail
          go_quiet (fail)
          go_wp2_with fail
          go_ret
          rw [HR.out]
          exact ⟨rfl, hK.drewN _⟩
      · obtain rfl : i = b.length := by omega
        have hres : decide (b = c) = true := by
          rw [decide_eq_true_iff]
          rw [List.take_length, hle, List.take_length] at hno
          exact hno
        have HR := Lib.hid hres
        clear hno hres
        go_wp2_with fail
        go_ret
        rw [HR.out]
        exact ⟨rfl, hK⟩
  · have hdec : decide (b = c) = false := by
      rw [decide_eq_false_iff_not]
      rintro rfl
      exact hle rfl
    rw [hdec]
    clear hdec HB HC
    generalize b.length = m at *
    generalize c.length = n at *
    go_enter Tryz.func113, Tryz.ntmps113
    go_wp2_with fail
    go_ret
    exact ⟨rfl, Keep.refl _ _⟩
end
end Go.Proofs.YtbnahidopemkiaaGreat
namespace Go.Dm
open Go Go.RowKit
def StGoal (P : Program) (ty : TypeId) (g off : Nat) (v : Value) (w : World) (K : World → Prop) : Prop := RunGoal P (Instr.storeAt ty (.pointer (some ⟨g, off, none⟩)) v) w fun _ w' => K w'
/-- cells, with some turned from a place on -/
def putAt (old : Array Value) (off : Nat) (cs : List Value) : Array Value := (old.toList.take off ++ cs ++ old.toList.drop (off + cs.length)).toArray
section
variable {P : Program} {w : World}
theorem wl_st {ops : Array Oper} {rest : List Oper} {o : Oper} {a : Act} {Q : Exit → Act → World → Prop} (hgd : o.guard = none) (x y : Operand) (ty : TypeId) (ho : o.op = Op.store ty x y) (g off : Nat) (v : Value)
    (h1 : a.eval x = .pointer (some ⟨g, off, none⟩)) (h2 : a.eval y = v) (h : StGoal P ty g off v w fun w' => wpList P ops Q rest (a.put o.dst undef) w') : wpList P ops Q (o :: rest) a w := by
  obtain ⟨u, w', hr, hk⟩ := h
  refine wpList_plain hgd fun K hK => ?_
  unfold Oper.wp execOp
  simp only [ho, h1, h2, hr, Sem.run_bind, Sem.run_pure, Result.andThen_ok]
  exact hK _ _ hk
theorem wo_st {o : Oper} {a : Act} {Q : Exit → Act → World → Prop} {K : Act → World → Prop} (x y : Operand) (ty : TypeId) (ho : o.op = Op.store ty x y) (g off : Nat) (v : Value)
    (h1 : a.eval x = .pointer (some ⟨g, off, none⟩)) (h2 : a.eval y = v) (h : StGoal P ty g off v w fun w' => K (a.put o.dst undef) w') : o.wp P a w K Q := by
  obtain ⟨u, w', hr, hk⟩ := h
  unfold Oper.wp execOp
  simp only [ho, h1, h2, hr, Sem.run_bind, Sem.run_pure, Result.andThen_ok]
  exact hk
theorem rg_stN {g off : Nat} {old cells : Array Value} {t ty : TypeId} (hB : Blk w g old t) (hi : (P.info? ty).map (·.size) = some cells.size) (hfit : off + cells.size ≤ old.size) (h1 : cells.all (·.oneCell') = true) {K : World → Prop}
    (h : ∀ w', Blk w' g (putAt old off cells.toList) t → Keep (fun j => j = g) w w' → w'.heap.size = w.heap.size → K w') : StGoal P ty g off (.agg cells) w K := by
  have hst := run_storeCells_at P g off t cells.toList 0 old w hB (by simpa using hfit) (fun v hv => (Array.all_eq_true_iff_forall_mem.1 h1) v (by simpa using hv))
  simp only [Nat.add_zero] at hst
  refine .mk (v := ()) (w' := w.setRow g (putAt old off cells.toList)) ?_ (h _ (setRow_heap w g old _ t _ hB) ⟨rfl, rfl, rfl, by simp, fun k _ hk => setRow_other w g k _ hk⟩ (by simp))
  cases hq : P.info? ty with
  | none => simp [hq] at hi
  | some i =>
    have hs : cells.size = i.size := by simp [hq] at hi; omega
    simp only [Instr.storeAt, Instr.sureAddr, Sem.run_bind, Sem.run_pure, Result.andThen_ok]
    simp [storeVar, sizeOf, typeInfo, hq, Value.cells, hs, hst, putAt]
theorem rg_st1 {g off : Nat} {old : Array Value} {v : Value} {t ty : TypeId} (hB : Blk w g old t) (hi : (P.info? ty).map (·.size) = some 1) (hfit : off < old.size) (h1 : v.oneCell' = true) (hc : v.cells = #[v]) {K : World → Prop}
    (h : ∀ w', Blk w' g (putAt old off [v]) t → Keep (fun j => j = g) w w' → w'.heap.size = w.heap.size → K w') : StGoal P ty g off v w K := by
  have hst := run_storeCells_at P g off t [v] 0 old w hB hfit (fun u hu => by rw [List.mem_singleton.1 hu]; exact h1)
  simp only [Nat.add_zero] at hst
  refine .mk (v := ()) (w' := w.setRow g (putAt old off [v])) ?_ (h _ (setRow_heap w g old _ t _ hB) ⟨rfl, rfl, rfl, by simp, fun k _ hk => setRow_other w g k _ hk⟩ (by simp))
  cases hq : P.info? ty with
  | none => simp [hq] at hi
  | some i =>
    have hs : 1 = i.size := by simp [hq] at hi; omega
    simp only [Instr.storeAt, Instr.sureAddr, Sem.run_bind, Sem.run_pure, Result.andThen_ok]
    simp [storeVar, sizeOf, typeInfo, hq, hc, ← hs, hst, putAt]
end
end Go.Dm
namespace Go.Dm
open Go Go.RowKit
section
/-- the walk stops at a load -/
def LdGoal (P : Program) (ty : TypeId) (p : Addr) (w : World) (K : Value → World → Prop) : Prop := RunGoal P (Instr.loadAt ty (.pointer (some p))) w K
theorem wl_ld {P : Program} {w : World} {ops : Array Oper} {rest : List Oper} {o : Oper} {a : Act} {Q : Exit → Act → World → Prop} (hgd : o.guard = none) (x : Operand) (ty : TypeId) (ho : o.op = Op.load ty x) (p : Addr)
    (h1 : a.eval x = .pointer (some p)) (h : LdGoal P ty p w fun v w' => wpList P ops Q rest (a.put o.dst v) w') : wpList P ops Q (o :: rest) a w := by
  obtain ⟨v, w', hr, hk⟩ := h
  refine wpList_plain hgd fun K hK => ?_
  unfold Oper.wp execOp
  simp only [ho, h1, hr, Sem.run_bind, Sem.run_pure, Result.andThen_ok]
  exact hK _ _ hk
theorem rg_ld {P : Program} {w : World} {g : Nat} {ty t : TypeId} {cs : Array Value} {d : TypeDesc} (hB : Blk w g cs t) (hu : P.underlying ty = some d)
    (hd : (match d with | .struct _ | .array _ _ => true | _ => false) = true) (hi : (P.info? ty).map (·.size) = some cs.size) {K : Value → World → Prop} (h : K (.agg cs) w) : LdGoal P ty ⟨g, 0, none⟩ w K := by
  refine .mk (v := .agg cs) (w' := w) ?_ h
  simp only [Instr.loadAt, Instr.sureAddr, Sem.run_bind, Sem.run_pure, Result.andThen_ok, run_loadVar_row w g t ty cs _ d hB hu hd hi]
variable {P : Program}
/-- a part of a row is loaded -/
theorem run_loadVar_sub (w : World) (g off : Nat) (ty : TypeId) (l : List Value) (d : TypeDesc) (hc : ∀ j u, l[j]? = some u → w.cell? ⟨g, off + j, none⟩ = some u)
    (hu : P.underlying ty = some d) (hd : (match d with | .struct _ | .array _ _ => true | _ => false) = true) (hi : (P.info? ty).map (·.size) = some l.length) :
    (loadVar ty ⟨g, off, none⟩).run P w = .ok (.agg l.toArray) w := by
  have hl : (loadCells ⟨g, off, none⟩ l.length).run P w = .ok l.toArray w :=
    run_loadCells_list (P := P) w ⟨g, off, none⟩ l (fun j v hv => by
      have hadd : (⟨g, off, none⟩ : Addr).add j = ⟨g, off + j, none⟩ := by unfold Addr.add; split <;> simp_all
      rw [hadd]
      exact hc j v hv)
  cases hq : P.info? ty with
  | none => simp [hq] at hi
  | some i =>
    have hs : i.size = l.length := by simpa [hq] using hi
    have hagg : (isAgg ty).run P w = .ok true w := by
      unfold isAgg
      rw [Sem.run_bind, run_underlying hu w]
      cases d <;> simp_all
    simp [loadVar, Sem.run_bind, hagg, sizeOf, typeInfo, hq, hs, hl]
theorem rg_lds {w : World} {g off : Nat} {ty : TypeId} {l : List Value} {d : TypeDesc} (hc : ∀ j u, l[j]? = some u → w.cell? ⟨g, off + j, none⟩ = some u)
    (hu : P.underlying ty = some d) (hd : (match d with | .struct _ | .array _ _ => true | _ => false) = true) (hi : (P.info? ty).map (·.size) = some l.length) {K : Value → World → Prop} (h : K (.agg l.toArray) w) : LdGoal P ty ⟨g, off, none⟩ w K := by
  refine .mk (v := .agg l.toArray) (w' := w) ?_ h
  simp only [Instr.loadAt, Instr.sureAddr, Sem.run_bind, Sem.run_pure, Result.andThen_ok, run_loadVar_sub w g off ty l d hc hu hd hi]
end
section
variable {P : Program} {w : World} {ops : Array Oper} {rest : List Oper} {o : Oper} {a : Act} {Q : Exit → Act → World → Prop}
def BuildGoal (P : Program) (t : TypeId) (parts : Array (Nat × Value)) (w : World) (K : Value → World → Prop) : Prop := RunGoal P (Instr.build t parts) w K
theorem wl_build (hgd : o.guard = none) (t : TypeId) (ps : Array (Nat × Operand)) (ho : o.op = Op.build t ps) (h : BuildGoal P t (ps.map fun (i, x) => (i, a.eval x)) w fun v w' => wpList P ops Q rest (a.put o.dst v) w') : wpList P ops Q (o :: rest) a w := by
  obtain ⟨v, w', hr, hk⟩ := h
  refine wpList_plain hgd fun K hK => ?_
  unfold Oper.wp execOp
  simp only [ho, Sem.run_bind, hr, Result.andThen_ok, Sem.run_pure]
  exact hK _ _ hk
theorem rg_build {t : TypeId} {parts : Array (Nat × Value)} {cells : Array Value} {w : World} {K : Value → World → Prop} (hb : P.built t parts.toList = some cells) (h : K (.agg cells) w) : BuildGoal P t parts w K :=
  .mk (run_build w t parts cells hb) h
end
end Go.Dm
