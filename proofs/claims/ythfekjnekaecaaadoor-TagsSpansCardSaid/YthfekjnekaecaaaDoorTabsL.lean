/- Marks that came in (chapter 18), as the walk holds them. Flat data lie in memory in one way alone: two places that read as the same datum hold the same cells. What start-up lays in isa.ops and cpu.sizes, as the walks ask it. No condition. -/
import Derived.Test.YthfekjnekaecaaaDoorArgNum
import Derived.Test.YthfekjnekaecaaaDoorRd
import Derived.Test.YthfekjnekaecaaaDoorRows
import Derived.Test.YthfekjnekaecaaaDoorCpu2
import Derived.LaidMore
import Derived.ProofKit
set_option linter.unusedVariables false
set_option linter.unusedSimpArgs false
namespace Go.Proofs.YthfekjnekaecaaaDoor
open Go.Dm Go.Dm.Cp Go.ChangeShapes Go.WideShapes Go.ChangeAt Go.RowKit
abbrev MkSh : Sh := .pair (.int .u64) (.pair (.int .i64) .unit)
theorem mk_one {A : Nat → Prop} {W : World} {c : List Value} {y : MkSh.Ty} (h : Rd A W MkSh c y) : ∃ x : Nat × Int, c = encMk x ∧ x.1 < 18446744073709551616 := by
  obtain ⟨y1, y2, y3⟩ := y
  obtain ⟨c1, d1, rfl, h1, c2, d2, rfl, h2, h3⟩ := h
  obtain ⟨rfl, w1⟩ := h1
  obtain ⟨rfl, w2⟩ := h2
  have h3 : d2 = [] := h3
  subst h3
  obtain ⟨n1, e1, b1⟩ := u64_nat w1
  refine ⟨(n1, y2), ?_, b1⟩
  have e1 : y1 = (n1 : Int) := e1
  subst e1
  rfl
theorem enc_listM {α β : Type} (enc : α → List Value) (Q : α → Prop) (ys : List β) : ∀ css : List (List Value), css.length = ys.length → (∀ (i : Nat) (c : List Value) (y : β), css[i]? = some c → ys[i]? = some y → ∃ x, c = enc x ∧ Q x) → ∃ L : List α, css = L.map enc ∧ L.length = ys.length ∧ ∀ x ∈ L, Q x := by
  induction ys with
  | nil => intro css h _; exact ⟨[], List.eq_nil_of_length_eq_zero h, rfl, fun x hx => by cases hx⟩
  | cons a r ih =>
    intro css h hc
    cases css with
    | nil => cases h
    | cons c t =>
      obtain ⟨x, e, q⟩ := hc 0 c a rfl rfl
      obtain ⟨L, e2, l2, q2⟩ := ih t (by simpa using h) fun i c' y h1 h2 => hc (i + 1) c' y (by simpa using h1) (by simpa using h2)
      refine ⟨x :: L, by rw [e, e2]; rfl, by simp [l2], fun z hz => ?_⟩
      rcases List.mem_cons.1 hz with rfl | hz
      · exact q
      · exact q2 z hz
theorem marks_list {A : Nat → Prop} {W : World} {v : Value} {y : List MkSh.Ty} (h : Rd A W (.slice MkSh) [v] y) : ∃ L : List (Nat × Int), (∀ x ∈ L, x.1 < 18446744073709551616) ∧ Fl A W 2 encMk v L := by
  obtain ⟨v', css, e, hs, h1, h3⟩ := h
  cases e
  obtain ⟨L, e2, l2, q⟩ := enc_listM encMk _ y css h1 fun i c z hc hz => mk_one (h3 i c z hc hz)
  refine ⟨L, q, ?_⟩
  show Sl A W 2 v L.length (L.flatMap encMk)
  rw [l2, List.flatMap_def, ← e2]; exact hs
end Go.Proofs.YthfekjnekaecaaaDoor
namespace Go.Dm
open Go Go.RowKit Go.ChangeShapes Go.WideShapes
def flatS : Sh → Bool
  | .int _ => true | .str => true | .bool => true | .unit => true | .u8 => false
  | .pair a b => flatS a && flatS b
  | .slice _ => false
  | .arr _ e => flatS e
section
variable {H : Type} {enc enc' : TypeId × Value → H} {P : Program} {w w' : World} {base base' : Nat} {sp sp' : Nat → Bool} {held held' : Bool}
theorem fst_some {xs ys : List (DataW H × List MemPlace)} (h : xs.map (·.1) = ys.map (·.1)) (i : Nat) (hi : i < xs.length) : ∃ d p p', xs[i]? = some (d, p) ∧ ys[i]? = some (d, p') := by
  have hl : xs.length = ys.length := by simpa using congrArg List.length h
  have h1 := congrArg (fun l => l[i]?) h
  simp only [List.getElem?_map, List.getElem?_eq_getElem hi, List.getElem?_eq_getElem (show i < ys.length by omega), Option.map_some, Option.some.injEq] at h1
  refine ⟨xs[i].1, xs[i].2, ys[i].2, by rw [List.getElem?_eq_getElem hi], ?_⟩
  rw [List.getElem?_eq_getElem (show i < ys.length by omega), h1]
theorem chunk_eq {cs cs' : List Value} {n k : Nat} (h1 : cs.length = n * k) (h2 : cs'.length = n * k) (h : ∀ i, i < n → (cs.drop (i * k)).take k = (cs'.drop (i * k)).take k) : cs = cs' := by
  have e1 := chunks cs k n (by omega)
  have e2 := chunks cs' k n (by omega)
  rw [← h1, List.take_length] at e1
  rw [← h2, List.take_length] at e2
  rw [← e1, ← e2]
  congr 1
  apply List.map_congr_left
  intro i hi
  exact h i (by simpa using hi)
theorem same_x : ∀ (s : Sh), flatS s = true →
    (∀ (t : TypeId) (n n' : Nat) (cs cs' : List Value) (d : DataW H) (p p' : List MemPlace), fitX P s (.inl t) = true → DataW.trod enc P w base sp held n t cs = some (d, p) → DataW.trod enc' P w' base' sp' held' n' t cs' = some (d, p') → cs = cs') ∧
    (∀ (fs : List Field) (off n n' : Nat) (cs cs' : List Value), fitX P s (.inr (fs, off)) = true → cs.length = off + s.n → cs'.length = off + s.n → (∀ f ∈ fs, ∃ d p p', DataW.trod enc P w base sp held n f.type ((cs.drop f.offset).take (P.cellsOf f.type)) = some (d, p) ∧ DataW.trod enc' P w' base' sp' held' n' f.type ((cs'.drop f.offset).take (P.cellsOf f.type)) = some (d, p')) → cs.drop off = cs'.drop off)
  | .int k => fun _ => ⟨fun t n n' cs cs' d p p' hf h h' => by
      unfold fitX at hf
      split at hf
      · rename_i k' hu
        obtain ⟨x, rfl, e, _⟩ := DataW.trod_int hu h
        obtain ⟨x', rfl, e', _⟩ := DataW.trod_int hu h'
        have := (Prod.mk.inj e).1.symm.trans (Prod.mk.inj e').1
        simp only [DataW.lit.injEq, Lit.int.injEq, true_and] at this
        rw [this]
      · exact absurd hf Bool.false_ne_true, fun fs off n n' cs cs' hf => by simp [fitX] at hf⟩
  | .str => fun _ => ⟨fun t n n' cs cs' d p p' hf h h' => by
      unfold fitX at hf
      split at hf
      · rename_i hu
        obtain ⟨x, rfl, e, _⟩ := DataW.trod_string hu h
        obtain ⟨x', rfl, e', _⟩ := DataW.trod_string hu h'
        have := (Prod.mk.inj e).1.symm.trans (Prod.mk.inj e').1
        simp only [DataW.lit.injEq, Lit.string.injEq] at this
        have h2 : x = x' := by
          obtain ⟨⟨a⟩⟩ := x
          obtain ⟨⟨b⟩⟩ := x'
          have this : a = b := this
          rw [this]
        rw [h2]
      · exact absurd hf Bool.false_ne_true, fun fs off n n' cs cs' hf => by simp [fitX] at hf⟩
  | .bool => fun _ => ⟨fun t n n' cs cs' d p p' hf h h' => by
      unfold fitX at hf
      split at hf
      · rename_i hu
        obtain ⟨x, rfl, e⟩ := DataW.trod_bool hu h
        obtain ⟨x', rfl, e'⟩ := DataW.trod_bool hu h'
        have := (Prod.mk.inj e).1.symm.trans (Prod.mk.inj e').1
        simp only [DataW.lit.injEq, Lit.bool.injEq] at this
        rw [this]
      · exact absurd hf Bool.false_ne_true, fun fs off n n' cs cs' hf => by simp [fitX] at hf⟩
  | .u8 => fun h => absurd h Bool.false_ne_true
  | .slice _ => fun h => absurd h Bool.false_ne_true
  | .unit => fun _ => ⟨fun t n n' cs cs' d p p' hf => by simp [fitX] at hf, fun fs off n n' cs cs' hf hl hl' _ => by
      rw [List.drop_eq_nil_iff.2, List.drop_eq_nil_iff.2] <;> simp only [Sh.n] at hl hl' <;> omega⟩
  | .pair a b => fun hfl => by
    unfold flatS at hfl
    rw [Bool.and_eq_true] at hfl
    refine ⟨fun t m m' cs cs' d p p' hf h h' => ?_, fun fs off n n' cs cs' hf hl hl' hg => ?_⟩
    · unfold fitX at hf
      split at hf
      · rename_i f r hu
        simp only [Bool.and_eq_true, beq_iff_eq] at hf
        obtain ⟨⟨⟨⟨h0, h1⟩, h2⟩, h3⟩, h4⟩ := hf
        obtain ⟨xs, n, _, e, hlen, hxl, hfs⟩ := DataW.trod_struct hu h
        obtain ⟨xs', n', _, e', hlen', hxl', hfs'⟩ := DataW.trod_struct hu h'
        have he := (Prod.mk.inj e).1.symm.trans (Prod.mk.inj e').1
        simp only [DataW.agg.injEq] at he
        have hg : ∀ f' ∈ f :: r, ∃ d p p', DataW.trod enc P w base sp held n f'.type ((cs.drop f'.offset).take (P.cellsOf f'.type)) = some (d, p) ∧ DataW.trod enc' P w' base' sp' held' n' f'.type ((cs'.drop f'.offset).take (P.cellsOf f'.type)) = some (d, p') := by
          intro f' hf'
          obtain ⟨i, hi⟩ := List.mem_iff_getElem?.1 hf'
          have hi' : i < (f :: r).length := (List.getElem?_eq_some_iff.1 hi).1
          have hx : i < xs.length := by rw [hxl]; simpa using hi'
          obtain ⟨d, p, p', g1, g2⟩ := fst_some he i hx
          exact ⟨d, p, p', (hfs i f' (by simpa using hi)).trans g1, (hfs' i f' (by simpa using hi)).trans g2⟩
        obtain ⟨d1, p1, p1', g1, g2⟩ := hg f (by simp)
        rw [h1, h2, List.drop_zero] at g1 g2
        have r1 := (same_x a hfl.1).1 _ _ _ _ _ _ _ _ h3 g1 g2
        have r2 := (same_x b hfl.2).2 r a.n n n' cs cs' h4 (by omega) (by omega) fun f' hf' => hg f' (by simp [hf'])
        rw [← List.take_append_drop a.n cs, ← List.take_append_drop a.n cs', r1, r2]
      · exact absurd hf Bool.false_ne_true
    · match fs with
      | [] => simp [fitX] at hf
      | f :: r =>
        simp only [fitX, Bool.and_eq_true, beq_iff_eq] at hf
        obtain ⟨⟨⟨h1, h2⟩, h3⟩, h4⟩ := hf
        obtain ⟨d1, p1, p1', g1, g2⟩ := hg f (by simp)
        rw [h1, h2] at g1 g2
        have r1 := (same_x a hfl.1).1 _ _ _ _ _ _ _ _ h3 g1 g2
        simp only [Sh.n] at hl hl'
        have r2 := (same_x b hfl.2).2 r (off + a.n) n n' cs cs' h4 (by omega) (by omega) fun f' hf' => hg f' (by simp [hf'])
        rw [← List.take_append_drop a.n (cs.drop off), ← List.take_append_drop a.n (cs'.drop off), r1, List.drop_drop, List.drop_drop, r2]
  | .arr n e => fun hfl => ⟨fun t m m' cs cs' d p p' hf h h' => by
      unfold fitX at hf
      split at hf
      · rename_i n' te hu
        simp only [Bool.and_eq_true, beq_iff_eq, decide_eq_true_eq] at hf
        obtain ⟨⟨⟨rfl, hct⟩, hce⟩, hfe⟩ := hf
        obtain ⟨xs, k, _, q, hlen, hxl, hfs⟩ := DataW.trod_array hu h
        obtain ⟨xs', k', _, q', hlen', hxl', hfs'⟩ := DataW.trod_array hu h'
        have he := (Prod.mk.inj q).1.symm.trans (Prod.mk.inj q').1
        simp only [DataW.agg.injEq] at he
        rw [hct] at hlen hlen'
        refine chunk_eq hlen hlen' fun i hi => ?_
        obtain ⟨d, p, p', g1, g2⟩ := fst_some he i (by omega)
        have a1 := (hfs i hi).trans g1
        have a2 := (hfs' i hi).trans g2
        rw [hce] at a1 a2
        exact (same_x e hfl).1 _ _ _ _ _ _ _ _ hfe a1 a2
      · exact absurd hf Bool.false_ne_true, fun fs off n n' cs cs' hf => by simp [fitX] at hf⟩
end
end Go.Dm
namespace Go.Proofs.YthfekjnekaecaaaDoor
open Go.RowKit Go.Dm Go.Dm.Vm Go.Dm.Cp Go.Maps Go.ChangeShapes Go.WideShapes
def opSh : Sh := .pair (.int .i64) (.pair .str (.pair .str .unit))
def opCells : List Value := opsT.flatMap encO
theorem ops_read {H : Type} (enc : TypeId × Value → H) (W : World) : DataW.trod enc Tryd.prog W 0 (fun _ => true) true 8 148 opCells = some (Rows.laid_dormouse_isa_ops, []) := by kernel_rfl
theorem tabs_of {W : World} (h : laidMetH Tryd.prog [("dormouse/isa.ops", Rows.laid_dormouse_isa_ops)] W) : Tabs W := by
  rw [MakeChecks.laidMetH_plain _ _ _ (by kernel_rfl)] at h
  obtain ⟨ps, ⟨g0, t0, cs0, f0, p0, q0, hg0, ht0, hv0, hd0, _, _⟩, _, _⟩ := h
  obtain rfl := Option.some.inj ((show Tryd.prog.globalNamed "dormouse/isa.ops" = some 0 by kernel_rfl).symm.trans hg0)
  obtain rfl := Option.some.inj ((show (Tryd.prog.globals[0]?).map (·.type) = some 148 by kernel_rfl).symm.trans ht0)
  have e0 : cs0.toList = opCells := (same_x (.arr 38 opSh) rfl).1 _ _ _ _ _ _ _ _ (by kernel_rfl) hd0 (ops_read (fun _ => ()) W)
  have c0 : ∀ (j : Nat) u, opCells[j]? = some u → W.cell? ⟨0, j, none⟩ = some u := fun j u hu => by
    rw [World.var?_cell hg0 hv0 j, ← Array.getElem?_toList, e0]; exact hu
  refine ⟨?_⟩
  have hl : opCells.length = opsT.length * 3 := by kernel_rfl
  refine ⟨by rw [opsT_len] at hl ⊢; exact hl, _, 38, rfl, by rw [opsT_len]; exact Nat.le_refl _, by unfold maxLen; omega, (fun h => by cases h), fun _ => ⟨0, 0, rfl, rfl, World.block_lt_of_cell? W _ (c0 0 _ rfl), fun j u hu => ?_⟩⟩
  rw [Nat.zero_add]
  exact c0 j u hu
end Go.Proofs.YthfekjnekaecaaaDoor
