/- RelocMoves: where all modules move, words that point into one move as it does, the others stay. No condition. -/
import Derived.Test.YtbnahidopemkiaaRows
import Derived.WalkKit
import Derived.ProofKit
import Derived.OpenShut
import Derived.Test.YtbnahidopemkiaaLawRN
import Derived.Test.YtbnahidopemkiaaOct
set_option linter.unusedVariables false
set_option linter.unusedSimpArgs false
namespace Go.Proofs.Ytbnahidopemkiaa.relocMoves
open Go.Dm Go.ChangeShapes Go.WideShapes Go.ChangeAt Go.RowKit
set_option linter.unusedVariables false
theorem laidOut : laidOutB Try.prog = true := by kernel_rfl
theorem own : ownKnob Try.prog.godebug = none := by kernel_rfl

set_option maxRecDepth 100000 in
theorem lifted (os : Os) (started : os.Started) (H : Type) (enc : TypeId × Value → H) :
    ReturnsInHanded {} Try.checked os 8 .any (Rows.relocMovesSpec.pre6 enc Try.prog Try.f8 Rows.relocMovesRow.domain false) (Rows.relocMovesSpec.post enc Try.prog Try.f8 false true false false) := by
  refine returnsInHanded_of_change (C := Try.checked) own started (by kernel_rfl) Try.func8
    (ChangeSpec.witness6 (enc := enc) (C := Try.checked) false ⟨#[], #[.slice none 0 0, .agg #[.int .u8 0, .int .u8 0, .int .u8 0, .int .u8 0, .int .u8 0, .int .u8 0, .int .u8 0, .int .u8 0]], []⟩ 8 (by kernel_rfl) (by kernel_rfl) (by kernel_rfl) (by kernel_rfl)) ?_
  intro W base args ds gs before hval0 hW hcnd _
  have hval : ∀ (j : Nat) t v, Try.f8.params[j]? = some t → args[j]? = some v → Value.okWide Try.prog W .any base t v := hval0
  have hW' := hW
  obtain ⟨p, q, hA0, hV, rfl, hfz, hnd⟩ := hW
  have hA : DataW.TrodAll enc Try.prog W 0 (fun _ => true) true Try.f8.params.toList args.toList ds p := hA0
  rw [Try.params8] at hA hval
  obtain ⟨v0, vs0, d0, ds0, p0, q0, hargs, rfl, rfl, h0, r_0⟩ := trodAll_cons hA
  obtain ⟨v1, vs1, d1, ds1, p1, q1, rfl, rfl, rfl, h1, r_1⟩ := trodAll_cons r_0
  obtain ⟨rfl, rfl, rfl⟩ := trodAll_nil r_1
  obtain rfl : args = #[v0, v1] := by cases args; simp_all
  obtain ⟨rfl, rfl⟩ := trodVars_none hV
  obtain ⟨a0, r0⟩ := open_slice_arg (s := FileS) Try.underlying24 (by kernel_rfl) (hval 0 24 v0 rfl rfl) h0
  obtain ⟨c1, a1, rfl, r1⟩ := open_array_arg (s := .arr 8 .u8) Try.underlying74 (by kernel_rfl) (hval 1 74 v1 rfl rfl) h1
  clear hA0 hval0
  have hpl : ∀ x : MemPlace, x ∈ (p0 ++ (p1 ++ [])) → x.block < W.heap.size := fun x hx => hW'.lt x (by simpa using hx)
  refine (relocmoves_rd (w := W) r0 r1).mono fun e W' ⟨he, hk⟩ => ?_
  subst he
  have hg : Below W.heap.size W W' := hk.below _ (Nat.le_refl _) (fun _ h => h.elim)
  have k0 : DataW.Trod enc Try.prog W' 0 (fun b => decide (b < W.heap.size)) true 24 v0 d0 p0 := Below.trod laidOut (by kernel_rfl) (of_decide_eq_true (by kernel_rfl)) h0 hg fun x hx => hpl x (by simp [hx])
  have k1 : DataW.Trod enc Try.prog W' 0 (fun b => decide (b < W.heap.size)) true 74 (.agg c1) d1 p1 := Below.trod laidOut (by kernel_rfl) (of_decide_eq_true (by kernel_rfl)) h1 hg fun x hx => hpl x (by simp [hx])
  exact ⟨_, rfl, ⟨_, _, _, [], _, [], hW', trodAll_cons_mk (shut_bool Try.underlying4 _) trodAll_mk0, (trodAll_cons_mk k0 (trodAll_cons_mk k1 trodAll_mk0)), rfl, hg.frame _, fun h => by cases h⟩⟩

theorem over : Rows.relocMovesRow.holds Try.pinned (OpenSpec.ofChange Rows.relocMovesSpec) :=
  OpenClaim.holds_of_wide 8 Try.f8 rfl rfl rfl rfl rfl rfl rfl ⟨rfl, rfl, rfl, rfl, rfl⟩ rfl rfl rfl rfl rfl (by kernel_rfl) Try.func8 (by kernel_rfl)
    (of_decide_eq_true (by kernel_rfl)) (by unfold Func.isWrapper; first | (rw [if_pos (by decide +kernel)]; kernel_rfl) | (rw [if_neg (by decide +kernel)]; exact ⟨rfl, rfl⟩))
    (fun os started H enc _ => lifted os started H enc)

/-- the statement -/
theorem proved : Rows.RelocMovesSaid :=
  over
#print axioms proved
end Go.Proofs.Ytbnahidopemkiaa.relocMoves
