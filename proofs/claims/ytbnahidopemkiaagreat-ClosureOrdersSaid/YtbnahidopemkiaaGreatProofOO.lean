/- ClosureOrders: the units of any program, of any files, are the document's, or refused. No condition. -/
import Derived.Test.YtbnahidopemkiaaGreatRows
import Derived.WalkKit
import Derived.ProofKit
import Derived.OpenShut
import Derived.Test.YtbnahidopemkiaaGreatLawOO
import Derived.Test.YtbnahidopemkiaaGreatRdF
set_option linter.unusedVariables false
set_option linter.unusedSimpArgs false
namespace Go.Proofs.YtbnahidopemkiaaGreat.closureOrders
open Go.Dm Go.ChangeShapes Go.WideShapes Go.ChangeAt Go.RowKit
set_option linter.unusedVariables false
theorem laidOut : laidOutB Tryz.prog = true := by kernel_rfl
theorem own : ownKnob Tryz.prog.godebug = none := by kernel_rfl

set_option maxRecDepth 100000 in
theorem lifted (os : Os) (started : os.Started) (H : Type) (enc : TypeId × Value → H) :
    ReturnsInHanded {} Tryz.checked os 3 .any (Rows.closureOrdersSpec.pre6 enc Tryz.prog Tryz.f3 Rows.closureOrdersRow.domain false) (Rows.closureOrdersSpec.post enc Tryz.prog Tryz.f3 false true false false) := by
  refine returnsInHanded_of_change (C := Tryz.checked) own started (by kernel_rfl) Tryz.func3
    (ChangeSpec.witness6 (enc := enc) (C := Tryz.checked) false ⟨#[], #[.string ⟨#[]⟩, .slice none 0 0], []⟩ 8 (by kernel_rfl) (by kernel_rfl) (by kernel_rfl) (by kernel_rfl)) ?_
  intro W base args ds gs before hval0 hW hcnd _
  have hval : ∀ (j : Nat) t v, Tryz.f3.params[j]? = some t → args[j]? = some v → Value.okWide Tryz.prog W .any base t v := hval0
  have hW' := hW
  obtain ⟨p, q, hA0, hV, rfl, hfz, hnd⟩ := hW
  have hA : DataW.TrodAll enc Tryz.prog W 0 (fun _ => true) true Tryz.f3.params.toList args.toList ds p := hA0
  rw [Tryz.params3] at hA hval
  obtain ⟨v0, vs0, d0, ds0, p0, q0, hargs, rfl, rfl, h0, r_0⟩ := trodAll_cons hA
  obtain ⟨v1, vs1, d1, ds1, p1, q1, rfl, rfl, rfl, h1, r_1⟩ := trodAll_cons r_0
  obtain ⟨rfl, rfl, rfl⟩ := trodAll_nil r_1
  obtain rfl : args = #[v0, v1] := by cases args; simp_all
  obtain ⟨rfl, rfl⟩ := trodVars_none hV
  obtain ⟨a0, rfl, w0⟩ := open_str_arg Tryz.underlying9 (by kernel_rfl) (hval 0 9 v0 rfl rfl) h0
  obtain ⟨a1, r1⟩ := open_slice_arg (s := FileS) Tryz.underlying22 (by kernel_rfl) (hval 1 22 v1 rfl rfl) h1
  clear hA0 hval0
  have hpl : ∀ x : MemPlace, x ∈ (p0 ++ (p1 ++ [])) → x.block < W.heap.size := fun x hx => hW'.lt x (by simpa using hx)
  refine (closureorders_any (w := W) a0 (by unfold maxLen at *; omega) (rd_files r1)).mono fun e W' ⟨he, hk⟩ => ?_
  subst he
  have hg : Below W.heap.size W W' := hk.below _ (Nat.le_refl _) (fun _ h => h.elim)
  have k0 : DataW.Trod enc Tryz.prog W' 0 (fun b => decide (b < W.heap.size)) true 9 (.string ⟨a0.toArray⟩) d0 p0 := Below.trod laidOut (by kernel_rfl) (of_decide_eq_true (by kernel_rfl)) h0 hg fun x hx => hpl x (by simp [hx])
  have k1 : DataW.Trod enc Tryz.prog W' 0 (fun b => decide (b < W.heap.size)) true 22 v1 d1 p1 := Below.trod laidOut (by kernel_rfl) (of_decide_eq_true (by kernel_rfl)) h1 hg fun x hx => hpl x (by simp [hx])
  exact ⟨_, rfl, ⟨_, _, _, [], _, [], hW', trodAll_cons_mk (shut_bool Tryz.underlying4 _) trodAll_mk0, (trodAll_cons_mk k0 (trodAll_cons_mk k1 trodAll_mk0)), rfl, hg.frame _, fun h => by cases h⟩⟩

theorem over : Rows.closureOrdersRow.holds Tryz.pinned (OpenSpec.ofChange Rows.closureOrdersSpec) :=
  OpenClaim.holds_of_wide 3 Tryz.f3 rfl rfl rfl rfl rfl rfl rfl ⟨rfl, rfl, rfl, rfl, rfl⟩ rfl rfl rfl rfl rfl (by kernel_rfl) Tryz.func3 (by kernel_rfl)
    (of_decide_eq_true (by kernel_rfl)) (by unfold Func.isWrapper; first | (rw [if_pos (by decide +kernel)]; kernel_rfl) | (rw [if_neg (by decide +kernel)]; exact ⟨rfl, rfl⟩))
    (fun os started H enc _ => lifted os started H enc)

/-- the statement -/
theorem proved : Rows.ClosureOrdersSaid :=
  over
#print axioms proved
end Go.Proofs.YtbnahidopemkiaaGreat.closureOrders
