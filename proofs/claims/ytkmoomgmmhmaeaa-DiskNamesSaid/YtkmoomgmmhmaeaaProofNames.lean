/- 'dormouselaw10.DiskNames' returns true at every two slices of bytes and every bool, and its arguments read as they did. No condition. -/
import Derived.Test.YtkmoomgmmhmaeaaRows
import Derived.WalkKit
import Derived.ProofKit
import Derived.OpenShut
import Derived.Test.YtkmoomgmmhmaeaaLawNames
import Derived.Test.YtkmoomgmmhmaeaaArgBytes
namespace Go.Proofs.Ytkmoomgmmhmaeaa.diskNames
open Go.Dm Go.ChangeShapes Go.WideShapes Go.ChangeAt Go.RowKit
set_option linter.unusedVariables false      -- a walk need not use every 'w<i>' (that an integer argument fits its kind)

theorem laidOut : laidOutB Try.prog = true := by kernel_rfl
theorem own : ownKnob Try.prog.godebug = none := by kernel_rfl

/-! ### THE ROW's STEP: WRITTEN OUT: LEAVE IT -/
set_option maxRecDepth 100000 in
theorem lifted (os : Os) (started : os.Started) (H : Type) (enc : TypeId × Value → H) :
    ReturnsInHanded {} Try.checked os 4 .any (Rows.diskNamesSpec.pre6 enc Try.prog Try.f4 Rows.diskNamesRow.domain false) (Rows.diskNamesSpec.post enc Try.prog Try.f4 false true false false) := by
  refine returnsInHanded_of_change (C := Try.checked) own started (by kernel_rfl) Try.func4
    (ChangeSpec.witness6 (enc := enc) (C := Try.checked) false ⟨#[], #[.slice none 0 0, .slice none 0 0, .bool false], []⟩ 8 (by kernel_rfl) (by kernel_rfl) (by kernel_rfl) (by kernel_rfl)) ?_
  intro W base args ds gs before hval0 hW hcnd _
  have hval : ∀ (j : Nat) t v, Try.f4.params[j]? = some t → args[j]? = some v → Value.okWide Try.prog W .any base t v := hval0
  have hW' := hW
  obtain ⟨p, q, hA0, hV, rfl, hfz, hnd⟩ := hW
  have hA : DataW.TrodAll enc Try.prog W 0 (fun _ => true) true Try.f4.params.toList args.toList ds p := hA0
  rw [Try.params4] at hA hval
  obtain ⟨v0, vs0, d0, ds0, p0, q0, hargs, rfl, rfl, h0, r0⟩ := trodAll_cons hA
  obtain ⟨v1, vs1, d1, ds1, p1, q1, rfl, rfl, rfl, h1, r1⟩ := trodAll_cons r0
  obtain ⟨v2, vs2, d2, ds2, p2, q2, rfl, rfl, rfl, h2, r2⟩ := trodAll_cons r1
  obtain ⟨rfl, rfl, rfl⟩ := trodAll_nil r2
  obtain rfl : args = #[v0, v1, v2] := by cases args; simp_all
  obtain ⟨rfl, rfl⟩ := trodVars_none hV
  obtain ⟨a, ha⟩ := open_bts (hval 0 29 v0 rfl rfl) h0
  obtain ⟨b, hb⟩ := open_bts (hval 1 29 v1 rfl rfl) h1
  obtain ⟨c, rfl, rfl, rfl⟩ := open_bool Try.underlying4 (hval 2 4 v2 rfl rfl) h2
  clear hA0 hval0
  simp only [List.append_nil] at hW'
  have hlt : ∀ x ∈ p0 ++ p1, x.block < W.heap.size := fun x hx => by simpa using hW'.lt x hx
  refine (disknames_any a b c W ha hb).mono fun e W' ⟨he, hk⟩ => ?_
  subst he
  have hg : Below W.heap.size W W' := hk.below _ (Nat.le_refl _) (fun _ h => h.elim)
  have k0 : DataW.Trod enc Try.prog W' 0 (fun b => decide (b < W.heap.size)) true 29 v0 d0 p0 := Below.trod laidOut (by kernel_rfl) (of_decide_eq_true (by kernel_rfl)) h0 hg fun x hx => hlt x (by simp [hx])
  have k1 : DataW.Trod enc Try.prog W' 0 (fun b => decide (b < W.heap.size)) true 29 v1 d1 p1 := Below.trod laidOut (by kernel_rfl) (of_decide_eq_true (by kernel_rfl)) h1 hg fun x hx => hlt x (by simp [hx])
  exact ⟨_, rfl, ⟨_, _, _, [], p0 ++ p1, [], hW', trodAll_cons_mk (shut_bool Try.underlying4 _) trodAll_mk0, by
    have := trodAll_cons_mk k0 (trodAll_cons_mk k1 (trodAll_cons_mk (shut_bool Try.underlying4 c) trodAll_mk0))
    have e : p0 ++ (p1 ++ ([] ++ [])) = p0 ++ p1 := by simp
    rw [e] at this
    exact this, rfl, hg.frame _, fun h => by cases h⟩⟩

theorem over : Rows.diskNamesRow.holds Try.pinned (OpenSpec.ofChange Rows.diskNamesSpec) :=
  OpenClaim.holds_of_wide 4 Try.f4 rfl rfl rfl rfl rfl rfl rfl ⟨rfl, rfl, rfl, rfl, rfl⟩ rfl rfl rfl rfl rfl (by kernel_rfl) Try.func4 (by kernel_rfl)
    (of_decide_eq_true (by kernel_rfl)) (by unfold Func.isWrapper; first | (rw [if_pos (by decide +kernel)]; kernel_rfl) | (rw [if_neg (by decide +kernel)]; exact ⟨rfl, rfl⟩))
    (fun os started H enc _ => lifted os started H enc)

/-- ████ THE STATEMENT ████ -/
theorem proved : Rows.DiskNamesSaid :=
  over
#print axioms proved
end Go.Proofs.Ytkmoomgmmhmaeaa.diskNames
