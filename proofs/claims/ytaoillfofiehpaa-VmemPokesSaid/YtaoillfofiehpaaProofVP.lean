/- VmemPokes: any bytes, written at any address, are there. No condition. -/
import Derived.Test.YtaoillfofiehpaaRows
import Derived.WalkKit
import Derived.ProofKit
import Derived.OpenShut
import Derived.Test.YtaoillfofiehpaaArgBytes
import Derived.Test.YtaoillfofiehpaaFl
namespace Go.Proofs.Ytaoillfofiehpaa.vmemPokes
open Go.Dm Go.ChangeShapes Go.WideShapes Go.ChangeAt Go.RowKit
set_option linter.unusedVariables false
theorem laidOut : laidOutB Try.prog = true := by kernel_rfl
theorem own : ownKnob Try.prog.godebug = none := by kernel_rfl

theorem u64_nat {a : Int} (h : (Lit.int .u64 a).wf = true) : ∃ n : Nat, a = n ∧ n < 18446744073709551616 := by
  simp [Lit.wf, IntKind.min, IntKind.max, IntKind.signed, IntKind.bits] at h
  exact ⟨a.toNat, by omega, by omega⟩
set_option maxRecDepth 100000 in
theorem lifted (os : Os) (started : os.Started) (H : Type) (enc : TypeId × Value → H) :
    ReturnsInHanded {} Try.checked os 7 .any (Rows.vmemPokesSpec.pre6 enc Try.prog Try.f7 Rows.vmemPokesRow.domain false) (Rows.vmemPokesSpec.post enc Try.prog Try.f7 false true false false) := by
  refine returnsInHanded_of_change (C := Try.checked) own started (by kernel_rfl) Try.func7
    (ChangeSpec.witness6 (enc := enc) (C := Try.checked) false ⟨#[], #[.int .u64 0, .slice none 0 0, .int .i64 0], []⟩ 8 (by kernel_rfl) (by kernel_rfl) (by kernel_rfl) (by kernel_rfl)) ?_
  intro W base args ds gs before hval0 hW hcnd _
  have hval : ∀ (j : Nat) t v, Try.f7.params[j]? = some t → args[j]? = some v → Value.okWide Try.prog W .any base t v := hval0
  have hW' := hW
  obtain ⟨p, q, hA0, hV, rfl, hfz, hnd⟩ := hW
  have hA : DataW.TrodAll enc Try.prog W 0 (fun _ => true) true Try.f7.params.toList args.toList ds p := hA0
  rw [Try.params7] at hA hval
  obtain ⟨v0, vs0, d0, ds0, p0, q0, hargs, rfl, rfl, h0, r_0⟩ := trodAll_cons hA
  obtain ⟨v1, vs1, d1, ds1, p1, q1, rfl, rfl, rfl, h1, r_1⟩ := trodAll_cons r_0
  obtain ⟨v2, vs2, d2, ds2, p2, q2, rfl, rfl, rfl, h2, r_2⟩ := trodAll_cons r_1
  obtain ⟨rfl, rfl, rfl⟩ := trodAll_nil r_2
  obtain rfl : args = #[v0, v1, v2] := by cases args; simp_all
  obtain ⟨rfl, rfl⟩ := trodVars_none hV
  obtain ⟨a0, rfl, rfl, rfl, w0⟩ := open_int Try.underlying24 (hval 0 24 v0 rfl rfl) h0
  obtain ⟨b, hb⟩ := open_bts (hval 1 25 v1 rfl rfl) h1
  obtain ⟨a2, rfl, rfl, rfl, w2⟩ := open_int Try.underlying3 (hval 2 3 v2 rfl rfl) h2
  clear hA0 hval0
  simp only [List.append_nil, List.nil_append] at hW'
  have hlt : ∀ x ∈ p1, x.block < W.heap.size := fun x hx => by simpa using hW'.lt x hx
  obtain ⟨n0, rfl, b0⟩ := u64_nat w0
  have hbm : b.length ≤ maxLen := by obtain ⟨_, _, _, h1, h2⟩ := hb.shape; omega
  refine (vmempokes_any n0 b a2 b0 hbm hb (fun _ h => h)).mono fun e W' ⟨he, hk⟩ => ?_
  subst he
  have hg : Below W.heap.size W W' := hk.below _ (Nat.le_refl _) (fun _ h => h.elim)
  have k0 := shut_int (enc := enc) (P := Try.prog) (w := W') (base := 0) (spare := fun b => decide (b < W.heap.size)) (held := true) Try.underlying24 w0
  have k1 : DataW.Trod enc Try.prog W' 0 (fun b => decide (b < W.heap.size)) true 25 v1 d1 p1 := Below.trod laidOut (by kernel_rfl) (of_decide_eq_true (by kernel_rfl)) h1 hg fun x hx => hlt x (by simp [hx])
  have k2 := shut_int (enc := enc) (P := Try.prog) (w := W') (base := 0) (spare := fun b => decide (b < W.heap.size)) (held := true) Try.underlying3 w2
  exact ⟨_, rfl, ⟨_, _, _, [], p1, [], hW', trodAll_cons_mk (shut_bool Try.underlying4 _) trodAll_mk0, by
    have := trodAll_cons_mk k0 (trodAll_cons_mk k1 (trodAll_cons_mk k2 trodAll_mk0))
    have e : [] ++ (p1 ++ ([] ++ [])) = p1 := by simp
    rw [e] at this
    exact this, rfl, hg.frame _, fun h => by cases h⟩⟩

theorem over : Rows.vmemPokesRow.holds Try.pinned (OpenSpec.ofChange Rows.vmemPokesSpec) :=
  OpenClaim.holds_of_wide 7 Try.f7 rfl rfl rfl rfl rfl rfl rfl ⟨rfl, rfl, rfl, rfl, rfl⟩ rfl rfl rfl rfl rfl (by kernel_rfl) Try.func7 (by kernel_rfl)
    (of_decide_eq_true (by kernel_rfl)) (by unfold Func.isWrapper; first | (rw [if_pos (by decide +kernel)]; kernel_rfl) | (rw [if_neg (by decide +kernel)]; exact ⟨rfl, rfl⟩))
    (fun os started H enc _ => lifted os started H enc)

/-- the statement -/
theorem proved : Rows.VmemPokesSaid :=
  over
#print axioms proved
end Go.Proofs.Ytaoillfofiehpaa.vmemPokes
