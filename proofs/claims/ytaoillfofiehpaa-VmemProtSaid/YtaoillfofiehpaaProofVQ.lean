/- VmemProt: what may be done with two pages, asked at any address across their border, is the document's. No condition. -/
import Derived.Test.YtaoillfofiehpaaRows
import Derived.WalkKit
import Derived.ProofKit
import Derived.OpenShut
import Derived.Test.YtaoillfofiehpaaLawVQ
import Derived.Test.YtaoillfofiehpaaFl
namespace Go.Proofs.Ytaoillfofiehpaa.vmemProt
open Go.Dm Go.ChangeShapes Go.WideShapes Go.ChangeAt Go.RowKit
set_option linter.unusedVariables false
theorem laidOut : laidOutB Try.prog = true := by kernel_rfl
theorem own : ownKnob Try.prog.godebug = none := by kernel_rfl

theorem u64_nat {a : Int} (h : (Lit.int .u64 a).wf = true) : ∃ n : Nat, a = n ∧ n < 18446744073709551616 := by
  simp [Lit.wf, IntKind.min, IntKind.max, IntKind.signed, IntKind.bits] at h
  exact ⟨a.toNat, by omega, by omega⟩
theorem u8_nat {a : Int} (h : (Lit.int .u8 a).wf = true) : ∃ n : Nat, a = n ∧ n < 256 := by
  simp [Lit.wf, IntKind.min, IntKind.max, IntKind.signed, IntKind.bits] at h
  exact ⟨a.toNat, by omega, by omega⟩
set_option maxRecDepth 100000 in
theorem lifted (os : Os) (started : os.Started) (H : Type) (enc : TypeId × Value → H) :
    ReturnsInHanded {} Try.checked os 4 .any (Rows.vmemProtSpec.pre6 enc Try.prog Try.f4 Rows.vmemProtRow.domain false) (Rows.vmemProtSpec.post enc Try.prog Try.f4 false true false false) := by
  refine returnsInHanded_of_change (C := Try.checked) own started (by kernel_rfl) Try.func4
    (ChangeSpec.witness6 (enc := enc) (C := Try.checked) false ⟨#[], #[.int .i64 0, .int .i64 0, .int .u8 0, .int .i64 0, .int .u64 0], []⟩ 8 (by kernel_rfl) (by kernel_rfl) (by kernel_rfl) (by kernel_rfl)) ?_
  intro W base args ds gs before hval0 hW hcnd _
  have hval : ∀ (j : Nat) t v, Try.f4.params[j]? = some t → args[j]? = some v → Value.okWide Try.prog W .any base t v := hval0
  have hW' := hW
  obtain ⟨p, q, hA0, hV, rfl, hfz, hnd⟩ := hW
  have hA : DataW.TrodAll enc Try.prog W 0 (fun _ => true) true Try.f4.params.toList args.toList ds p := hA0
  rw [Try.params4] at hA hval
  obtain ⟨v0, vs0, d0, ds0, p0, q0, hargs, rfl, rfl, h0, r_0⟩ := trodAll_cons hA
  obtain ⟨v1, vs1, d1, ds1, p1, q1, rfl, rfl, rfl, h1, r_1⟩ := trodAll_cons r_0
  obtain ⟨v2, vs2, d2, ds2, p2, q2, rfl, rfl, rfl, h2, r_2⟩ := trodAll_cons r_1
  obtain ⟨v3, vs3, d3, ds3, p3, q3, rfl, rfl, rfl, h3, r_3⟩ := trodAll_cons r_2
  obtain ⟨v4, vs4, d4, ds4, p4, q4, rfl, rfl, rfl, h4, r_4⟩ := trodAll_cons r_3
  obtain ⟨rfl, rfl, rfl⟩ := trodAll_nil r_4
  obtain rfl : args = #[v0, v1, v2, v3, v4] := by cases args; simp_all
  obtain ⟨rfl, rfl⟩ := trodVars_none hV
  obtain ⟨a0, rfl, rfl, rfl, w0⟩ := open_int Try.underlying3 (hval 0 3 v0 rfl rfl) h0
  obtain ⟨a1, rfl, rfl, rfl, w1⟩ := open_int Try.underlying3 (hval 1 3 v1 rfl rfl) h1
  obtain ⟨a2, rfl, rfl, rfl, w2⟩ := open_int Try.underlying5 (hval 2 5 v2 rfl rfl) h2
  obtain ⟨a3, rfl, rfl, rfl, w3⟩ := open_int Try.underlying3 (hval 3 3 v3 rfl rfl) h3
  obtain ⟨a4, rfl, rfl, rfl, w4⟩ := open_int Try.underlying24 (hval 4 24 v4 rfl rfl) h4
  clear hA0 hval0
  obtain ⟨n2, rfl, b2⟩ := u8_nat w2
  obtain ⟨n4, rfl, b4⟩ := u64_nat w4
  refine (vmemprot_any (w := W) a0 a1 n2 a3 n4 b2 b4).mono fun e W' ⟨he, hk⟩ => ?_
  subst he
  have hg : Below W.heap.size W W' := hk.below _ (Nat.le_refl _) (fun _ h => h.elim)
  have k0 := shut_int (enc := enc) (P := Try.prog) (w := W') (base := 0) (spare := fun b => decide (b < W.heap.size)) (held := true) Try.underlying3 w0
  have k1 := shut_int (enc := enc) (P := Try.prog) (w := W') (base := 0) (spare := fun b => decide (b < W.heap.size)) (held := true) Try.underlying3 w1
  have k2 := shut_int (enc := enc) (P := Try.prog) (w := W') (base := 0) (spare := fun b => decide (b < W.heap.size)) (held := true) Try.underlying5 w2
  have k3 := shut_int (enc := enc) (P := Try.prog) (w := W') (base := 0) (spare := fun b => decide (b < W.heap.size)) (held := true) Try.underlying3 w3
  have k4 := shut_int (enc := enc) (P := Try.prog) (w := W') (base := 0) (spare := fun b => decide (b < W.heap.size)) (held := true) Try.underlying24 w4
  exact ⟨_, rfl, ⟨_, _, _, [], _, [], hW', trodAll_cons_mk (shut_bool Try.underlying4 _) trodAll_mk0, (trodAll_cons_mk k0 (trodAll_cons_mk k1 (trodAll_cons_mk k2 (trodAll_cons_mk k3 (trodAll_cons_mk k4 trodAll_mk0))))), rfl, hg.frame _, fun h => by cases h⟩⟩

theorem over : Rows.vmemProtRow.holds Try.pinned (OpenSpec.ofChange Rows.vmemProtSpec) :=
  OpenClaim.holds_of_wide 4 Try.f4 rfl rfl rfl rfl rfl rfl rfl ⟨rfl, rfl, rfl, rfl, rfl⟩ rfl rfl rfl rfl rfl (by kernel_rfl) Try.func4 (by kernel_rfl)
    (of_decide_eq_true (by kernel_rfl)) (by unfold Func.isWrapper; first | (rw [if_pos (by decide +kernel)]; kernel_rfl) | (rw [if_neg (by decide +kernel)]; exact ⟨rfl, rfl⟩))
    (fun os started H enc _ => lifted os started H enc)

/-- the statement -/
theorem proved : Rows.VmemProtSaid :=
  over
#print axioms proved
end Go.Proofs.Ytaoillfofiehpaa.vmemProt
