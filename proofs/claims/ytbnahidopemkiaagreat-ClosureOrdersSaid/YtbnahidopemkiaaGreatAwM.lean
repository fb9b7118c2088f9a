/- The document's examples of chapter 15, reckoned by the plain models. No condition. -/
import Derived.Test.YtbnahidopemkiaaGreatBu8
set_option linter.unusedVariables false
set_option linter.unusedSimpArgs false
namespace Go.Dm.Ld
open Go Go.Dm.Oc
def fA : BS × BS := ([97], (buildM (libSp 2 [[98], [99]] [1])).2)
def fB : BS × BS := ([98], (buildM (libSp 3 [[99]] [1])).2)
def fC : BS × BS := ([99], (buildM (libSp 3 [] [1])).2)
def fA2 : BS × BS := ([97], (buildM (libSp 2 [[98]] [1])).2)
def fB2 : BS × BS := ([98], (buildM (libSp 3 [[98]] [1])).2)
theorem aw_order : (orderM [97] [fA, fB, fC]).1 = 0 ∧ (orderM [97] [fA, fB, fC]).2.map (·.1) = [[97], [98], [99]] := by decide +kernel
theorem aw_cycle : (orderM [97] [fA2, fB2]).1 = 30 := by decide +kernel
theorem aw_missing : (orderM [120] []).1 = 31 := by decide +kernel
end Go.Dm.Ld
