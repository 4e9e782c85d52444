/- LzShort: for every input the law returns true, and each argument reads as it did before. No condition beyond the statement's own. -/
import Derived.Test.YtkooincefcodcaaRows
import Derived.Test.YtkooincefcodcaaCLzShort
import Derived.Test.YtkooincefcodcaaPLzShort
import Derived.WalkKit
import Derived.ProofKit
import Derived.OpenShut
set_option linter.unusedVariables false
set_option maxRecDepth 100000
namespace Go.Proofs.Ytkooincefcodcaa
open Go Go.Xr Go.Xr.Try Go.ChangeShapes Go.WideShapes

theorem lzShort_own : ownKnob Try.prog.godebug = Option.none := by kernel_rfl
abbrev lzShortT : List Ty := [(.int .u8), (.int .i64)]
theorem lzShort_run (d : HL lzShortT) (h : HL.ok lzShortT d) : lawRun Go.Xr.Try.K l_wainscotref1_Most LzShort_h 11 (HL.avs lzShortT d) = some true := by
  have key : ∀ x : Int, IntKind.u8.min ≤ x → x ≤ IntKind.u8.max → 0 ≤ x ∧ x ≤ 255 := by
    intro x h1 h2
    simp [IntKind.min, IntKind.max, IntKind.signed, IntKind.bits] at h1 h2
    omega
  exact (LzShort_model d).trans (LzShort_true (key _ h.1.1 h.1.2))
theorem lzShort_lifted (os : Os) (started : os.Started) (H : Type) (enc : TypeId × Value → H) :
    ReturnsInHanded {} Try.checked os 11 .any (Rows.lzShortSpec.pre6 enc Try.prog Try.f11 Rows.lzShortRow.domain false) (Rows.lzShortSpec.post enc Try.prog Try.f11 false true false false) := by
  refine returnsInHanded_of_change_sized (C := Try.checked) lzShort_own started (by kernel_rfl) Try.func11
    (ChangeSpec.witness6 (enc := enc) (C := Try.checked) false ⟨#[], #[.int .u8 0, .int .i64 0], []⟩ 8 (by kernel_rfl) (by kernel_rfl) (by kernel_rfl) (by kernel_rfl)) ?_
  intro W base args ds gs before hval hW _ hsz _
  refine law_contract K_ok LzShort_under (pts := lzShortT) (bt := 4) (by kernel_rfl) (by kernel_rfl) (by kernel_rfl) rfl ?_ lzShort_run W base args ds gs before hval hW hsz
  intro ds hds
  match ds, hds with
  | [d1, d2], _ => rfl
theorem lzShort_holds : Rows.LzShortSaid :=
  OpenClaim.holds_of_wide 11 Try.f11 rfl rfl rfl rfl rfl rfl rfl ⟨rfl, rfl, rfl, rfl, rfl⟩ rfl rfl rfl rfl rfl (by kernel_rfl) Try.func11 (by kernel_rfl)
    (of_decide_eq_true (by kernel_rfl)) (by unfold Func.isWrapper; first | (rw [if_pos (by decide +kernel)]; kernel_rfl) | (rw [if_neg (by decide +kernel)]; exact ⟨rfl, rfl⟩))
    (fun os started H enc _ => lzShort_lifted os started H enc)
end Go.Proofs.Ytkooincefcodcaa
