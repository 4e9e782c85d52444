/- LzStrict: for every input the law returns true, and each argument reads as it did before. No condition beyond the statement's own. -/
import Derived.Test.YtkooincefcodcaaRows
import Derived.Test.YtkooincefcodcaaCLzStrict
import Derived.Test.YtkooincefcodcaaPLzStrict
import Derived.WalkKit
import Derived.ProofKit
import Derived.OpenShut
set_option linter.unusedVariables false
set_option maxRecDepth 100000
namespace Go.Proofs.Ytkooincefcodcaa
open Go Go.Xr Go.Xr.Try Go.ChangeShapes Go.WideShapes

theorem lzStrict_own : ownKnob Try.prog.godebug = Option.none := by kernel_rfl
abbrev lzStrictT : List Ty := [(.sl false (.int .i64)), (.int .i64), (.int .i64), (.int .i64), (.sl false (.int .u8))]
theorem lzStrict_run (d : HL lzStrictT) (h : HL.ok lzStrictT d) : lawRun Go.Xr.Try.K l_wainscotref1_Most LzStrict_h 10 (HL.avs lzStrictT d) = some true := by
  refine (LzStrict_model d).trans (LzStrict_true ?_)
  · intro x hx
    have := h.2.2.2.2.1.2 x hx
    have h1 : IntKind.u8.min ≤ x := this.1
    have h2 : x ≤ IntKind.u8.max := this.2
    simp [IntKind.min, IntKind.max, IntKind.signed, IntKind.bits] at h1 h2
    omega
theorem lzStrict_lifted (os : Os) (started : os.Started) (H : Type) (enc : TypeId × Value → H) :
    ReturnsInHanded {} Try.checked os 10 .any (Rows.lzStrictSpec.pre6 enc Try.prog Try.f10 Rows.lzStrictRow.domain false) (Rows.lzStrictSpec.post enc Try.prog Try.f10 false true false false) := by
  refine returnsInHanded_of_change_sized (C := Try.checked) lzStrict_own started (by kernel_rfl) Try.func10
    (ChangeSpec.witness6 (enc := enc) (C := Try.checked) false ⟨#[], #[.slice Option.none 0 0, .int .i64 0, .int .i64 0, .int .i64 0, .slice Option.none 0 0], []⟩ 8 (by kernel_rfl) (by kernel_rfl) (by kernel_rfl) (by kernel_rfl)) ?_
  intro W base args ds gs before hval hW _ hsz _
  refine law_contract K_ok LzStrict_under (pts := lzStrictT) (bt := 4) (by kernel_rfl) (by kernel_rfl) (by kernel_rfl) rfl ?_ lzStrict_run W base args ds gs before hval hW hsz
  intro ds hds
  match ds, hds with
  | [d1, d2, d3, d4, d5], _ => rfl
theorem lzStrict_holds : Rows.LzStrictSaid :=
  OpenClaim.holds_of_wide 10 Try.f10 rfl rfl rfl rfl rfl rfl rfl ⟨rfl, rfl, rfl, rfl, rfl⟩ rfl rfl rfl rfl rfl (by kernel_rfl) Try.func10 (by kernel_rfl)
    (of_decide_eq_true (by kernel_rfl)) (by unfold Func.isWrapper; first | (rw [if_pos (by decide +kernel)]; kernel_rfl) | (rw [if_neg (by decide +kernel)]; exact ⟨rfl, rfl⟩))
    (fun os started H enc _ => lzStrict_lifted os started H enc)
end Go.Proofs.Ytkooincefcodcaa
