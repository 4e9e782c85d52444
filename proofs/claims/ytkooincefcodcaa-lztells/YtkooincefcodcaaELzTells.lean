/- LzTells: for every input the law returns true, and each argument reads as it did before. No condition beyond the statement's own. -/
import Derived.Test.YtkooincefcodcaaRows
import Derived.Test.YtkooincefcodcaaCLzTells
import Derived.Test.YtkooincefcodcaaPLzTells
import Derived.WalkKit
import Derived.ProofKit
import Derived.OpenShut
set_option linter.unusedVariables false
set_option maxRecDepth 100000
namespace Go.Proofs.Ytkooincefcodcaa
open Go Go.Xr Go.Xr.Try Go.ChangeShapes Go.WideShapes

theorem lzTells_own : ownKnob Try.prog.godebug = Option.none := by kernel_rfl
abbrev lzTellsT : List Ty := [(.sl false (.int .u8)), (.sl false (.int .u8)), (.int .i64)]
theorem lzTells_run (d : HL lzTellsT) (h : HL.ok lzTellsT d) : lawRun Go.Xr.Try.K l_wainscotref1_Most LzTells_h 8 (HL.avs lzTellsT d) = some true := by
  refine (LzTells_model d).trans (LzTells_true ?_ ?_)
  · intro x hx
    have := h.1.2 x hx
    have h1 : IntKind.u8.min ≤ x := this.1
    have h2 : x ≤ IntKind.u8.max := this.2
    simp [IntKind.min, IntKind.max, IntKind.signed, IntKind.bits] at h1 h2
    omega
  · intro x hx
    have := h.2.1.2 x hx
    have h1 : IntKind.u8.min ≤ x := this.1
    have h2 : x ≤ IntKind.u8.max := this.2
    simp [IntKind.min, IntKind.max, IntKind.signed, IntKind.bits] at h1 h2
    omega
theorem lzTells_lifted (os : Os) (started : os.Started) (H : Type) (enc : TypeId × Value → H) :
    ReturnsInHanded {} Try.checked os 8 .any (Rows.lzTellsSpec.pre6 enc Try.prog Try.f8 Rows.lzTellsRow.domain false) (Rows.lzTellsSpec.post enc Try.prog Try.f8 false true false false) := by
  refine returnsInHanded_of_change_sized (C := Try.checked) lzTells_own started (by kernel_rfl) Try.func8
    (ChangeSpec.witness6 (enc := enc) (C := Try.checked) false ⟨#[], #[.slice Option.none 0 0, .slice Option.none 0 0, .int .i64 0], []⟩ 8 (by kernel_rfl) (by kernel_rfl) (by kernel_rfl) (by kernel_rfl)) ?_
  intro W base args ds gs before hval hW _ hsz _
  refine law_contract K_ok LzTells_under (pts := lzTellsT) (bt := 4) (by kernel_rfl) (by kernel_rfl) (by kernel_rfl) rfl ?_ lzTells_run W base args ds gs before hval hW hsz
  intro ds hds
  match ds, hds with
  | [d1, d2, d3], _ => rfl
theorem lzTells_holds : Rows.LzTellsSaid :=
  OpenClaim.holds_of_wide 8 Try.f8 rfl rfl rfl rfl rfl rfl rfl ⟨rfl, rfl, rfl, rfl, rfl⟩ rfl rfl rfl rfl rfl (by kernel_rfl) Try.func8 (by kernel_rfl)
    (of_decide_eq_true (by kernel_rfl)) (by unfold Func.isWrapper; first | (rw [if_pos (by decide +kernel)]; kernel_rfl) | (rw [if_neg (by decide +kernel)]; exact ⟨rfl, rfl⟩))
    (fun os started H enc _ => lzTells_lifted os started H enc)
end Go.Proofs.Ytkooincefcodcaa
