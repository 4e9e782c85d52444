/- BitsTells: for every input the law returns true, and each argument reads as it did before. No condition beyond the statement's own. -/
import Derived.Test.YtkooincefcodcaaRows
import Derived.Test.YtkooincefcodcaaCBitsTells
import Derived.Test.YtkooincefcodcaaPBitsTells
import Derived.WalkKit
import Derived.ProofKit
import Derived.OpenShut
set_option linter.unusedVariables false
set_option maxRecDepth 100000
namespace Go.Proofs.Ytkooincefcodcaa
open Go Go.Xr Go.Xr.Try Go.ChangeShapes Go.WideShapes

theorem bt_own : ownKnob Try.prog.godebug = Option.none := by kernel_rfl
abbrev btT : List Ty := [(.sl false (.arr 2 (.int .i64))), (.sl false (.int .u8)), (.sl false (.int .i64))]
theorem bt_run (d : HL btT) (h : HL.ok btT d) : lawRun Go.Xr.Try.K l_wainscotref1_Scan_Rest BitsTells_h 5 (HL.avs btT d) = some true := by
  refine (BitsTells_model d).trans (BitsTells_true ?_ ?_)
  · intro y hy z hz
    have := (h.1.2 y hy).2 z hz
    have h2 : z ≤ IntKind.i64.max := this.2
    simp [IntKind.max, IntKind.signed, IntKind.bits] at h2
    omega
  · intro x hx
    have := h.2.1.2 x hx
    have h1 : IntKind.u8.min ≤ x := this.1
    have h2 : x ≤ IntKind.u8.max := this.2
    simp [IntKind.min, IntKind.max, IntKind.signed, IntKind.bits] at h1 h2
    omega
theorem bt_lifted (os : Os) (started : os.Started) (H : Type) (enc : TypeId × Value → H) :
    ReturnsInHanded {} Try.checked os 5 .any (Rows.bitsTellsSpec.pre6 enc Try.prog Try.f5 Rows.bitsTellsRow.domain false) (Rows.bitsTellsSpec.post enc Try.prog Try.f5 false true false false) := by
  refine returnsInHanded_of_change_sized (C := Try.checked) bt_own started (by kernel_rfl) Try.func5
    (ChangeSpec.witness6 (enc := enc) (C := Try.checked) false ⟨#[], #[.slice Option.none 0 0, .slice Option.none 0 0, .slice Option.none 0 0], []⟩ 8 (by kernel_rfl) (by kernel_rfl) (by kernel_rfl) (by kernel_rfl)) ?_
  intro W base args ds gs before hval hW _ hsz _
  refine law_contract K_ok BitsTells_under (pts := btT) (bt := 4) (by kernel_rfl) (by kernel_rfl) (by kernel_rfl) rfl ?_ bt_run W base args ds gs before hval hW hsz
  intro ds hds
  match ds, hds with
  | [d1, d2, d3], _ => rfl
theorem bitsTells_holds : Rows.BitsTellsSaid :=
  OpenClaim.holds_of_wide 5 Try.f5 rfl rfl rfl rfl rfl rfl rfl ⟨rfl, rfl, rfl, rfl, rfl⟩ rfl rfl rfl rfl rfl (by kernel_rfl) Try.func5 (by kernel_rfl)
    (of_decide_eq_true (by kernel_rfl)) (by unfold Func.isWrapper; first | (rw [if_pos (by decide +kernel)]; kernel_rfl) | (rw [if_neg (by decide +kernel)]; exact ⟨rfl, rfl⟩))
    (fun os started H enc _ => bt_lifted os started H enc)
end Go.Proofs.Ytkooincefcodcaa
