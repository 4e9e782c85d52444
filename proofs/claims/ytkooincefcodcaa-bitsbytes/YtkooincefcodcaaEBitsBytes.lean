/- BitsBytes: for every input the law returns true, and each argument reads as it did before. No condition beyond the statement's own. -/
import Derived.Test.YtkooincefcodcaaRows
import Derived.Test.YtkooincefcodcaaCBitsBytes
import Derived.Test.YtkooincefcodcaaPBitsBytes
import Derived.WalkKit
import Derived.ProofKit
import Derived.OpenShut
set_option linter.unusedVariables false
set_option maxRecDepth 100000
namespace Go.Proofs.Ytkooincefcodcaa
open Go Go.Xr Go.Xr.Try Go.ChangeShapes Go.WideShapes

theorem bitsBytes_own : ownKnob Try.prog.godebug = Option.none := by kernel_rfl
abbrev bitsBytesT : List Ty := [(.sl false (.int .u8)), (.int .i64)]
theorem bitsBytes_run (d : HL bitsBytesT) (h : HL.ok bitsBytesT d) : lawRun Go.Xr.Try.K l_wainscotalike_Round BitsBytes_h 7 (HL.avs bitsBytesT d) = some true := by
  refine (BitsBytes_model d).trans (BitsBytes_true ?_)
  intro x hx
  have := h.1.2 x hx
  have h1 : IntKind.u8.min ≤ x := this.1
  have h2 : x ≤ IntKind.u8.max := this.2
  simp [IntKind.min, IntKind.max, IntKind.signed, IntKind.bits] at h1 h2
  omega
theorem bitsBytes_lifted (os : Os) (started : os.Started) (H : Type) (enc : TypeId × Value → H) :
    ReturnsInHanded {} Try.checked os 7 .any (Rows.bitsBytesSpec.pre6 enc Try.prog Try.f7 Rows.bitsBytesRow.domain false) (Rows.bitsBytesSpec.post enc Try.prog Try.f7 false true false false) := by
  refine returnsInHanded_of_change_sized (C := Try.checked) bitsBytes_own started (by kernel_rfl) Try.func7
    (ChangeSpec.witness6 (enc := enc) (C := Try.checked) false ⟨#[], #[.slice Option.none 0 0, .int .i64 0], []⟩ 8 (by kernel_rfl) (by kernel_rfl) (by kernel_rfl) (by kernel_rfl)) ?_
  intro W base args ds gs before hval hW _ hsz _
  refine law_contract K_ok BitsBytes_under (pts := bitsBytesT) (bt := 4) (by kernel_rfl) (by kernel_rfl) (by kernel_rfl) rfl ?_ bitsBytes_run W base args ds gs before hval hW hsz
  intro ds hds
  match ds, hds with
  | [d1, d2], _ => rfl
theorem bitsBytes_holds : Rows.BitsBytesSaid :=
  OpenClaim.holds_of_wide 7 Try.f7 rfl rfl rfl rfl rfl rfl rfl ⟨rfl, rfl, rfl, rfl, rfl⟩ rfl rfl rfl rfl rfl (by kernel_rfl) Try.func7 (by kernel_rfl)
    (of_decide_eq_true (by kernel_rfl)) (by unfold Func.isWrapper; first | (rw [if_pos (by decide +kernel)]; kernel_rfl) | (rw [if_neg (by decide +kernel)]; exact ⟨rfl, rfl⟩))
    (fun os started H enc _ => bitsBytes_lifted os started H enc)
end Go.Proofs.Ytkooincefcodcaa
