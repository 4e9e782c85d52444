import Derived.Test.YtkooincefcodcaaS
import Derived.Test.YtkooincefcodcaaMLzTells
set_option maxRecDepth 100000
namespace Go.Xr.Try
open Go Go.Xr
def LzTells_h : Hn := .seq (.nil) (.mark [] (.seq (.nil) (.cond (.seq (.nil) (.last [])) (.nil))) (.seq (.nil) (.seq (.nil) (.seq (.nil) (.seq (.nil) (.join [1042001002, 1037001002, 1032001002, 1027001002] [1042001002, 1037001002, 1032001002, 1027001002] [⟨.normal, { tm := [.cst 0, .cst 1, .cst 2, .undef, .undef, .undef, .hole .bool, .cst 4, .cst 5, .cst 6, .cst 7, .cst 8, .cst 9, .cst 10, .cst 11, .undef, .undef, .undef, .undef, .undef, .undef, .undef, .undef, .undef, .undef, .undef, .undef, .undef, .undef, .undef, .undef, .undef, .undef, .undef, .undef, .undef, .undef, .undef, .undef, .undef, .undef, .undef, .undef, .undef, .undef, .undef, .undef, .undef, .undef, .undef, .undef, .undef, .undef, .undef, .undef, .undef, .undef, .undef, .undef, .undef, .undef, .undef, .undef, .undef, .undef, .undef, .undef, .undef, .undef, .undef, .undef, .undef, .undef, .undef, .undef, .undef], bx := [(1042001002, .cst 0), (1037001002, .cst 1), (1032001002, .cst 2), (1027001002, .cst 3)], up := [] }⟩] (.nil) (.last [])))))))
theorem LzTells_model (d : HL [(.sl false (.int .u8)), (.sl false (.int .u8)), (.int .i64)]) : lawRun K l_wainscotref1_Most LzTells_h 8 (HL.avs [(.sl false (.int .u8)), (.sl false (.int .u8)), (.int .i64)] d) = LzTells_m (d).1 ((d).2).1 (((d).2).2).1 := by kernel_rfl
theorem LzTells_under : ∀ S ∈ l_wainscotref1_Most, S.OK Go.Proofs.Try.prog := l_wainscotref1_Most_ok
end Go.Xr.Try
