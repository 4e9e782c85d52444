import Derived.Test.YtkooincefcodcaaS
import Derived.Test.YtkooincefcodcaaMLzBack
set_option maxRecDepth 100000
namespace Go.Xr.Try
open Go Go.Xr
def LzBack_h : Hn := .seq (.nil) (.mark [] (.seq (.nil) (.cond (.seq (.nil) (.last [])) (.nil))) (.seq (.nil) (.seq (.nil) (.seq (.nil) (.join [1042001002, 1037001002, 1032001005] [1042001002, 1037001002, 1032001005] [⟨.normal, { tm := [.cst 0, .cst 1, .cst 2, .undef, .undef, .undef, .hole .bool, .cst 4, .cst 5, .cst 6, .cst 7, .cst 8, .undef, .undef, .undef, .undef, .undef, .undef, .undef, .undef, .undef, .undef, .undef, .undef, .undef, .undef, .undef, .undef, .undef, .undef, .undef, .undef, .undef, .undef, .undef, .undef, .undef, .undef, .undef, .undef, .undef, .undef, .undef, .undef, .undef, .undef, .undef, .undef, .undef, .undef, .undef, .undef, .undef, .undef, .undef, .undef, .undef, .undef, .undef, .undef, .undef, .undef, .undef, .undef, .undef, .undef, .undef, .undef, .undef, .undef, .undef, .undef, .undef], bx := [(1042001002, .cst 0), (1037001002, .cst 1), (1032001005, .cst 2)], up := [] }⟩] (.nil) (.last []))))))
theorem LzBack_model (d : HL [(.sl false (.int .i64)), (.int .i64), (.sl false (.int .u8))]) : lawRun K l_wainscotref1_Most LzBack_h 9 (HL.avs [(.sl false (.int .i64)), (.int .i64), (.sl false (.int .u8))] d) = LzBack_m (d).1 ((d).2).1 (((d).2).2).1 := by kernel_rfl
theorem LzBack_under : ∀ S ∈ l_wainscotref1_Most, S.OK Go.Proofs.Try.prog := l_wainscotref1_Most_ok
end Go.Xr.Try
