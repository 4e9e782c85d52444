import Derived.Test.YtkooincefcodcaaM
set_option linter.unusedVariables false
set_option maxRecDepth 100000
namespace Go.Xr.Try
open Go Go.Xr
noncomputable def LzTells_m (a0 : (List Int)) (a1 : (List Int)) (a2 : Int) : Option Bool :=
  if pLt 500 (pLen a0) then pBind (m_wainscotlaw7_awake) fun d279 => some d279.1 else if pLt 300 (pLen a1) then pBind (m_wainscotlaw7_awake) fun d280 => some d280.1 else pBind (m_lz_Pack a0) fun d281 => pBind (m_wainscotref1_Pack a0) fun d282 => pBind (m_lz_Unpack a1) fun d283 => pBind (m_wainscotref1_Unpack a1) fun d284 => pBind (if pEqS d281.2.1 d282.2.1 then if pEq d281.1 d282.1 then if pEqS d283.2.1 d284.2.1 then if pEq d283.1 d284.1 then pBind (m_lz_Most a2) fun d285 => pBind (m_wainscotref1_Most a2) fun d286 => if pEq d285.1 d286.1 then pBind (m_wainscotlaw7_awake) fun d287 => some (d287.1, ()) else some (false, ()) else some (false, ()) else some (false, ()) else some (false, ()) else some (false, ())) fun d288 => some d288.1
end Go.Xr.Try
