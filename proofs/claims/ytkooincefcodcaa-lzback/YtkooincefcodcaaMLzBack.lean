import Derived.Test.YtkooincefcodcaaM
set_option linter.unusedVariables false
set_option maxRecDepth 100000
namespace Go.Xr.Try
open Go Go.Xr
noncomputable def LzBack_m (a0 : (List Int)) (a1 : Int) (a2 : (List Int)) : Option Bool :=
  if pLt 20 (pLen a0) then pBind (m_wainscotlaw7_awake) fun d289 => some d289.1 else if pLt a1 0 then pBind (m_wainscotlaw7_awake) fun d290 => some d290.1 else if pLt 3000 a1 then pBind (m_wainscotlaw7_awake) fun d291 => some d291.1 else if pLt 300 (pLen a2) then pBind (m_wainscotlaw7_awake) fun d292 => some d292.1 else pBind (m_wainscotalike_Row a0 a1) fun d293 => if pRoom (pIAdd (pLen d293.1) (pLen a2)) then pBind (m_lz_Pack (pApp d293.1 a2)) fun d294 => pBind (m_lz_Unpack d294.2.1) fun d295 => pBind (if pEq d294.1 0 then if pEq d295.1 0 then if pEqS d295.2.1 (pApp d293.1 a2) then pBind (m_lz_Most (pLen (pApp d293.1 a2))) fun d296 => if pLe (pLen d294.2.1) d296.1 then if pLe 2 (pLen d294.2.1) then pBind (m_wainscotlaw7_awake) fun d297 => some (d297.1, ()) else some (false, ()) else some (false, ()) else some (false, ()) else some (false, ()) else some (false, ())) fun d298 => some d298.1 else none
end Go.Xr.Try
