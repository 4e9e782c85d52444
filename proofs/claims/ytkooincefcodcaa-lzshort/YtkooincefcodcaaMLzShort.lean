import Derived.Test.YtkooincefcodcaaM
set_option linter.unusedVariables false
set_option maxRecDepth 100000
namespace Go.Xr.Try
open Go Go.Xr
noncomputable def s_LzShort_0 (a1 : Int) (a0 : Int) (d326 : (Int × ((List Int) × Unit))) : Option ((Int × ((List Int) × Unit)) ⊕ (Int × ((List Int) × Unit))) :=
  if pLt d326.1 a1 then if pIn d326.1 (pLen d326.2.1) then some (.inl (pAdd .i64 d326.1 1, (pSet d326.2.1 d326.1 a0, ()))) else none else some (.inr (d326.1, (d326.2.1, ())))
noncomputable def s_LzShort_1  (d328 : (Int × (Int × Unit))) : Option ((Int × (Int × Unit)) ⊕ (Int × (Int × Unit))) :=
  if pLe 3 d328.1 then some (.inl (pSub .i64 d328.1 (pMin d328.1 258), (pAdd .i64 d328.2.1 21, ()))) else some (.inr (d328.1, (d328.2.1, ())))
noncomputable def LzShort_m (a0 : Int) (a1 : Int) : Option Bool :=
  if pLt a1 1 then pBind (m_wainscotlaw7_awake) fun d324 => some d324.1 else if pLt 3000 a1 then pBind (m_wainscotlaw7_awake) fun d325 => some d325.1 else if pSize a1 a1 then pBind (pIter (s_LzShort_0 a1 a0) (0, (pRep a1 0, ()))) fun d327 => pBind (pIter (s_LzShort_1) (pSub .i64 a1 1, (25, ()))) fun d329 => pBind (m_lz_Pack d327.2.1) fun d330 => pBind (m_lz_Unpack d330.2.1) fun d331 => pBind (if pEq d330.1 0 then if pNot (pEq 8 0) then if pEq (pLen d330.2.1) (pQuo .i64 (pAdd .i64 (pAdd .i64 d329.2.1 (pMul .i64 9 d329.1)) 7) 8) then if pEq d331.1 0 then if pEqS d331.2.1 d327.2.1 then pBind (m_wainscotlaw7_awake) fun d332 => some (d332.1, ()) else some (false, ()) else some (false, ()) else some (false, ()) else none else some (false, ())) fun d333 => some d333.1 else none
end Go.Xr.Try
