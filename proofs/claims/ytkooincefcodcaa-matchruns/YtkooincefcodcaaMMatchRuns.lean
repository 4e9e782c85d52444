import Derived.Test.YtkooincefcodcaaM
set_option linter.unusedVariables false
set_option maxRecDepth 100000
namespace Go.Xr.Try
open Go Go.Xr
noncomputable def s_MatchRuns_0 (a1 : Int) (d63 : (Int × Unit)) (d66 : (Int × ((List Int) × Unit))) : Option ((Int × ((List Int) × Unit)) ⊕ (Int × ((List Int) × Unit))) :=
  if pLt d66.1 a1 then if pNot (pEq (pAdd .i64 1 d63.1) 0) then if pRoom (pIAdd (pLen d66.2.1) (pLen [pWrap .u8 (pRem d66.1 (pAdd .i64 1 d63.1))])) then some (.inl (pAdd .i64 d66.1 1, (pApp d66.2.1 [pWrap .u8 (pRem d66.1 (pAdd .i64 1 d63.1))], ()))) else none else none else some (.inr (d66.1, (d66.2.1, ())))
noncomputable def MatchRuns_m (a0 : Int) (a1 : Int) (a2 : Int) : Option Bool :=
  pBind (m_wainscotalike_Round a0 40) fun d63 => if pLt a1 0 then pBind (m_wainscotlaw6_awake) fun d64 => some d64.1 else if pLt 900 a1 then pBind (m_wainscotlaw6_awake) fun d65 => some d65.1 else pBind (pIter (s_MatchRuns_0 a1 d63) (0, ([], ()))) fun d67 => pBind (m_match_New d67.2.1) fun d68 => pBind (m_wainscotalike_Round a2 (pAdd .i64 a1 1)) fun d69 => pBind (m_match_Finder_At d69.1 d68.1 d68.2.1) fun d70 => if pLt d69.1 (pAdd .i64 1 d63.1) then pBind (if pEq d70.1 0 then if pEq d70.2.1 0 then pBind (m_wainscotlaw6_awake) fun d71 => some (d71.1, ()) else some (false, ()) else some (false, ())) fun d72 => some d72.1 else if pLt (pSub .i64 a1 d69.1) 3 then pBind (if pEq d70.1 0 then if pEq d70.2.1 0 then pBind (m_wainscotlaw6_awake) fun d73 => some (d73.1, ()) else some (false, ()) else some (false, ())) fun d74 => some d74.1 else pBind (if pEq d70.1 (pAdd .i64 1 d63.1) then if pEq d70.2.1 (pMin (pSub .i64 a1 d69.1) 258) then pBind (m_wainscotlaw6_awake) fun d75 => some (d75.1, ()) else some (false, ()) else some (false, ())) fun d76 => some d76.1
end Go.Xr.Try
