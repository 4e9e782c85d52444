import Derived.Test.YtjidecalfabkbaaX5
import Derived.Sort.AssemblyPlain
/- the executor, part 6 -/
set_option linter.unusedVariables false
set_option linter.unusedSimpArgs false
set_option linter.unusedSectionVars false
set_option maxRecDepth 100000
set_option maxHeartbeats 1600000
namespace Go.Xr
open Go Go.Sort
noncomputable def g_bits_Len64 (p0 : Int) : Option (Int × Unit) :=
  pBind (if pLe 4294967296 p0 then if pLe 0 32 then some (pShr .u64 p0 32, (32, ())) else none else some (p0, (0, ()))) fun d31 => pBind (if pLe 65536 d31.1 then if pLe 0 16 then some (pShr .u64 d31.1 16, (pAdd .i64 d31.2.1 16, ())) else none else some (d31.1, (d31.2.1, ()))) fun d32 => pBind (if pLe 256 d32.1 then if pLe 0 8 then some (pShr .u64 d32.1 8, (pAdd .i64 d32.2.1 8, ())) else none else some (d32.1, (d32.2.1, ()))) fun d33 => if pIn (pWrap .u8 d33.1) (pLen [0, 1, 2, 2, 3, 3, 3, 3, 4, 4, 4, 4, 4, 4, 4, 4, 5, 5, 5, 5, 5, 5, 5, 5, 5, 5, 5, 5, 5, 5, 5, 5, 6, 6, 6, 6, 6, 6, 6, 6, 6, 6, 6, 6, 6, 6, 6, 6, 6, 6, 6, 6, 6, 6, 6, 6, 6, 6, 6, 6, 6, 6, 6, 6, 7, 7, 7, 7, 7, 7, 7, 7, 7, 7, 7, 7, 7, 7, 7, 7, 7, 7, 7, 7, 7, 7, 7, 7, 7, 7, 7, 7, 7, 7, 7, 7, 7, 7, 7, 7, 7, 7, 7, 7, 7, 7, 7, 7, 7, 7, 7, 7, 7, 7, 7, 7, 7, 7, 7, 7, 7, 7, 7, 7, 7, 7, 7, 7, 8, 8, 8, 8, 8, 8, 8, 8, 8, 8, 8, 8, 8, 8, 8, 8, 8, 8, 8, 8, 8, 8, 8, 8, 8, 8, 8, 8, 8, 8, 8, 8, 8, 8, 8, 8, 8, 8, 8, 8, 8, 8, 8, 8, 8, 8, 8, 8, 8, 8, 8, 8, 8, 8, 8, 8, 8, 8, 8, 8, 8, 8, 8, 8, 8, 8, 8, 8, 8, 8, 8, 8, 8, 8, 8, 8, 8, 8, 8, 8, 8, 8, 8, 8, 8, 8, 8, 8, 8, 8, 8, 8, 8, 8, 8, 8, 8, 8, 8, 8, 8, 8, 8, 8, 8, 8, 8, 8, 8, 8, 8, 8, 8, 8, 8, 8, 8, 8, 8, 8, 8, 8, 8, 8, 8, 8, 8, 8]) then some (pAdd .i64 d33.2.1 (pWrap .i64 (pGet 0 [0, 1, 2, 2, 3, 3, 3, 3, 4, 4, 4, 4, 4, 4, 4, 4, 5, 5, 5, 5, 5, 5, 5, 5, 5, 5, 5, 5, 5, 5, 5, 5, 6, 6, 6, 6, 6, 6, 6, 6, 6, 6, 6, 6, 6, 6, 6, 6, 6, 6, 6, 6, 6, 6, 6, 6, 6, 6, 6, 6, 6, 6, 6, 6, 7, 7, 7, 7, 7, 7, 7, 7, 7, 7, 7, 7, 7, 7, 7, 7, 7, 7, 7, 7, 7, 7, 7, 7, 7, 7, 7, 7, 7, 7, 7, 7, 7, 7, 7, 7, 7, 7, 7, 7, 7, 7, 7, 7, 7, 7, 7, 7, 7, 7, 7, 7, 7, 7, 7, 7, 7, 7, 7, 7, 7, 7, 7, 7, 8, 8, 8, 8, 8, 8, 8, 8, 8, 8, 8, 8, 8, 8, 8, 8, 8, 8, 8, 8, 8, 8, 8, 8, 8, 8, 8, 8, 8, 8, 8, 8, 8, 8, 8, 8, 8, 8, 8, 8, 8, 8, 8, 8, 8, 8, 8, 8, 8, 8, 8, 8, 8, 8, 8, 8, 8, 8, 8, 8, 8, 8, 8, 8, 8, 8, 8, 8, 8, 8, 8, 8, 8, 8, 8, 8, 8, 8, 8, 8, 8, 8, 8, 8, 8, 8, 8, 8, 8, 8, 8, 8, 8, 8, 8, 8, 8, 8, 8, 8, 8, 8, 8, 8, 8, 8, 8, 8, 8, 8, 8, 8, 8, 8, 8, 8, 8, 8, 8, 8, 8, 8, 8, 8, 8, 8, 8, 8] (pWrap .u8 d33.1))), ()) else none
noncomputable def g_bits_Len (p0 : Int) : Option (Int × Unit) :=
  pBind (g_bits_Len64 p0) fun d34 => some (d34.1, ())
noncomputable def g_nextPowerOfTwo (p0 : Int) : Option (Int × Unit) :=
  pBind (g_bits_Len (pWrap .u64 p0)) fun d38 => if pLe 0 d38.1 then some (pShl .u64 1 d38.1, ()) else none
noncomputable def g_xorshift_Next (p0 : Int) : Option (Int × (Int × Unit)) :=
  if pLe 0 13 then if pLe 0 7 then if pLe 0 17 then some (pXor .u64 (pXor .u64 (pXor .u64 p0 (pShl .u64 p0 13)) (pShr .u64 (pXor .u64 p0 (pShl .u64 p0 13)) 7)) (pShl .u64 (pXor .u64 (pXor .u64 p0 (pShl .u64 p0 13)) (pShr .u64 (pXor .u64 p0 (pShl .u64 p0 13)) 7)) 17), (pXor .u64 (pXor .u64 (pXor .u64 p0 (pShl .u64 p0 13)) (pShr .u64 (pXor .u64 p0 (pShl .u64 p0 13)) 7)) (pShl .u64 (pXor .u64 (pXor .u64 p0 (pShl .u64 p0 13)) (pShr .u64 (pXor .u64 p0 (pShl .u64 p0 13)) 7)) 17), ())) else none else none else none
noncomputable def gm_order2 {α : Type} (z : α) (cmp : α → α → Option (Int × Unit)) (p0 : (List α)) (p1 : Int) (p2 : Int) (p3 : Int) : Option (Int × (Int × (Int × Unit))) :=
  if pIn p2 (pLen p0) then if pIn p1 (pLen p0) then pBind (cmp (pGet z p0 p2) (pGet z p0 p1)) fun d39 => if pLt d39.1 0 then some (p2, (p1, (pAdd .i64 p3 1, ()))) else some (p1, (p2, (p3, ()))) else none else none
noncomputable def gm_median {α : Type} (z : α) (cmp : α → α → Option (Int × Unit)) (p0 : (List α)) (p1 : Int) (p2 : Int) (p3 : Int) (p4 : Int) : Option (Int × (Int × Unit)) :=
  pBind (gm_order2 z cmp p0 p1 p2 p4) fun d40 => pBind (gm_order2 z cmp p0 d40.2.1 p3 d40.2.2.1) fun d41 => pBind (gm_order2 z cmp p0 d40.1 d41.1 d41.2.2.1) fun d42 => some (d42.2.1, (d42.2.2.1, ()))
noncomputable def gm_medianAdjacent {α : Type} (z : α) (cmp : α → α → Option (Int × Unit)) (p0 : (List α)) (p1 : Int) (p2 : Int) : Option (Int × (Int × Unit)) :=
  pBind (gm_median z cmp p0 (pSub .i64 p1 1) p1 (pAdd .i64 p1 1) p2) fun d43 => some (d43.1, (d43.2.1, ()))
noncomputable def gm_choosePivot {α : Type} (z : α) (cmp : α → α → Option (Int × Unit)) (p0 : (List α)) (p1 : Int) (p2 : Int) : Option (Int × (Int × Unit)) :=
  if pNot (pEq 4 0) then if pNot (pEq 4 0) then if pNot (pEq 4 0) then pBind (if pLe 8 (pSub .i64 p2 p1) then pBind (if pLe 50 (pSub .i64 p2 p1) then pBind (gm_medianAdjacent z cmp p0 (pAdd .i64 p1 (pMul .i64 (pQuo .i64 (pSub .i64 p2 p1) 4) 1)) 0) fun d44 => pBind (gm_medianAdjacent z cmp p0 (pAdd .i64 p1 (pMul .i64 (pQuo .i64 (pSub .i64 p2 p1) 4) 2)) d44.2.1) fun d45 => pBind (gm_medianAdjacent z cmp p0 (pAdd .i64 p1 (pMul .i64 (pQuo .i64 (pSub .i64 p2 p1) 4) 3)) d45.2.1) fun d46 => some (d44.1, (d45.1, (d46.1, (d46.2.1, ())))) else some (pAdd .i64 p1 (pMul .i64 (pQuo .i64 (pSub .i64 p2 p1) 4) 1), (pAdd .i64 p1 (pMul .i64 (pQuo .i64 (pSub .i64 p2 p1) 4) 2), (pAdd .i64 p1 (pMul .i64 (pQuo .i64 (pSub .i64 p2 p1) 4) 3), (0, ()))))) fun d47 => pBind (gm_median z cmp p0 d47.1 d47.2.1 d47.2.2.1 d47.2.2.2.1) fun d48 => some (d47.1, (d48.1, (d47.2.2.1, (d48.2.1, ())))) else some (pAdd .i64 p1 (pMul .i64 (pQuo .i64 (pSub .i64 p2 p1) 4) 1), (pAdd .i64 p1 (pMul .i64 (pQuo .i64 (pSub .i64 p2 p1) 4) 2), (pAdd .i64 p1 (pMul .i64 (pQuo .i64 (pSub .i64 p2 p1) 4) 3), (0, ()))))) fun d49 => if pEq d49.2.2.2.1 0 then some (d49.2.1, (1, ())) else if pEq d49.2.2.2.1 12 then some (d49.2.1, (2, ())) else some (d49.2.1, (0, ())) else none else none else none
noncomputable def gs_insertionSort_0 {α : Type} (z : α) (cmp : α → α → Option (Int × Unit)) (p0 : Int) (d51 : (Int × ((List α) × Unit))) : Option ((Int × ((List α) × Unit)) ⊕ (Int × ((List α) × Unit))) :=
  pBind (if pLt p0 d51.1 then if pIn d51.1 (pLen d51.2.1) then if pIn (pSub .i64 d51.1 1) (pLen d51.2.1) then pBind (cmp (pGet z d51.2.1 d51.1) (pGet z d51.2.1 (pSub .i64 d51.1 1))) fun d52 => some (pLt d52.1 0, ()) else none else none else some (false, ())) fun d53 => if d53.1 then if pIn (pSub .i64 d51.1 1) (pLen d51.2.1) then if pIn d51.1 (pLen d51.2.1) then if pIn d51.1 (pLen d51.2.1) then if pIn (pSub .i64 d51.1 1) (pLen (pSet d51.2.1 d51.1 (pGet z d51.2.1 (pSub .i64 d51.1 1)))) then some (.inl (pSub .i64 d51.1 1, (pSet (pSet d51.2.1 d51.1 (pGet z d51.2.1 (pSub .i64 d51.1 1))) (pSub .i64 d51.1 1) (pGet z d51.2.1 d51.1), ()))) else none else none else none else none else some (.inr (d51.1, (d51.2.1, ())))
noncomputable def gs_insertionSort_1 {α : Type} (z : α) (cmp : α → α → Option (Int × Unit)) (p1 : Int) (p0 : Int) (d50 : (Int × ((List α) × Unit))) : Option ((Int × ((List α) × Unit)) ⊕ (Int × ((List α) × Unit))) :=
  if pLt d50.1 p1 then pBind (pIter (gs_insertionSort_0 z cmp p0) (d50.1, (d50.2.1, ()))) fun d54 => some (.inl (pAdd .i64 d50.1 1, (d54.2.1, ()))) else some (.inr (d50.1, (d50.2.1, ())))
noncomputable def gm_insertionSort {α : Type} (z : α) (cmp : α → α → Option (Int × Unit)) (p0 : Int) (p1 : Int) (p2 : (List α)) : Option ((List α) × Unit) :=
  pBind (pIter (gs_insertionSort_1 z cmp p1 p0) (pAdd .i64 p0 1, (p2, ()))) fun d55 => some (d55.2.1, ())
noncomputable def gs_siftDown_0 {α : Type} (z : α) (cmp : α → α → Option (Int × Unit)) (p1 : Int) (p2 : Int) (d56 : (Int × ((List α) × Unit))) : Option ((Int × ((List α) × Unit)) ⊕ ((Int × (Int × ((List α) × Unit))) ⊕ ((List α) × Unit))) :=
  if pLe p1 (pAdd .i64 (pMul .i64 2 d56.1) 1) then some (.inr (.inl (d56.1, (pAdd .i64 (pMul .i64 2 d56.1) 1, (d56.2.1, ()))))) else pBind (pBind (if pLt (pAdd .i64 (pAdd .i64 (pMul .i64 2 d56.1) 1) 1) p1 then if pIn (pAdd .i64 p2 (pAdd .i64 (pMul .i64 2 d56.1) 1)) (pLen d56.2.1) then if pIn (pAdd .i64 (pAdd .i64 p2 (pAdd .i64 (pMul .i64 2 d56.1) 1)) 1) (pLen d56.2.1) then pBind (cmp (pGet z d56.2.1 (pAdd .i64 p2 (pAdd .i64 (pMul .i64 2 d56.1) 1))) (pGet z d56.2.1 (pAdd .i64 (pAdd .i64 p2 (pAdd .i64 (pMul .i64 2 d56.1) 1)) 1))) fun d57 => some (pLt d57.1 0, ()) else none else none else some (false, ())) fun d58 => if d58.1 then some (pAdd .i64 (pAdd .i64 (pMul .i64 2 d56.1) 1) 1, ()) else some (pAdd .i64 (pMul .i64 2 d56.1) 1, ())) fun d59 => if pIn (pAdd .i64 p2 d56.1) (pLen d56.2.1) then if pIn (pAdd .i64 p2 d59.1) (pLen d56.2.1) then pBind (cmp (pGet z d56.2.1 (pAdd .i64 p2 d56.1)) (pGet z d56.2.1 (pAdd .i64 p2 d59.1))) fun d60 => if pNot (pLt d60.1 0) then some (.inr (.inr (d56.2.1, ()))) else if pIn (pAdd .i64 p2 d59.1) (pLen d56.2.1) then if pIn (pAdd .i64 p2 d56.1) (pLen d56.2.1) then if pIn (pAdd .i64 p2 d56.1) (pLen d56.2.1) then if pIn (pAdd .i64 p2 d59.1) (pLen (pSet d56.2.1 (pAdd .i64 p2 d56.1) (pGet z d56.2.1 (pAdd .i64 p2 d59.1)))) then some (.inl (d59.1, (pSet (pSet d56.2.1 (pAdd .i64 p2 d56.1) (pGet z d56.2.1 (pAdd .i64 p2 d59.1))) (pAdd .i64 p2 d59.1) (pGet z d56.2.1 (pAdd .i64 p2 d56.1)), ()))) else none else none else none else none else none else none
noncomputable def gm_siftDown {α : Type} (z : α) (cmp : α → α → Option (Int × Unit)) (p0 : Int) (p1 : Int) (p2 : Int) (p3 : (List α)) : Option ((List α) × Unit) :=
  pBind (pIter (gs_siftDown_0 z cmp p1 p2) (p0, (p3, ())) : Option ((Int × (Int × ((List α) × Unit))) ⊕ ((List α) × Unit))) fun d61 => pCase d61 (fun d62 => some (d62.2.2.1, ())) (fun d63 => some (d63.1, ()))
noncomputable def gs_heapSort_0 {α : Type} (z : α) (cmp : α → α → Option (Int × Unit)) (p1 : Int) (p0 : Int) (d64 : (Int × ((List α) × Unit))) : Option ((Int × ((List α) × Unit)) ⊕ (Int × ((List α) × Unit))) :=
  if pLe 0 d64.1 then pBind (gm_siftDown z cmp d64.1 (pSub .i64 p1 p0) p0 d64.2.1) fun d65 => some (.inl (pSub .i64 d64.1 1, (d65.1, ()))) else some (.inr (d64.1, (d64.2.1, ())))
noncomputable def gs_heapSort_1 {α : Type} (z : α) (cmp : α → α → Option (Int × Unit)) (p0 : Int) (d67 : (Int × ((List α) × Unit))) : Option ((Int × ((List α) × Unit)) ⊕ (Int × ((List α) × Unit))) :=
  if pLe 0 d67.1 then if pIn (pAdd .i64 p0 d67.1) (pLen d67.2.1) then if pIn p0 (pLen d67.2.1) then if pIn p0 (pLen d67.2.1) then if pIn (pAdd .i64 p0 d67.1) (pLen (pSet d67.2.1 p0 (pGet z d67.2.1 (pAdd .i64 p0 d67.1)))) then pBind (gm_siftDown z cmp 0 d67.1 p0 (pSet (pSet d67.2.1 p0 (pGet z d67.2.1 (pAdd .i64 p0 d67.1))) (pAdd .i64 p0 d67.1) (pGet z d67.2.1 p0))) fun d68 => some (.inl (pSub .i64 d67.1 1, (d68.1, ()))) else none else none else none else none else some (.inr (d67.1, (d67.2.1, ())))
noncomputable def gm_heapSort {α : Type} (z : α) (cmp : α → α → Option (Int × Unit)) (p0 : Int) (p1 : Int) (p2 : (List α)) : Option ((List α) × Unit) :=
  if pNot (pEq 2 0) then pBind (pIter (gs_heapSort_0 z cmp p1 p0) (pQuo .i64 (pSub .i64 (pSub .i64 p1 p0) 1) 2, (p2, ()))) fun d66 => pBind (pIter (gs_heapSort_1 z cmp p0) (pSub .i64 (pSub .i64 p1 p0) 1, (d66.2.1, ()))) fun d69 => some (d69.2.1, ()) else none
noncomputable def gs_breakPatterns_0 {α : Type} (z : α) (cmp : α → α → Option (Int × Unit)) (p0 : Int) (p1 : Int) (d70 : (Int × Unit)) (d71 : (Int × ((List α) × (Int × Unit)))) : Option ((Int × ((List α) × (Int × Unit))) ⊕ (Int × ((List α) × (Int × Unit)))) :=
  if pNot (pEq 4 0) then if pLe d71.1 (pAdd .i64 (pAdd .i64 p0 (pMul .i64 (pQuo .i64 (pSub .i64 p1 p0) 4) 2)) 1) then pBind (g_xorshift_Next d71.2.2.1) fun d72 => pBind (if pLe (pSub .i64 p1 p0) (pWrap .i64 (pAnd .u64 d72.1 (pSub .u64 d70.1 1))) then some (pSub .i64 (pWrap .i64 (pAnd .u64 d72.1 (pSub .u64 d70.1 1))) (pSub .i64 p1 p0), ()) else some (pWrap .i64 (pAnd .u64 d72.1 (pSub .u64 d70.1 1)), ())) fun d73 => if pIn (pAdd .i64 p0 d73.1) (pLen d71.2.1) then if pIn d71.1 (pLen d71.2.1) then if pIn d71.1 (pLen d71.2.1) then if pIn (pAdd .i64 p0 d73.1) (pLen (pSet d71.2.1 d71.1 (pGet z d71.2.1 (pAdd .i64 p0 d73.1)))) then some (.inl (pAdd .i64 d71.1 1, (pSet (pSet d71.2.1 d71.1 (pGet z d71.2.1 (pAdd .i64 p0 d73.1))) (pAdd .i64 p0 d73.1) (pGet z d71.2.1 d71.1), (d72.2.1, ())))) else none else none else none else none else some (.inr (d71.1, (d71.2.1, (d71.2.2.1, ())))) else none
noncomputable def gm_breakPatterns {α : Type} (z : α) (cmp : α → α → Option (Int × Unit)) (p0 : Int) (p1 : Int) (p2 : (List α)) : Option (((List α) × (Int × Unit)) ⊕ ((List α) × Unit)) :=
  if pLe 8 (pSub .i64 p1 p0) then pBind (g_nextPowerOfTwo (pSub .i64 p1 p0)) fun d70 => if pNot (pEq 4 0) then pBind (pIter (gs_breakPatterns_0 z cmp p0 p1 d70) (pSub .i64 (pAdd .i64 p0 (pMul .i64 (pQuo .i64 (pSub .i64 p1 p0) 4) 2)) 1, (p2, (pWrap .u64 (pSub .i64 p1 p0), ())))) fun d74 => some (.inl (d74.2.1, (d74.2.2.1, ()))) else none else some (.inr (p2, ()))
noncomputable def gs_reverseRange_0 {α : Type} (z : α) (cmp : α → α → Option (Int × Unit)) (d75 : (Int × (Int × ((List α) × Unit)))) : Option ((Int × (Int × ((List α) × Unit))) ⊕ (Int × (Int × ((List α) × Unit)))) :=
  if pLt d75.1 d75.2.1 then if pIn d75.2.1 (pLen d75.2.2.1) then if pIn d75.1 (pLen d75.2.2.1) then if pIn d75.1 (pLen d75.2.2.1) then if pIn d75.2.1 (pLen (pSet d75.2.2.1 d75.1 (pGet z d75.2.2.1 d75.2.1))) then some (.inl (pAdd .i64 d75.1 1, (pSub .i64 d75.2.1 1, (pSet (pSet d75.2.2.1 d75.1 (pGet z d75.2.2.1 d75.2.1)) d75.2.1 (pGet z d75.2.2.1 d75.1), ())))) else none else none else none else none else some (.inr (d75.1, (d75.2.1, (d75.2.2.1, ()))))
noncomputable def gm_reverseRange {α : Type} (z : α) (cmp : α → α → Option (Int × Unit)) (p0 : Int) (p1 : Int) (p2 : (List α)) : Option ((List α) × Unit) :=
  pBind (pIter (gs_reverseRange_0 z cmp) (p0, (pSub .i64 p1 1, (p2, ())))) fun d76 => some (d76.2.2.1, ())
noncomputable def gs_partialInsertionSort_0 {α : Type} (z : α) (cmp : α → α → Option (Int × Unit)) (p1 : Int) (d77 : (Int × (Int × ((List α) × Unit)))) (d78 : (Int × Unit)) : Option ((Int × Unit) ⊕ (Int × Unit)) :=
  pBind (if pLt d78.1 p1 then if pIn d78.1 (pLen d77.2.2.1) then if pIn (pSub .i64 d78.1 1) (pLen d77.2.2.1) then pBind (cmp (pGet z d77.2.2.1 d78.1) (pGet z d77.2.2.1 (pSub .i64 d78.1 1))) fun d79 => some (pNot (pLt d79.1 0), ()) else none else none else some (false, ())) fun d80 => if d80.1 then some (.inl (pAdd .i64 d78.1 1, ())) else some (.inr (d78.1, ()))
noncomputable def gs_partialInsertionSort_1 {α : Type} (z : α) (cmp : α → α → Option (Int × Unit)) (d82 : (Int × ((List α) × Unit))) : Option ((Int × ((List α) × Unit)) ⊕ (Int × ((List α) × Unit))) :=
  if pLe 1 d82.1 then if pIn d82.1 (pLen d82.2.1) then if pIn (pSub .i64 d82.1 1) (pLen d82.2.1) then pBind (cmp (pGet z d82.2.1 d82.1) (pGet z d82.2.1 (pSub .i64 d82.1 1))) fun d83 => if pNot (pLt d83.1 0) then some (.inr (d82.1, (d82.2.1, ()))) else if pIn (pSub .i64 d82.1 1) (pLen d82.2.1) then if pIn d82.1 (pLen d82.2.1) then if pIn d82.1 (pLen d82.2.1) then if pIn (pSub .i64 d82.1 1) (pLen (pSet d82.2.1 d82.1 (pGet z d82.2.1 (pSub .i64 d82.1 1)))) then some (.inl (pSub .i64 d82.1 1, (pSet (pSet d82.2.1 d82.1 (pGet z d82.2.1 (pSub .i64 d82.1 1))) (pSub .i64 d82.1 1) (pGet z d82.2.1 d82.1), ()))) else none else none else none else none else none else none else some (.inr (d82.1, (d82.2.1, ())))
noncomputable def gs_partialInsertionSort_2 {α : Type} (z : α) (cmp : α → α → Option (Int × Unit)) (p1 : Int) (d87 : (Int × ((List α) × Unit))) : Option ((Int × ((List α) × Unit)) ⊕ (Int × ((List α) × Unit))) :=
  if pLt d87.1 p1 then if pIn d87.1 (pLen d87.2.1) then if pIn (pSub .i64 d87.1 1) (pLen d87.2.1) then pBind (cmp (pGet z d87.2.1 d87.1) (pGet z d87.2.1 (pSub .i64 d87.1 1))) fun d88 => if pNot (pLt d88.1 0) then some (.inr (d87.1, (d87.2.1, ()))) else if pIn (pSub .i64 d87.1 1) (pLen d87.2.1) then if pIn d87.1 (pLen d87.2.1) then if pIn d87.1 (pLen d87.2.1) then if pIn (pSub .i64 d87.1 1) (pLen (pSet d87.2.1 d87.1 (pGet z d87.2.1 (pSub .i64 d87.1 1)))) then some (.inl (pAdd .i64 d87.1 1, (pSet (pSet d87.2.1 d87.1 (pGet z d87.2.1 (pSub .i64 d87.1 1))) (pSub .i64 d87.1 1) (pGet z d87.2.1 d87.1), ()))) else none else none else none else none else none else none else some (.inr (d87.1, (d87.2.1, ())))
noncomputable def gs_partialInsertionSort_3 {α : Type} (z : α) (cmp : α → α → Option (Int × Unit)) (p1 : Int) (d91 : (Int × ((List α) × Unit))) : Option ((Int × ((List α) × Unit)) ⊕ (Int × ((List α) × Unit))) :=
  if pLt d91.1 p1 then if pIn d91.1 (pLen d91.2.1) then if pIn (pSub .i64 d91.1 1) (pLen d91.2.1) then pBind (cmp (pGet z d91.2.1 d91.1) (pGet z d91.2.1 (pSub .i64 d91.1 1))) fun d92 => if pNot (pLt d92.1 0) then some (.inr (d91.1, (d91.2.1, ()))) else if pIn (pSub .i64 d91.1 1) (pLen d91.2.1) then if pIn d91.1 (pLen d91.2.1) then if pIn d91.1 (pLen d91.2.1) then if pIn (pSub .i64 d91.1 1) (pLen (pSet d91.2.1 d91.1 (pGet z d91.2.1 (pSub .i64 d91.1 1)))) then some (.inl (pAdd .i64 d91.1 1, (pSet (pSet d91.2.1 d91.1 (pGet z d91.2.1 (pSub .i64 d91.1 1))) (pSub .i64 d91.1 1) (pGet z d91.2.1 d91.1), ()))) else none else none else none else none else none else none else some (.inr (d91.1, (d91.2.1, ())))
noncomputable def gs_partialInsertionSort_4 {α : Type} (z : α) (cmp : α → α → Option (Int × Unit)) (p1 : Int) (p0 : Int) (d77 : (Int × (Int × ((List α) × Unit)))) : Option ((Int × (Int × ((List α) × Unit))) ⊕ ((Bool × ((List α) × Unit)) ⊕ (Int × (Int × ((List α) × Unit))))) :=
  if pLt d77.2.1 5 then pBind (pBind (pIter (gs_partialInsertionSort_0 z cmp p1 d77) (d77.1, ())) fun d81 => if pEq d81.1 p1 then some (.inl (true, ())) else if pLt (pSub .i64 p1 p0) 50 then some (.inl (false, ())) else if pIn (pSub .i64 d81.1 1) (pLen d77.2.2.1) then if pIn d81.1 (pLen d77.2.2.1) then if pIn d81.1 (pLen d77.2.2.1) then if pIn (pSub .i64 d81.1 1) (pLen (pSet d77.2.2.1 d81.1 (pGet z d77.2.2.1 (pSub .i64 d81.1 1)))) then pBind (if pLe 2 (pSub .i64 d81.1 p0) then pBind (pIter (gs_partialInsertionSort_1 z cmp) (pSub .i64 d81.1 1, (pSet (pSet d77.2.2.1 d81.1 (pGet z d77.2.2.1 (pSub .i64 d81.1 1))) (pSub .i64 d81.1 1) (pGet z d77.2.2.1 d81.1), ()))) fun d84 => some (.inl (d84.1, (d84.2.1, ()))) else some (.inr (pSet (pSet d77.2.2.1 d81.1 (pGet z d77.2.2.1 (pSub .i64 d81.1 1))) (pSub .i64 d81.1 1) (pGet z d77.2.2.1 d81.1), ())) : Option ((Int × ((List α) × Unit)) ⊕ ((List α) × Unit))) fun d85 => pCase d85 (fun d86 => if pLe 2 (pSub .i64 p1 d81.1) then pBind (pIter (gs_partialInsertionSort_2 z cmp p1) (pAdd .i64 d81.1 1, (d86.2.1, ()))) fun d89 => some (.inr (.inr (.inl (d81.1, (d89.1, (d89.2.1, ())))))) else some (.inr (.inl (d81.1, (d86.1, (d86.2.1, ())))))) (fun d90 => if pLe 2 (pSub .i64 p1 d81.1) then pBind (pIter (gs_partialInsertionSort_3 z cmp p1) (pAdd .i64 d81.1 1, (d90.1, ()))) fun d93 => some (.inr (.inr (.inl (d81.1, (d93.1, (d93.2.1, ())))))) else some (.inr (.inr (.inr (d81.1, (d90.1, ())))))) else none else none else none else none : Option ((Bool × Unit) ⊕ ((Int × (Int × ((List α) × Unit))) ⊕ ((Int × (Int × ((List α) × Unit))) ⊕ (Int × ((List α) × Unit)))))) fun d94 => pCase d94 (fun d95 => some (.inr (.inl (d95.1, (d77.2.2.1, ()))))) (fun d96 => pCase d96 (fun d97 => some (.inl (d97.1, (pAdd .i64 d77.2.1 1, (d97.2.2.1, ()))))) (fun d98 => pCase d98 (fun d99 => some (.inl (d99.1, (pAdd .i64 d77.2.1 1, (d99.2.2.1, ()))))) (fun d100 => some (.inl (d100.1, (pAdd .i64 d77.2.1 1, (d100.2.1, ()))))))) else some (.inr (.inr (d77.1, (d77.2.1, (d77.2.2.1, ())))))
noncomputable def gm_partialInsertionSort {α : Type} (z : α) (cmp : α → α → Option (Int × Unit)) (p0 : Int) (p1 : Int) (p2 : (List α)) : Option (Bool × ((List α) × Unit)) :=
  pBind (pIter (gs_partialInsertionSort_4 z cmp p1 p0) (pAdd .i64 p0 1, (0, (p2, ()))) : Option ((Bool × ((List α) × Unit)) ⊕ (Int × (Int × ((List α) × Unit))))) fun d101 => pCase d101 (fun d102 => some (d102.1, (d102.2.1, ()))) (fun d103 => some (false, (d103.2.2.1, ())))
noncomputable def gs_partitionEqual_0 {α : Type} (z : α) (cmp : α → α → Option (Int × Unit)) (d104 : (Int × (Int × ((List α) × Unit)))) (p0 : Int) (d105 : (Int × Unit)) : Option ((Int × Unit) ⊕ (Int × Unit)) :=
  pBind (if pLe d105.1 d104.2.1 then if pIn p0 (pLen d104.2.2.1) then if pIn d105.1 (pLen d104.2.2.1) then pBind (cmp (pGet z d104.2.2.1 p0) (pGet z d104.2.2.1 d105.1)) fun d106 => some (pNot (pLt d106.1 0), ()) else none else none else some (false, ())) fun d107 => if d107.1 then some (.inl (pAdd .i64 d105.1 1, ())) else some (.inr (d105.1, ()))
noncomputable def gs_partitionEqual_1 {α : Type} (z : α) (cmp : α → α → Option (Int × Unit)) (d108 : (Int × Unit)) (p0 : Int) (d104 : (Int × (Int × ((List α) × Unit)))) (d109 : (Int × Unit)) : Option ((Int × Unit) ⊕ (Int × Unit)) :=
  pBind (if pLe d108.1 d109.1 then if pIn p0 (pLen d104.2.2.1) then if pIn d109.1 (pLen d104.2.2.1) then pBind (cmp (pGet z d104.2.2.1 p0) (pGet z d104.2.2.1 d109.1)) fun d110 => some (pLt d110.1 0, ()) else none else none else some (false, ())) fun d111 => if d111.1 then some (.inl (pSub .i64 d109.1 1, ())) else some (.inr (d109.1, ()))
noncomputable def gs_partitionEqual_2 {α : Type} (z : α) (cmp : α → α → Option (Int × Unit)) (p0 : Int) (d104 : (Int × (Int × ((List α) × Unit)))) : Option ((Int × (Int × ((List α) × Unit))) ⊕ (Int × (Int × ((List α) × Unit)))) :=
  pBind (pIter (gs_partitionEqual_0 z cmp d104 p0) (d104.1, ())) fun d108 => pBind (pIter (gs_partitionEqual_1 z cmp d108 p0 d104) (d104.2.1, ())) fun d112 => if pLt d112.1 d108.1 then some (.inr (d108.1, (d112.1, (d104.2.2.1, ())))) else if pIn d112.1 (pLen d104.2.2.1) then if pIn d108.1 (pLen d104.2.2.1) then if pIn d108.1 (pLen d104.2.2.1) then if pIn d112.1 (pLen (pSet d104.2.2.1 d108.1 (pGet z d104.2.2.1 d112.1))) then some (.inl (pAdd .i64 d108.1 1, (pSub .i64 d112.1 1, (pSet (pSet d104.2.2.1 d108.1 (pGet z d104.2.2.1 d112.1)) d112.1 (pGet z d104.2.2.1 d108.1), ())))) else none else none else none else none
noncomputable def gm_partitionEqual {α : Type} (z : α) (cmp : α → α → Option (Int × Unit)) (p0 : Int) (p1 : Int) (p2 : Int) (p3 : (List α)) : Option (Int × ((List α) × Unit)) :=
  if pIn p2 (pLen p3) then if pIn p0 (pLen p3) then if pIn p0 (pLen p3) then if pIn p2 (pLen (pSet p3 p0 (pGet z p3 p2))) then pBind (pIter (gs_partitionEqual_2 z cmp p0) (pAdd .i64 p0 1, (pSub .i64 p1 1, (pSet (pSet p3 p0 (pGet z p3 p2)) p2 (pGet z p3 p0), ())))) fun d113 => some (d113.1, (d113.2.2.1, ())) else none else none else none else none
noncomputable def gs_partition_0 {α : Type} (z : α) (cmp : α → α → Option (Int × Unit)) (p1 : Int) (p3 : (List α)) (p0 : Int) (p2 : Int) (d114 : (Int × Unit)) : Option ((Int × Unit) ⊕ (Int × Unit)) :=
  pBind (if pLe d114.1 (pSub .i64 p1 1) then if pIn d114.1 (pLen (pSet (pSet p3 p0 (pGet z p3 p2)) p2 (pGet z p3 p0))) then if pIn p0 (pLen (pSet (pSet p3 p0 (pGet z p3 p2)) p2 (pGet z p3 p0))) then pBind (cmp (pGet z (pSet (pSet p3 p0 (pGet z p3 p2)) p2 (pGet z p3 p0)) d114.1) (pGet z (pSet (pSet p3 p0 (pGet z p3 p2)) p2 (pGet z p3 p0)) p0)) fun d115 => some (pLt d115.1 0, ()) else none else none else some (false, ())) fun d116 => if d116.1 then some (.inl (pAdd .i64 d114.1 1, ())) else some (.inr (d114.1, ()))
noncomputable def gs_partition_1 {α : Type} (z : α) (cmp : α → α → Option (Int × Unit)) (d117 : (Int × Unit)) (p3 : (List α)) (p0 : Int) (p2 : Int) (d118 : (Int × Unit)) : Option ((Int × Unit) ⊕ (Int × Unit)) :=
  pBind (if pLe d117.1 d118.1 then if pIn d118.1 (pLen (pSet (pSet p3 p0 (pGet z p3 p2)) p2 (pGet z p3 p0))) then if pIn p0 (pLen (pSet (pSet p3 p0 (pGet z p3 p2)) p2 (pGet z p3 p0))) then pBind (cmp (pGet z (pSet (pSet p3 p0 (pGet z p3 p2)) p2 (pGet z p3 p0)) d118.1) (pGet z (pSet (pSet p3 p0 (pGet z p3 p2)) p2 (pGet z p3 p0)) p0)) fun d119 => some (pNot (pLt d119.1 0), ()) else none else none else some (false, ())) fun d120 => if d120.1 then some (.inl (pSub .i64 d118.1 1, ())) else some (.inr (d118.1, ()))
noncomputable def gs_partition_2 {α : Type} (z : α) (cmp : α → α → Option (Int × Unit)) (d122 : (Int × (Int × ((List α) × Unit)))) (p0 : Int) (d123 : (Int × Unit)) : Option ((Int × Unit) ⊕ (Int × Unit)) :=
  pBind (if pLe d123.1 d122.2.1 then if pIn d123.1 (pLen d122.2.2.1) then if pIn p0 (pLen d122.2.2.1) then pBind (cmp (pGet z d122.2.2.1 d123.1) (pGet z d122.2.2.1 p0)) fun d124 => some (pLt d124.1 0, ()) else none else none else some (false, ())) fun d125 => if d125.1 then some (.inl (pAdd .i64 d123.1 1, ())) else some (.inr (d123.1, ()))
noncomputable def gs_partition_3 {α : Type} (z : α) (cmp : α → α → Option (Int × Unit)) (d126 : (Int × Unit)) (d122 : (Int × (Int × ((List α) × Unit)))) (p0 : Int) (d127 : (Int × Unit)) : Option ((Int × Unit) ⊕ (Int × Unit)) :=
  pBind (if pLe d126.1 d127.1 then if pIn d127.1 (pLen d122.2.2.1) then if pIn p0 (pLen d122.2.2.1) then pBind (cmp (pGet z d122.2.2.1 d127.1) (pGet z d122.2.2.1 p0)) fun d128 => some (pNot (pLt d128.1 0), ()) else none else none else some (false, ())) fun d129 => if d129.1 then some (.inl (pSub .i64 d127.1 1, ())) else some (.inr (d127.1, ()))
noncomputable def gs_partition_4 {α : Type} (z : α) (cmp : α → α → Option (Int × Unit)) (p0 : Int) (d122 : (Int × (Int × ((List α) × Unit)))) : Option ((Int × (Int × ((List α) × Unit))) ⊕ (Int × (Int × ((List α) × Unit)))) :=
  pBind (pIter (gs_partition_2 z cmp d122 p0) (d122.1, ())) fun d126 => pBind (pIter (gs_partition_3 z cmp d126 d122 p0) (d122.2.1, ())) fun d130 => if pLt d130.1 d126.1 then some (.inr (d126.1, (d130.1, (d122.2.2.1, ())))) else if pIn d130.1 (pLen d122.2.2.1) then if pIn d126.1 (pLen d122.2.2.1) then if pIn d126.1 (pLen d122.2.2.1) then if pIn d130.1 (pLen (pSet d122.2.2.1 d126.1 (pGet z d122.2.2.1 d130.1))) then some (.inl (pAdd .i64 d126.1 1, (pSub .i64 d130.1 1, (pSet (pSet d122.2.2.1 d126.1 (pGet z d122.2.2.1 d130.1)) d130.1 (pGet z d122.2.2.1 d126.1), ())))) else none else none else none else none
noncomputable def gm_partition {α : Type} (z : α) (cmp : α → α → Option (Int × Unit)) (p0 : Int) (p1 : Int) (p2 : Int) (p3 : (List α)) : Option (Int × (Bool × ((List α) × Unit))) :=
  if pIn p2 (pLen p3) then if pIn p0 (pLen p3) then if pIn p0 (pLen p3) then if pIn p2 (pLen (pSet p3 p0 (pGet z p3 p2))) then pBind (pIter (gs_partition_0 z cmp p1 p3 p0 p2) (pAdd .i64 p0 1, ())) fun d117 => pBind (pIter (gs_partition_1 z cmp d117 p3 p0 p2) (pSub .i64 p1 1, ())) fun d121 => if pLt d121.1 d117.1 then if pIn p0 (pLen (pSet (pSet p3 p0 (pGet z p3 p2)) p2 (pGet z p3 p0))) then if pIn d121.1 (pLen (pSet (pSet p3 p0 (pGet z p3 p2)) p2 (pGet z p3 p0))) then if pIn d121.1 (pLen (pSet (pSet p3 p0 (pGet z p3 p2)) p2 (pGet z p3 p0))) then if pIn p0 (pLen (pSet (pSet (pSet p3 p0 (pGet z p3 p2)) p2 (pGet z p3 p0)) d121.1 (pGet z (pSet (pSet p3 p0 (pGet z p3 p2)) p2 (pGet z p3 p0)) p0))) then some (d121.1, (true, (pSet (pSet (pSet (pSet p3 p0 (pGet z p3 p2)) p2 (pGet z p3 p0)) d121.1 (pGet z (pSet (pSet p3 p0 (pGet z p3 p2)) p2 (pGet z p3 p0)) p0)) p0 (pGet z (pSet (pSet p3 p0 (pGet z p3 p2)) p2 (pGet z p3 p0)) d121.1), ()))) else none else none else none else none else if pIn d121.1 (pLen (pSet (pSet p3 p0 (pGet z p3 p2)) p2 (pGet z p3 p0))) then if pIn d117.1 (pLen (pSet (pSet p3 p0 (pGet z p3 p2)) p2 (pGet z p3 p0))) then if pIn d117.1 (pLen (pSet (pSet p3 p0 (pGet z p3 p2)) p2 (pGet z p3 p0))) then if pIn d121.1 (pLen (pSet (pSet (pSet p3 p0 (pGet z p3 p2)) p2 (pGet z p3 p0)) d117.1 (pGet z (pSet (pSet p3 p0 (pGet z p3 p2)) p2 (pGet z p3 p0)) d121.1))) then pBind (pIter (gs_partition_4 z cmp p0) (pAdd .i64 d117.1 1, (pSub .i64 d121.1 1, (pSet (pSet (pSet (pSet p3 p0 (pGet z p3 p2)) p2 (pGet z p3 p0)) d117.1 (pGet z (pSet (pSet p3 p0 (pGet z p3 p2)) p2 (pGet z p3 p0)) d121.1)) d121.1 (pGet z (pSet (pSet p3 p0 (pGet z p3 p2)) p2 (pGet z p3 p0)) d117.1), ())))) fun d131 => if pIn p0 (pLen d131.2.2.1) then if pIn d131.2.1 (pLen d131.2.2.1) then if pIn d131.2.1 (pLen d131.2.2.1) then if pIn p0 (pLen (pSet d131.2.2.1 d131.2.1 (pGet z d131.2.2.1 p0))) then some (d131.2.1, (false, (pSet (pSet d131.2.2.1 d131.2.1 (pGet z d131.2.2.1 p0)) p0 (pGet z d131.2.2.1 d131.2.1), ()))) else none else none else none else none else none else none else none else none else none else none else none else none
noncomputable def gs_pdqsort_0 {α : Type} (z : α) (cmp : α → α → Option (Int × Unit)) (self : ((Int × (Int × (Int × ((List α) × Unit)))) → Option ((List α) × Unit))) (d132 : (Int × (Int × (Int × (Bool × (Bool × ((List α) × Unit))))))) : Option ((Int × (Int × (Int × (Bool × (Bool × ((List α) × Unit)))))) ⊕ ((List α) × Unit)) :=
  if pLe (pSub .i64 d132.2.1 d132.1) 12 then pBind (gm_insertionSort z cmp d132.1 d132.2.1 d132.2.2.2.2.2.1) fun d133 => some (.inr (d133.1, ())) else if pEq d132.2.2.1 0 then pBind (gm_heapSort z cmp d132.1 d132.2.1 d132.2.2.2.2.2.1) fun d134 => some (.inr (d134.1, ())) else pBind (if pNot d132.2.2.2.1 then pBind (pBind (gm_breakPatterns z cmp d132.1 d132.2.1 d132.2.2.2.2.2.1 : Option (((List α) × (Int × Unit)) ⊕ ((List α) × Unit))) fun d135 => pCase d135 (fun d136 => some (d136.1, ())) (fun d137 => some (d137.1, ()))) fun d138 => some (pSub .i64 d132.2.2.1 1, (d138.1, ())) else some (d132.2.2.1, (d132.2.2.2.2.2.1, ()))) fun d139 => pBind (gm_choosePivot z cmp d139.2.1 d132.1 d132.2.1) fun d140 => pBind (if pEq d140.2.1 2 then pBind (gm_reverseRange z cmp d132.1 d132.2.1 d139.2.1) fun d141 => some (pSub .i64 (pSub .i64 d132.2.1 1) (pSub .i64 d140.1 d132.1), (1, (d141.1, ()))) else some (d140.1, (d140.2.1, (d139.2.1, ())))) fun d142 => pBind (if d132.2.2.2.1 then if d132.2.2.2.2.1 then if pEq d142.2.1 1 then pBind (gm_partialInsertionSort z cmp d132.1 d132.2.1 d142.2.2.1) fun d143 => if d143.1 then some (.inl (d143.2.1, ())) else some (.inr (d143.2.1, ())) else some (.inr (d142.2.2.1, ())) else some (.inr (d142.2.2.1, ())) else some (.inr (d142.2.2.1, ())) : Option (((List α) × Unit) ⊕ ((List α) × Unit))) fun d144 => pCase d144 (fun d145 => some (.inr (d145.1, ()))) (fun d146 => pBind (if pLt 0 d132.1 then if pIn (pSub .i64 d132.1 1) (pLen d146.1) then if pIn d142.1 (pLen d146.1) then pBind (cmp (pGet z d146.1 (pSub .i64 d132.1 1)) (pGet z d146.1 d142.1)) fun d147 => some (pNot (pLt d147.1 0), ()) else none else none else some (false, ())) fun d148 => if d148.1 then pBind (gm_partitionEqual z cmp d132.1 d132.2.1 d142.1 d146.1) fun d149 => some (.inl (d149.1, (d132.2.1, (d139.1, (d132.2.2.2.1, (d132.2.2.2.2.1, (d149.2.1, ()))))))) else pBind (gm_partition z cmp d132.1 d132.2.1 d142.1 d146.1) fun d150 => if pNot (pEq 8 0) then if pLt (pSub .i64 d150.1 d132.1) (pSub .i64 d132.2.1 d150.1) then pBind (self (d132.1, (d150.1, (d139.1, (d150.2.2.1, ()))))) fun d151 => some (.inl (pAdd .i64 d150.1 1, (d132.2.1, (d139.1, (pLe (pQuo .i64 (pSub .i64 d132.2.1 d132.1) 8) (pSub .i64 d150.1 d132.1), (d150.2.1, (d151.1, ()))))))) else pBind (self (pAdd .i64 d150.1 1, (d132.2.1, (d139.1, (d150.2.2.1, ()))))) fun d152 => some (.inl (d132.1, (d150.1, (d139.1, (pLe (pQuo .i64 (pSub .i64 d132.2.1 d132.1) 8) (pSub .i64 d132.2.1 d150.1), (d150.2.1, (d152.1, ()))))))) else none)
noncomputable def gb_pdqsort {α : Type} (z : α) (cmp : α → α → Option (Int × Unit)) (self : (Int × (Int × (Int × ((List α) × Unit)))) → Option ((List α) × Unit)) (d : (Int × (Int × (Int × ((List α) × Unit))))) : Option ((List α) × Unit) :=
  pBind (pIter (gs_pdqsort_0 z cmp self) (d.1, (d.2.1, (d.2.2.1, (true, (true, (d.2.2.2.1, ()))))))) fun d153 => some (d153.1, ())
noncomputable def gm_SortFunc {α : Type} (z : α) (cmp : α → α → Option (Int × Unit)) (p0 : (List α)) : Option ((List α) × Unit) :=
  pBind (g_bits_Len (pWrap .u64 (pLen p0))) fun d154 => pBind (pRec (gb_pdqsort z cmp) (0, (pLen p0, (d154.1, (p0, ()))))) fun d155 => some (d155.1, ())
class OrdM (α : Type) extends Inhabited α where
  cmp : α → α → Option (Int × Unit)
  lt : α → α → Bool
  val : ∀ a b, ∃ c, cmp a b = some (c, ()) ∧ pLt c 0 = lt a b
  swo : SWO lt
section
variable {α : Type} [OrdM α]
noncomputable def oc : α → α → Option (Int × Unit) := OrdM.cmp
def ol : α → α → Bool := OrdM.lt
noncomputable def cvOf (a b : α) : Int := ((oc a b).getD (0, ())).1
theorem lessC (a b : α) : oc a b = some (cvOf a b, ()) := by
  obtain ⟨c, h, _⟩ := OrdM.val a b
  have h : oc a b = some (c, ()) := h
  unfold cvOf
  rw [h]
  rfl
theorem ltC (a b : α) : pLt (cvOf a b) 0 = ol a b := by
  obtain ⟨c, h, h2⟩ := OrdM.val a b
  have h : oc a b = some (c, ()) := h
  unfold cvOf
  rw [h]
  exact h2
theorem swo_ol : SWO (ol (α := α)) := OrdM.swo
theorem lenE (d : Array α) : pLen d.toList = (d.size : Int) := by simp [pLen]
theorem getE (d : Array α) (i : Nat) : pGet (default : α) d.toList (i : Int) = d[i]! := by
  simp only [pGet, Int.toNat_natCast, List.getD_eq_getElem?_getD, Array.getElem?_toList]
  rw [getElem!_def]
  cases d[i]? <;> rfl
theorem swE (d : Array α) (i j : Nat) : pSet (pSet d.toList (i : Int) d[j]!) (j : Int) d[i]! = (swp d i j).toList := by
  simp [pSet, swp]
theorem inE {d : Array α} {i : Nat} (h : i < d.size) : pIn (i : Int) (pLen d.toList) = true := by
  rw [lenE]; exact decide_eq_true ⟨by omega, by omega⟩
theorem inS {d : Array α} {i j : Nat} {x : α} (h : i < d.size) : pIn (i : Int) (pLen (pSet d.toList (j : Int) x)) = true := by
  have : pLen (pSet d.toList (j : Int) x) = (d.size : Int) := by simp [pLen, pSet]
  rw [this]; exact decide_eq_true ⟨by omega, by omega⟩
theorem add1 {n : Nat} (h : n < 2 ^ 62) : pAdd .i64 (n : Int) 1 = ((n + 1 : Nat) : Int) := by rw [add64 (by omega) (by omega)]; omega
theorem sub1 {n : Nat} (h : n < 2 ^ 62) : pSub .i64 ((n + 1 : Nat) : Int) 1 = (n : Int) := by rw [sub64 (by omega) (by omega)]; omega
theorem addN {n m : Nat} (h : n + m < 2 ^ 62) : pAdd .i64 (n : Int) (m : Int) = ((n + m : Nat) : Int) := by rw [add64 (by omega) (by omega)]; omega
theorem subN {n m : Nat} (h : m ≤ n) (h2 : n < 2 ^ 62) : pSub .i64 (n : Int) (m : Int) = ((n - m : Nat) : Int) := by rw [sub64 (by omega) (by omega)]; omega
theorem ltN {n m : Nat} : pLt (n : Int) (m : Int) = decide (n < m) := by simp only [pLt]; exact decide_eq_decide.2 (by omega)
theorem leN {n m : Nat} : pLe (n : Int) (m : Int) = decide (n ≤ m) := by simp only [pLe]; exact decide_eq_decide.2 (by omega)
theorem swS (d : Array α) (i j : Nat) : (swp d i j).size = d.size := by simp [swp]
theorem insInner_eq (a : Nat) : ∀ (j : Nat) (d : Array α), j < d.size → d.size < 2 ^ 62 →
    ∃ k, pIter ((gs_insertionSort_0 (default : α) oc) (a : Int)) ((j : Int), (d.toList, ())) = some (k, ((insInner ol a j d).toList, ()))
  | 0, d, hj, hd => by
    refine ⟨((0 : Nat) : Int), pIter_inr ?_⟩
    unfold gs_insertionSort_0
    have e : pLt (a : Int) ((0 : Nat) : Int) = false := by rw [ltN]; simp
    simp only [e, Bool.false_eq_true, if_false, pBind, Option.bind_some, insInner]
  | j + 1, d, hj, hd => by
    have e1 := sub1 (n := j) (by omega)
    have i1 := inE (d := d) (i := j) (by omega)
    have i2 := inE (d := d) (i := j + 1) (by omega)
    have i3 := inS (d := d) (i := j) (j := j + 1) (x := d[j]!) (by omega)
    by_cases hc : a < j + 1 ∧ ol d[j + 1]! d[j]! = true
    · have e : pLt (a : Int) ((j + 1 : Nat) : Int) = true := by rw [ltN]; simp; omega
      have hs : (gs_insertionSort_0 (default : α) oc) (a : Int) (((j + 1 : Nat) : Int), (d.toList, ())) = some (.inl ((j : Int), ((swp d (j + 1) j).toList, ()))) := by
        unfold gs_insertionSort_0
        simp only [e, e1, i1, i2, i3, getE, lessC, ltC, hc.2, if_true, pBind, Option.bind_some, swE]
      obtain ⟨k, hk⟩ := insInner_eq a j (swp d (j + 1) j) (by rw [swS]; omega) (by rw [swS]; omega)
      refine ⟨k, ?_⟩
      rw [pIter_inl hs, hk]
      have : insInner ol a (j + 1) d = insInner ol a j (swp d (j + 1) j) := by
        rw [insInner, if_pos]
        simp [hc.1, hc.2]
      rw [this]
    · have hr : insInner ol a (j + 1) d = d := by
        rw [insInner, if_neg]
        simp only [Bool.and_eq_true, decide_eq_true_eq]
        exact hc
      refine ⟨((j + 1 : Nat) : Int), pIter_inr ?_⟩
      rw [hr]
      unfold gs_insertionSort_0
      by_cases ha : a < j + 1
      · have e : pLt (a : Int) ((j + 1 : Nat) : Int) = true := by rw [ltN]; simp; omega
        have hl : ol d[j + 1]! d[j]! = false := by
          cases h : ol d[j + 1]! d[j]! with
          | false => rfl
          | true => exact absurd ⟨ha, h⟩ hc
        simp only [e, e1, i1, i2, getE, lessC, ltC, hl, if_true, pBind, Option.bind_some, Bool.false_eq_true, if_false]
      · have e : pLt (a : Int) ((j + 1 : Nat) : Int) = false := by rw [ltN]; simp; omega
        simp only [e, Bool.false_eq_true, if_false, pBind, Option.bind_some]
theorem insInner_size (a : Nat) : ∀ (j : Nat) (d : Array α), (insInner ol a j d).size = d.size
  | 0, d => rfl
  | j + 1, d => by
    rw [insInner]
    split
    · rw [insInner_size a j, swS]
    · rfl
theorem insOuter_eq (a b : Nat) : ∀ (n i : Nat) (d : Array α), b - i = n → b ≤ d.size → d.size < 2 ^ 62 →
    ∃ k, pIter ((gs_insertionSort_1 (default : α) oc) (b : Int) (a : Int)) ((i : Int), (d.toList, ())) = some (k, ((insOuter ol a b i d).toList, ()))
  | 0, i, d, hn, hb, hd => by
    refine ⟨(i : Int), pIter_inr ?_⟩
    unfold gs_insertionSort_1
    have e : pLt (i : Int) (b : Int) = false := by rw [ltN]; simp; omega
    have hr : insOuter ol a b i d = d := by rw [insOuter.eq_def]; exact if_neg (by omega)
    rw [hr]
    simp only [e, Bool.false_eq_true, if_false]
  | n + 1, i, d, hn, hb, hd => by
    have e : pLt (i : Int) (b : Int) = true := by rw [ltN]; simp; omega
    obtain ⟨k, hk⟩ := insInner_eq a i d (by omega) hd
    have hs : (gs_insertionSort_1 (default : α) oc) (b : Int) (a : Int) ((i : Int), (d.toList, ())) = some (.inl (((i + 1 : Nat) : Int), ((insInner ol a i d).toList, ()))) := by
      unfold gs_insertionSort_1
      simp only [e, if_true, pBind, hk, Option.bind_some, add1 (n := i) (by omega)]
    obtain ⟨k2, hk2⟩ := insOuter_eq a b n (i + 1) (insInner ol a i d) (by omega) (by rw [insInner_size]; omega) (by rw [insInner_size]; omega)
    refine ⟨k2, ?_⟩
    rw [pIter_inl hs, hk2]
    have hr : insOuter ol a b i d = insOuter ol a b (i + 1) (insInner ol a i d) := by rw [insOuter.eq_def]; exact if_pos (by omega)
    rw [hr]
theorem insertion_eq (a b : Nat) (d : Array α) (hb : b ≤ d.size) (hd : d.size < 2 ^ 61) (ha : a ≤ b) : (gm_insertionSort (default : α) oc) (a : Int) (b : Int) d.toList = some ((insertionSort ol d a b).toList, ()) := by
  unfold gm_insertionSort
  obtain ⟨k, hk⟩ := insOuter_eq a b _ (a + 1) d rfl hb (by omega)
  rw [add1 (n := a) (by omega), hk]
  rfl
theorem reverse_eq : ∀ (n i j : Nat) (d : Array α), j - i ≤ n → (i < j → j < d.size) → d.size < 2 ^ 61 → (i < j → 1 ≤ j) →
    ∃ k1 k2, pIter (gs_reverseRange_0 (default : α) oc) ((i : Int), ((j : Int), (d.toList, ()))) = some (k1, (k2, ((reverseLoop i j d).toList, ())))
  | n, i, j, d, hn, hj, hd, h1 => by
    by_cases h : i < j
    · have hjs := hj h
      obtain ⟨j', rfl⟩ : ∃ j', j = j' + 1 := ⟨j - 1, by omega⟩
      have e : pLt (i : Int) ((j' + 1 : Nat) : Int) = true := by rw [ltN]; simp; omega
      have i1 := inE (d := d) (i := j' + 1) (by omega)
      have i2 := inE (d := d) (i := i) (by omega)
      have i3 := inS (d := d) (i := j' + 1) (j := i) (x := d[j' + 1]!) (by omega)
      have hs : (gs_reverseRange_0 (default : α) oc) ((i : Int), (((j' + 1 : Nat) : Int), (d.toList, ()))) = some (.inl (((i + 1 : Nat) : Int), ((j' : Int), ((swp d i (j' + 1)).toList, ())))) := by
        unfold gs_reverseRange_0
        simp only [e, i1, i2, i3, getE, if_true, swE, add1 (n := i) (by omega), sub1 (n := j') (by omega)]
      cases n with
      | zero => omega
      | succ n =>
        obtain ⟨k1, k2, hk⟩ := reverse_eq n (i + 1) j' (swp d i (j' + 1)) (by omega) (by rw [swS]; omega) (by rw [swS]; omega) (by omega)
        refine ⟨k1, k2, ?_⟩
        rw [pIter_inl hs, hk, reverseLoop.eq_def i (j' + 1) d, if_pos h]
        rfl
    · refine ⟨(i : Int), (j : Int), pIter_inr ?_⟩
      have e : pLt (i : Int) (j : Int) = false := by rw [ltN]; simp; omega
      rw [reverseLoop, if_neg h]
      unfold gs_reverseRange_0
      simp only [e, Bool.false_eq_true, if_false]
theorem reverseRange_eq (a b : Nat) (d : Array α) (hab : a < b) (hb : b ≤ d.size) (hd : d.size < 2 ^ 61) : (gm_reverseRange (default : α) oc) (a : Int) (b : Int) d.toList = some ((reverseRange d a b).toList, ()) := by
  unfold gm_reverseRange
  obtain ⟨b', rfl⟩ : ∃ b', b = b' + 1 := ⟨b - 1, by omega⟩
  obtain ⟨k1, k2, hk⟩ := reverse_eq _ a b' d (Nat.le_refl _) (by omega) hd (by omega)
  rw [sub1 (n := b') (by omega), hk]
  rfl
theorem mul2 {n : Nat} (h : n < 2 ^ 60) : pMul .i64 2 (n : Int) = ((2 * n : Nat) : Int) := by rw [mul64 (by omega) (by omega)]; omega
theorem sift_size (hi first : Nat) : ∀ (n root : Nat) (d : Array α), hi - root ≤ n → (siftDown ol hi first root d).size = d.size := by
  intro n
  induction n with
  | zero =>
    intro root d hn
    rw [siftDown.eq_def, dif_pos (by omega)]
  | succ n ih =>
    intro root d hn
    rw [siftDown.eq_def]
    split
    · rfl
    · split
      · split
        · rfl
        · split
          · rw [ih _ _ (by omega), swS]
          · rfl
      · split
        · rfl
        · rw [ih _ _ (by omega), swS]
theorem sift_eq (hi first : Nat) : ∀ (n root : Nat) (d : Array α), hi - root ≤ n → first + hi ≤ d.size → d.size < 2 ^ 59 → root < 2 ^ 59 →
    ∃ r, pIter ((gs_siftDown_0 (default : α) oc) (hi : Int) (first : Int)) ((root : Int), (d.toList, ())) = some r ∧ ((∃ k1 k2, r = .inl (k1, (k2, ((siftDown ol hi first root d).toList, ())))) ∨ r = .inr ((siftDown ol hi first root d).toList, ())) := by
  intro n
  induction n with
  | zero =>
    intro root d hn hs hd hr
    have e1 : pAdd .i64 (pMul .i64 2 (root : Int)) 1 = ((2 * root + 1 : Nat) : Int) := by rw [mul2 (by omega), add1 (by omega)]
    have e2 : pLe (hi : Int) ((2 * root + 1 : Nat) : Int) = true := by rw [leN]; simp; omega
    refine ⟨.inl ((root : Int), (((2 * root + 1 : Nat) : Int), (d.toList, ()))), pIter_inr ?_, .inl ⟨(root : Int), ((2 * root + 1 : Nat) : Int), ?_⟩⟩
    · unfold gs_siftDown_0
      simp only [e1, e2, if_true]
    · rw [siftDown.eq_def, dif_pos (by omega)]
  | succ n ih =>
    intro root d hn hs hd hr
    have e1 : pAdd .i64 (pMul .i64 2 (root : Int)) 1 = ((2 * root + 1 : Nat) : Int) := by rw [mul2 (by omega), add1 (by omega)]
    by_cases hc : 2 * root + 1 ≥ hi
    · have e2 : pLe (hi : Int) ((2 * root + 1 : Nat) : Int) = true := by rw [leN]; simp; omega
      refine ⟨.inl ((root : Int), (((2 * root + 1 : Nat) : Int), (d.toList, ()))), pIter_inr ?_, .inl ⟨(root : Int), ((2 * root + 1 : Nat) : Int), ?_⟩⟩
      · unfold gs_siftDown_0
        simp only [e1, e2, if_true]
      · rw [siftDown.eq_def, dif_pos hc]
    · have e2 : pLe (hi : Int) ((2 * root + 1 : Nat) : Int) = false := by rw [leN]; simp; omega
      have e3 : pAdd .i64 ((2 * root + 1 : Nat) : Int) 1 = ((2 * root + 2 : Nat) : Int) := by rw [add1 (by omega)]
      have e4 : pAdd .i64 (first : Int) ((2 * root + 1 : Nat) : Int) = ((first + (2 * root + 1) : Nat) : Int) := addN (by omega)
      have e5 : pAdd .i64 ((first + (2 * root + 1) : Nat) : Int) 1 = ((first + (2 * root + 1) + 1 : Nat) : Int) := by rw [add1 (by omega)]
      have e6 : pAdd .i64 (first : Int) ((root : Nat) : Int) = ((first + root : Nat) : Int) := addN (by omega)
      have i1 := inE (d := d) (i := first + (2 * root + 1)) (by omega)
      have i3 := inE (d := d) (i := first + root) (by omega)
      obtain ⟨c, hcd, hcs, hrc, hdef⟩ : ∃ c : Nat, (pBind (if pLt ((2 * root + 2 : Nat) : Int) (hi : Int) then if pIn ((first + (2 * root + 1) : Nat) : Int) (pLen d.toList) then if pIn ((first + (2 * root + 1) + 1 : Nat) : Int) (pLen d.toList) then pBind (oc (pGet (default : α) d.toList ((first + (2 * root + 1) : Nat) : Int)) (pGet (default : α) d.toList ((first + (2 * root + 1) + 1 : Nat) : Int))) fun d41 => some (pLt d41.1 0, ()) else none else none else some (false, ())) fun d42 => if d42.1 then some (((2 * root + 2 : Nat) : Int), ()) else some (((2 * root + 1 : Nat) : Int), ()) : Option (Int × Unit)) = some ((c : Int), ()) ∧ c < hi ∧ root < c ∧
          siftDown ol hi first root d = if !ol d[first + root]! d[first + c]! then d else siftDown ol hi first c (swp d (first + root) (first + c)) := by
        by_cases h2 : 2 * root + 1 + 1 < hi ∧ ol d[first + (2 * root + 1)]! d[first + (2 * root + 1) + 1]! = true
        · refine ⟨2 * root + 2, ?_, by omega, by omega, ?_⟩
          · have e7 : pLt ((2 * root + 2 : Nat) : Int) (hi : Int) = true := by rw [ltN]; simp; omega
            have i2 := inE (d := d) (i := first + (2 * root + 1) + 1) (by omega)
            simp only [e7, i1, i2, getE, lessC, ltC, h2.2, if_true, pBind, Option.bind_some]
          · rw [siftDown.eq_def, dif_neg hc, if_pos (by simp [h2.1, h2.2])]
            split
            · rfl
            · exact dif_pos (by omega)
        · refine ⟨2 * root + 1, ?_, by omega, by omega, ?_⟩
          · by_cases h3 : 2 * root + 2 < hi
            · have e7 : pLt ((2 * root + 2 : Nat) : Int) (hi : Int) = true := by rw [ltN]; simp; omega
              have i2 := inE (d := d) (i := first + (2 * root + 1) + 1) (by omega)
              have hl : ol d[first + (2 * root + 1)]! d[first + (2 * root + 1) + 1]! = false := by
                cases h : ol d[first + (2 * root + 1)]! d[first + (2 * root + 1) + 1]! with
                | false => rfl
                | true => exact absurd ⟨by omega, h⟩ h2
              simp only [e7, i1, i2, getE, lessC, ltC, hl, if_true, pBind, Option.bind_some, Bool.false_eq_true, if_false]
            · have e7 : pLt ((2 * root + 2 : Nat) : Int) (hi : Int) = false := by rw [ltN]; simp; omega
              simp only [e7, Bool.false_eq_true, if_false, pBind, Option.bind_some]
          · rw [siftDown.eq_def, dif_neg hc, if_neg (by simp only [Bool.and_eq_true, decide_eq_true_eq]; exact h2)]
      have e8 : pAdd .i64 (first : Int) (c : Int) = ((first + c : Nat) : Int) := addN (by omega)
      have i4 := inE (d := d) (i := first + c) (by omega)
      have i5 := inS (d := d) (i := first + c) (j := first + root) (x := d[first + c]!) (by omega)
      rw [hdef]
      cases hl : ol d[first + root]! d[first + c]! with
      | false =>
        refine ⟨.inr (d.toList, ()), pIter_inr ?_, .inr ?_⟩
        · unfold gs_siftDown_0
          simp only [e1, e2, e3, e4, e5, e6, Bool.false_eq_true, if_false]
          rw [hcd]
          simp only [pBind, Option.bind_some, e8, i3, i4, getE, lessC, ltC, hl, if_true, pNot, Bool.not_false]
        · simp
      | true =>
        obtain ⟨r, hr1, hr2⟩ := ih c (swp d (first + root) (first + c)) (by omega) (by rw [swS]; omega) (by rw [swS]; omega) (by omega)
        refine ⟨r, ?_, ?_⟩
        · rw [← hr1]
          refine pIter_inl ?_
          unfold gs_siftDown_0
          simp only [e1, e2, e3, e4, e5, e6, Bool.false_eq_true, if_false]
          rw [hcd]
          simp only [pBind, Option.bind_some, e8, i3, i4, i5, getE, lessC, ltC, hl, if_true, pNot, Bool.not_true, Bool.false_eq_true, if_false, swE]
        · simpa using hr2
theorem siftDown_eq (hi first root : Nat) (d : Array α) (hs : first + hi ≤ d.size) (hd : d.size < 2 ^ 59) (hr : root < 2 ^ 59) : (gm_siftDown (default : α) oc) (root : Int) (hi : Int) (first : Int) d.toList = some ((siftDown ol hi first root d).toList, ()) := by
  unfold gm_siftDown
  obtain ⟨r, h1, h2⟩ := sift_eq hi first _ root d (Nat.le_refl _) hs hd hr
  rw [h1]
  rcases h2 with ⟨k1, k2, rfl⟩ | rfl <;> rfl
theorem build_eq (a b : Nat) (hab : a ≤ b) : ∀ (k : Nat) (d : Array α), b ≤ d.size → d.size < 2 ^ 59 → k ≤ 2 ^ 59 →
    ∃ e, pIter ((gs_heapSort_0 (default : α) oc) (b : Int) (a : Int)) ((k : Int) - 1, (d.toList, ())) = some (e, ((heapBuild ol (b - a) a k d).toList, ()))
  | 0, d, hb, hd, hk => by
    refine ⟨((0 : Nat) : Int) - 1, pIter_inr ?_⟩
    unfold gs_heapSort_0
    have e : pLe 0 (((0 : Nat) : Int) - 1) = false := by decide
    simp only [e, Bool.false_eq_true, if_false]
    rfl
  | k + 1, d, hb, hd, hk => by
    have e0 : ((k + 1 : Nat) : Int) - 1 = (k : Int) := by omega
    have e : pLe 0 (k : Int) = true := by simp [pLe]
    have e2 : pSub .i64 (b : Int) (a : Int) = ((b - a : Nat) : Int) := subN hab (by omega)
    have e3 : pSub .i64 (k : Int) 1 = (k : Int) - 1 := sub64 (by omega) (by omega)
    have hs : (gs_heapSort_0 (default : α) oc) (b : Int) (a : Int) (((k + 1 : Nat) : Int) - 1, (d.toList, ())) = some (.inl ((k : Int) - 1, ((siftDown ol (b - a) a k d).toList, ()))) := by
      unfold gs_heapSort_0
      simp only [e0, e, e2, e3, if_true, siftDown_eq (b - a) a k d (by omega) hd (by omega), pBind, Option.bind_some]
    have hz := sift_size (b - a) a _ k d (Nat.le_refl _)
    obtain ⟨e', he⟩ := build_eq a b hab k (siftDown ol (b - a) a k d) (by rw [hz]; exact hb) (by rw [hz]; exact hd) (by omega)
    exact ⟨e', by rw [pIter_inl hs, he]; rfl⟩
theorem pop_eq (a : Nat) : ∀ (k : Nat) (d : Array α), a + k ≤ d.size → d.size < 2 ^ 59 →
    ∃ e, pIter ((gs_heapSort_1 (default : α) oc) (a : Int)) ((k : Int) - 1, (d.toList, ())) = some (e, ((heapPop ol a k d).toList, ()))
  | 0, d, hb, hd => by
    refine ⟨((0 : Nat) : Int) - 1, pIter_inr ?_⟩
    unfold gs_heapSort_1
    have e : pLe 0 (((0 : Nat) : Int) - 1) = false := by decide
    simp only [e, Bool.false_eq_true, if_false]
    rfl
  | k + 1, d, hb, hd => by
    have e0 : ((k + 1 : Nat) : Int) - 1 = (k : Int) := by omega
    have e : pLe 0 (k : Int) = true := by simp [pLe]
    have e2 : pAdd .i64 (a : Int) (k : Int) = ((a + k : Nat) : Int) := addN (by omega)
    have e3 : pSub .i64 (k : Int) 1 = (k : Int) - 1 := sub64 (by omega) (by omega)
    have i1 := inE (d := d) (i := a + k) (by omega)
    have i2 := inE (d := d) (i := a) (by omega)
    have i3 := inS (d := d) (i := a + k) (j := a) (x := d[a + k]!) (by omega)
    have hsf := siftDown_eq k a 0 (swp d a (a + k)) (by rw [swS]; omega) (by rw [swS]; omega) (by omega)
    have hs : (gs_heapSort_1 (default : α) oc) (a : Int) (((k + 1 : Nat) : Int) - 1, (d.toList, ())) = some (.inl ((k : Int) - 1, ((siftDown ol k a 0 (swp d a (a + k))).toList, ()))) := by
      unfold gs_heapSort_1
      simp only [e0, e, e2, e3, i1, i2, i3, getE, swE, if_true, pBind]
      rw [show (0 : Int) = ((0 : Nat) : Int) from rfl, hsf]
      rfl
    have hz := sift_size k a _ 0 (swp d a (a + k)) (Nat.le_refl _)
    rw [swS] at hz
    obtain ⟨e', he⟩ := pop_eq a k (siftDown ol k a 0 (swp d a (a + k))) (by rw [hz]; omega) (by rw [hz]; exact hd)
    exact ⟨e', by rw [pIter_inl hs, he]; rfl⟩
theorem build_size (hi a : Nat) : ∀ (k : Nat) (d : Array α), (heapBuild ol hi a k d).size = d.size
  | 0, d => rfl
  | k + 1, d => by rw [heapBuild, build_size hi a k, sift_size _ _ _ _ _ (Nat.le_refl _)]
theorem heapSort_eq (a b : Nat) (d : Array α) (hab : a < b) (hb : b ≤ d.size) (hd : d.size < 2 ^ 59) : (gm_heapSort (default : α) oc) (a : Int) (b : Int) d.toList = some ((heapSort ol d a b).toList, ()) := by
  unfold gm_heapSort
  have e1 : pNot (pEq 2 0) = true := by decide
  have e2 : pSub .i64 (b : Int) (a : Int) = ((b - a : Nat) : Int) := subN (by omega) (by omega)
  have e3 : pSub .i64 ((b - a : Nat) : Int) 1 = ((b - a : Nat) : Int) - 1 := sub64 (by omega) (by omega)
  have e4 : pQuo .i64 (((b - a : Nat) : Int) - 1) 2 = (((b - a - 1) / 2 + 1 : Nat) : Int) - 1 := by
    rw [show ((b - a : Nat) : Int) - 1 = ((b - a - 1 : Nat) : Int) by omega, show (2 : Int) = ((2 : Nat) : Int) from rfl, quo64 (by omega)]
    omega
  rw [if_pos e1]
  simp only [e2, e3, e4]
  obtain ⟨k, hk⟩ := build_eq a b (by omega) ((b - a - 1) / 2 + 1) d hb hd (by omega)
  have hz := build_size (b - a) a ((b - a - 1) / 2 + 1) d
  obtain ⟨k2, hk2⟩ := pop_eq a (b - a) (heapBuild ol (b - a) a ((b - a - 1) / 2 + 1) d) (by rw [hz]; omega) (by rw [hz]; exact hd)
  rw [hk]
  simp only [pBind, Option.bind_some]
  rw [hk2]
  rfl
theorem up_gen {f : Int × Unit → Option ((Int × Unit) ⊕ (Int × Unit))} {p : α → Bool} {d : Array α} {j : Nat}
    (h1 : ∀ i : Nat, i ≤ j → f ((i : Int), ()) = if p d[i]! then some (.inl (((i + 1 : Nat) : Int), ())) else some (.inr ((i : Int), ())))
    (h2 : ∀ i : Nat, j < i → f ((i : Int), ()) = some (.inr ((i : Int), ()))) :
    ∀ (n i : Nat), j + 1 - i = n → pIter f ((i : Int), ()) = some ((scanUp p d j i : Int), ()) := by
  intro n
  induction n with
  | zero =>
    intro i hn
    rw [scanUp.eq_def, if_neg (by simp; omega)]
    exact pIter_inr (h2 i (by omega))
  | succ n ih =>
    intro i hn
    have h := h1 i (by omega)
    cases hp : p d[i]! with
    | true =>
      rw [hp, if_pos rfl] at h
      rw [pIter_inl h, ih (i + 1) (by omega)]
      have : scanUp p d j i = scanUp p d j (i + 1) := by
        rw [scanUp.eq_def p d j i, if_pos (by simp [hp]; omega)]
      rw [this]
    | false =>
      rw [hp, if_neg (by simp)] at h
      have : scanUp p d j i = i := by
        rw [scanUp.eq_def p d j i, if_neg (by simp [hp])]
      rw [this]
      exact pIter_inr h
theorem down_gen {f : Int × Unit → Option ((Int × Unit) ⊕ (Int × Unit))} {p : α → Bool} {d : Array α} {i J : Nat} (hi : 1 ≤ i)
    (h1 : ∀ j : Nat, i ≤ j + 1 → j + 1 ≤ J → f (((j + 1 : Nat) : Int), ()) = if p d[j + 1]! then some (.inl ((j : Int), ())) else some (.inr (((j + 1 : Nat) : Int), ())))
    (h2 : ∀ j : Nat, j < i → f ((j : Int), ()) = some (.inr ((j : Int), ()))) :
    ∀ (j : Nat), j ≤ J → pIter f ((j : Int), ()) = some ((scanDown p d i j : Int), ())
  | 0, hj => pIter_inr (h2 0 (by omega))
  | j + 1, hj => by
    by_cases hij : i ≤ j + 1
    · have h := h1 j hij hj
      cases hp : p d[j + 1]! with
      | true =>
        rw [hp, if_pos rfl] at h
        rw [pIter_inl h, down_gen hi h1 h2 j (by omega)]
        have : scanDown p d i (j + 1) = scanDown p d i j := by
          rw [scanDown, if_pos (by simp [hp]; omega)]
        rw [this]
      | false =>
        rw [hp, if_neg (by simp)] at h
        have : scanDown p d i (j + 1) = j + 1 := by
          rw [scanDown, if_neg (by simp [hp])]
        rw [this]
        exact pIter_inr h
    · have : scanDown p d i (j + 1) = j + 1 := by
        rw [scanDown, if_neg (by simp; omega)]
      rw [this]
      exact pIter_inr (h2 _ (by omega))
theorem part_up (a i j : Nat) (d : Array α) (ha : a < d.size) (hj : j < d.size) (hd : d.size < 2 ^ 59) :
    pIter ((gs_partition_2 (default : α) oc) ((i : Int), ((j : Int), (d.toList, ()))) (a : Int)) ((i : Int), ()) = some ((scanUp (fun x => ol x d[a]!) d j i : Int), ()) := by
  refine up_gen (p := fun x => ol x d[a]!) (fun k hk => ?_) (fun k hk => ?_) _ i rfl
  · unfold gs_partition_2
    have e : pLe (k : Int) (j : Int) = true := by rw [leN]; simp; omega
    simp only [e, inE (d := d) (i := k) (by omega), inE ha, getE, lessC, ltC, if_true, pBind, Option.bind_some, add1 (n := k) (by omega)]
  · unfold gs_partition_2
    have e : pLe (k : Int) (j : Int) = false := by rw [leN]; simp; omega
    simp only [e, Bool.false_eq_true, if_false, pBind, Option.bind_some]
theorem part_down (a i i2 j : Nat) (d : Array α) (x : Int) (hi : 1 ≤ i2) (ha : a < d.size) (hj : j < d.size) (hd : d.size < 2 ^ 59) :
    pIter ((gs_partition_3 (default : α) oc) ((i2 : Int), ()) (x, ((j : Int), (d.toList, ()))) (a : Int)) ((j : Int), ()) = some ((scanDown (fun x => !ol x d[a]!) d i2 j : Int), ()) := by
  refine down_gen (p := fun x => !ol x d[a]!) (J := j) hi (fun k hk hk2 => ?_) (fun k hk => ?_) j (Nat.le_refl _)
  · unfold gs_partition_3
    have e : pLe (i2 : Int) ((k + 1 : Nat) : Int) = true := by rw [leN]; simp; omega
    simp only [e, inE (d := d) (i := k + 1) (by omega), inE ha, getE, lessC, ltC, if_true, pBind, Option.bind_some, sub1 (n := k) (by omega), pNot]
  · unfold gs_partition_3
    have e : pLe (i2 : Int) (k : Int) = false := by rw [leN]; simp; omega
    simp only [e, Bool.false_eq_true, if_false, pBind, Option.bind_some]
theorem part_loop (a : Nat) : ∀ (n i j : Nat) (d : Array α), j + 1 - i ≤ n → a < d.size → 1 ≤ i → j < d.size → d.size < 2 ^ 59 →
    (∃ k, pIter ((gs_partition_4 (default : α) oc) (a : Int)) ((i : Int), ((j : Int), (d.toList, ()))) = some (k, (((partLoop ol a i j d).1 : Int), ((partLoop ol a i j d).2.toList, ())))) ∧ (partLoop ol a i j d).1 ≤ j ∧ (partLoop ol a i j d).2.size = d.size := by
  intro n
  induction n with
  | zero =>
    intro i j d hn ha hi hj hd
    have hu := part_up a i j d ha hj hd
    have hge := scanUp_ge (fun x => ol x d[a]!) d j i
    have hdn := part_down a i (scanUp (fun x => ol x d[a]!) d j i) j d (i : Int) (by omega) ha hj hd
    have hle := scanDown_le (fun x => !ol x d[a]!) d (scanUp (fun x => ol x d[a]!) d j i) j
    rw [partLoop_eq]
    generalize scanUp (fun x => ol x d[a]!) d j i = i2 at *
    generalize scanDown (fun x => !ol x d[a]!) d i2 j = j2 at *
    have hc : i2 > j2 := by omega
    rw [if_pos hc]
    refine ⟨⟨(i2 : Int), pIter_inr ?_⟩, hle, rfl⟩
    unfold gs_partition_4
    have e : pLt (j2 : Int) (i2 : Int) = true := by rw [ltN]; simp; omega
    simp only [hu, hdn, e, pBind, Option.bind_some, if_true]
  | succ n ih =>
    intro i j d hn ha hi hj hd
    have hu := part_up a i j d ha hj hd
    have hge := scanUp_ge (fun x => ol x d[a]!) d j i
    have hdn := part_down a i (scanUp (fun x => ol x d[a]!) d j i) j d (i : Int) (by omega) ha hj hd
    have hle := scanDown_le (fun x => !ol x d[a]!) d (scanUp (fun x => ol x d[a]!) d j i) j
    rw [partLoop_eq]
    generalize scanUp (fun x => ol x d[a]!) d j i = i2 at *
    generalize scanDown (fun x => !ol x d[a]!) d i2 j = j2 at *
    by_cases hc : i2 > j2
    · rw [if_pos hc]
      refine ⟨⟨(i2 : Int), pIter_inr ?_⟩, hle, rfl⟩
      unfold gs_partition_4
      have e : pLt (j2 : Int) (i2 : Int) = true := by rw [ltN]; simp; omega
      simp only [hu, hdn, e, pBind, Option.bind_some, if_true]
    · rw [if_neg hc]
      obtain ⟨j3, rfl⟩ : ∃ j3, j2 = j3 + 1 := ⟨j2 - 1, by omega⟩
      obtain ⟨⟨k, hk⟩, h1, h2⟩ := ih (i2 + 1) j3 (swp d i2 (j3 + 1)) (by omega) (by rw [swS]; exact ha) (by omega) (by rw [swS]; omega) (by rw [swS]; exact hd)
      have e : pLt ((j3 + 1 : Nat) : Int) (i2 : Int) = false := by rw [ltN]; simp; omega
      have hs : (gs_partition_4 (default : α) oc) (a : Int) ((i : Int), ((j : Int), (d.toList, ()))) = some (.inl (((i2 + 1 : Nat) : Int), ((j3 : Int), ((swp d i2 (j3 + 1)).toList, ())))) := by
        unfold gs_partition_4
        simp only [hu, hdn, e, inE (d := d) (i := j3 + 1) (by omega), inE (d := d) (i := i2) (by omega), inS (d := d) (i := j3 + 1) (j := i2) (x := d[j3 + 1]!) (by omega), getE, swE, pBind, Option.bind_some, if_true, Bool.false_eq_true, if_false, add1 (n := i2) (by omega), sub1 (n := j3) (by omega)]
      rw [show j3 + 1 - 1 = j3 from rfl]
      rw [swS] at h2
      exact ⟨⟨k, by rw [pIter_inl hs, hk]⟩, by omega, h2⟩
theorem part0_up (a b pivot : Nat) (d : Array α) (hab : a < b) (hb : b ≤ d.size) (hp : pivot < d.size) (hd : d.size < 2 ^ 59) :
    pIter ((gs_partition_0 (default : α) oc) (b : Int) d.toList (a : Int) (pivot : Int)) (((a + 1 : Nat) : Int), ()) = some ((scanUp (fun x => ol x (swp d a pivot)[a]!) (swp d a pivot) (b - 1) (a + 1) : Int), ()) := by
  have es : pSub .i64 (b : Int) 1 = ((b - 1 : Nat) : Int) := by obtain ⟨b', rfl⟩ : ∃ b', b = b' + 1 := ⟨b - 1, by omega⟩; rw [sub1 (by omega)]; rfl
  refine up_gen (p := fun x => ol x (swp d a pivot)[a]!) (fun k hk => ?_) (fun k hk => ?_) _ (a + 1) rfl
  · unfold gs_partition_0
    have e : pLe (k : Int) ((b - 1 : Nat) : Int) = true := by rw [leN]; simp; omega
    simp only [es, e, getE, swE, inE (d := swp d a pivot) (i := k) (by rw [swS]; omega), inE (d := swp d a pivot) (i := a) (by rw [swS]; omega), lessC, ltC, if_true, pBind, Option.bind_some, add1 (n := k) (by omega)]
  · unfold gs_partition_0
    have e : pLe (k : Int) ((b - 1 : Nat) : Int) = false := by rw [leN]; simp; omega
    simp only [es, e, Bool.false_eq_true, if_false, pBind, Option.bind_some]
theorem part0_down (a b i2 pivot : Nat) (d : Array α) (hi : 1 ≤ i2) (hab : a < b) (hb : b ≤ d.size) (hp : pivot < d.size) (hd : d.size < 2 ^ 59) :
    pIter ((gs_partition_1 (default : α) oc) ((i2 : Int), ()) d.toList (a : Int) (pivot : Int)) (((b - 1 : Nat) : Int), ()) = some ((scanDown (fun x => !ol x (swp d a pivot)[a]!) (swp d a pivot) i2 (b - 1) : Int), ()) := by
  refine down_gen (p := fun x => !ol x (swp d a pivot)[a]!) (J := b - 1) hi (fun k hk hk2 => ?_) (fun k hk => ?_) (b - 1) (Nat.le_refl _)
  · unfold gs_partition_1
    have e : pLe (i2 : Int) ((k + 1 : Nat) : Int) = true := by rw [leN]; simp; omega
    simp only [e, getE, swE, inE (d := swp d a pivot) (i := k + 1) (by rw [swS]; omega), inE (d := swp d a pivot) (i := a) (by rw [swS]; omega), lessC, ltC, if_true, pBind, Option.bind_some, sub1 (n := k) (by omega), pNot]
  · unfold gs_partition_1
    have e : pLe (i2 : Int) (k : Int) = false := by rw [leN]; simp; omega
    simp only [e, Bool.false_eq_true, if_false, pBind, Option.bind_some]
theorem partition_eq (a b pivot : Nat) (d : Array α) (hap : a ≤ pivot) (hpb : pivot < b) (hb : b ≤ d.size) (hd : d.size < 2 ^ 59) :
    (gm_partition (default : α) oc) (a : Int) (b : Int) (pivot : Int) d.toList = some (((partition ol d a b pivot).1 : Int), ((partition ol d a b pivot).2.1, ((partition ol d a b pivot).2.2.toList, ()))) := by
  have es : pSub .i64 (b : Int) 1 = ((b - 1 : Nat) : Int) := by obtain ⟨b', rfl⟩ : ∃ b', b = b' + 1 := ⟨b - 1, by omega⟩; rw [sub1 (by omega)]; rfl
  have hu := part0_up a b pivot d (by omega) hb (by omega) hd
  have hge := scanUp_ge (fun x => ol x (swp d a pivot)[a]!) (swp d a pivot) (b - 1) (a + 1)
  have hdn := part0_down a b (scanUp (fun x => ol x (swp d a pivot)[a]!) (swp d a pivot) (b - 1) (a + 1)) pivot d (by omega) (by omega) hb (by omega) hd
  have hle := scanDown_le (fun x => !ol x (swp d a pivot)[a]!) (swp d a pivot) (scanUp (fun x => ol x (swp d a pivot)[a]!) (swp d a pivot) (b - 1) (a + 1)) (b - 1)
  have hdef : partition ol d a b pivot = if scanUp (fun x => ol x (swp d a pivot)[a]!) (swp d a pivot) (b - 1) (a + 1) > scanDown (fun x => !ol x (swp d a pivot)[a]!) (swp d a pivot) (scanUp (fun x => ol x (swp d a pivot)[a]!) (swp d a pivot) (b - 1) (a + 1)) (b - 1) then (scanDown (fun x => !ol x (swp d a pivot)[a]!) (swp d a pivot) (scanUp (fun x => ol x (swp d a pivot)[a]!) (swp d a pivot) (b - 1) (a + 1)) (b - 1), true, swp (swp d a pivot) (scanDown (fun x => !ol x (swp d a pivot)[a]!) (swp d a pivot) (scanUp (fun x => ol x (swp d a pivot)[a]!) (swp d a pivot) (b - 1) (a + 1)) (b - 1)) a) else ((partLoop ol a (scanUp (fun x => ol x (swp d a pivot)[a]!) (swp d a pivot) (b - 1) (a + 1) + 1) (scanDown (fun x => !ol x (swp d a pivot)[a]!) (swp d a pivot) (scanUp (fun x => ol x (swp d a pivot)[a]!) (swp d a pivot) (b - 1) (a + 1)) (b - 1) - 1) (swp (swp d a pivot) (scanUp (fun x => ol x (swp d a pivot)[a]!) (swp d a pivot) (b - 1) (a + 1)) (scanDown (fun x => !ol x (swp d a pivot)[a]!) (swp d a pivot) (scanUp (fun x => ol x (swp d a pivot)[a]!) (swp d a pivot) (b - 1) (a + 1)) (b - 1)))).1, false, swp (partLoop ol a (scanUp (fun x => ol x (swp d a pivot)[a]!) (swp d a pivot) (b - 1) (a + 1) + 1) (scanDown (fun x => !ol x (swp d a pivot)[a]!) (swp d a pivot) (scanUp (fun x => ol x (swp d a pivot)[a]!) (swp d a pivot) (b - 1) (a + 1)) (b - 1) - 1) (swp (swp d a pivot) (scanUp (fun x => ol x (swp d a pivot)[a]!) (swp d a pivot) (b - 1) (a + 1)) (scanDown (fun x => !ol x (swp d a pivot)[a]!) (swp d a pivot) (scanUp (fun x => ol x (swp d a pivot)[a]!) (swp d a pivot) (b - 1) (a + 1)) (b - 1)))).2 (partLoop ol a (scanUp (fun x => ol x (swp d a pivot)[a]!) (swp d a pivot) (b - 1) (a + 1) + 1) (scanDown (fun x => !ol x (swp d a pivot)[a]!) (swp d a pivot) (scanUp (fun x => ol x (swp d a pivot)[a]!) (swp d a pivot) (b - 1) (a + 1)) (b - 1) - 1) (swp (swp d a pivot) (scanUp (fun x => ol x (swp d a pivot)[a]!) (swp d a pivot) (b - 1) (a + 1)) (scanDown (fun x => !ol x (swp d a pivot)[a]!) (swp d a pivot) (scanUp (fun x => ol x (swp d a pivot)[a]!) (swp d a pivot) (b - 1) (a + 1)) (b - 1)))).1 a) := rfl
  rw [hdef]
  generalize scanUp (fun x => ol x (swp d a pivot)[a]!) (swp d a pivot) (b - 1) (a + 1) = i at *
  generalize scanDown (fun x => !ol x (swp d a pivot)[a]!) (swp d a pivot) i (b - 1) = j at *
  have hz : (swp d a pivot).size = d.size := swS _ _ _
  have j1 := inE (d := d) (i := pivot) (by omega)
  have j2 := inE (d := d) (i := a) (by omega)
  have j3 := inS (d := d) (i := pivot) (j := a) (x := d[pivot]!) (by omega)
  unfold gm_partition
  simp only [j1, j2, j3, getE, swE, if_true, add1 (n := a) (by omega), es, hu, hdn, pBind, Option.bind_some]
  by_cases hc : i > j
  · have e : pLt (j : Int) (i : Int) = true := by rw [ltN]; simp; omega
    rw [if_pos hc]
    simp only [e, if_true, inE (d := swp d a pivot) (i := a) (by omega), inE (d := swp d a pivot) (i := j) (by omega), inS (d := swp d a pivot) (i := a) (j := j) (x := (swp d a pivot)[a]!) (by omega), getE, swE]
  · have e : pLt (j : Int) (i : Int) = false := by rw [ltN]; simp; omega
    rw [if_neg hc]
    obtain ⟨j', rfl⟩ : ∃ j', j = j' + 1 := ⟨j - 1, by omega⟩
    obtain ⟨⟨k, hk⟩, h1, h2⟩ := part_loop a _ (i + 1) j' (swp (swp d a pivot) i (j' + 1)) (Nat.le_refl _) (by rw [swS, swS]; omega) (by omega) (by rw [swS, swS]; omega) (by rw [swS, swS]; exact hd)
    rw [swS, swS] at h2
    simp only [e, Bool.false_eq_true, if_false, if_true, inE (d := swp d a pivot) (i := j' + 1) (by omega), inE (d := swp d a pivot) (i := i) (by omega), inS (d := swp d a pivot) (i := j' + 1) (j := i) (x := (swp d a pivot)[j' + 1]!) (by omega), getE, swE, add1 (n := i) (by omega), sub1 (n := j') (by omega), hk, Option.bind_some, Nat.add_sub_cancel]
    generalize partLoop ol a (i + 1) j' (swp (swp d a pivot) i (j' + 1)) = r at *
    simp only [inE (d := r.2) (i := a) (by omega), inE (d := r.2) (i := r.1) (by omega), inS (d := r.2) (i := a) (j := r.1) (x := r.2[a]!) (by omega), getE, swE, if_true]
theorem eq_up (a i j : Nat) (d : Array α) (ha : a < d.size) (hj : j < d.size) (hd : d.size < 2 ^ 59) :
    pIter ((gs_partitionEqual_0 (default : α) oc) ((i : Int), ((j : Int), (d.toList, ()))) (a : Int)) ((i : Int), ()) = some ((scanUp (fun x => !ol d[a]! x) d j i : Int), ()) := by
  refine up_gen (p := fun x => !ol d[a]! x) (fun k hk => ?_) (fun k hk => ?_) _ i rfl
  · unfold gs_partitionEqual_0
    have e : pLe (k : Int) (j : Int) = true := by rw [leN]; simp; omega
    simp only [e, inE (d := d) (i := k) (by omega), inE ha, getE, lessC, ltC, if_true, pBind, Option.bind_some, add1 (n := k) (by omega), pNot]
  · unfold gs_partitionEqual_0
    have e : pLe (k : Int) (j : Int) = false := by rw [leN]; simp; omega
    simp only [e, Bool.false_eq_true, if_false, pBind, Option.bind_some]
theorem eq_down (a i2 j : Nat) (d : Array α) (x : Int) (hi : 1 ≤ i2) (ha : a < d.size) (hj : j < d.size) (hd : d.size < 2 ^ 59) :
    pIter ((gs_partitionEqual_1 (default : α) oc) ((i2 : Int), ()) (a : Int) (x, ((j : Int), (d.toList, ())))) ((j : Int), ()) = some ((scanDown (fun x => ol d[a]! x) d i2 j : Int), ()) := by
  refine down_gen (p := fun x => ol d[a]! x) (J := j) hi (fun k hk hk2 => ?_) (fun k hk => ?_) j (Nat.le_refl _)
  · unfold gs_partitionEqual_1
    have e : pLe (i2 : Int) ((k + 1 : Nat) : Int) = true := by rw [leN]; simp; omega
    simp only [e, inE (d := d) (i := k + 1) (by omega), inE ha, getE, lessC, ltC, if_true, pBind, Option.bind_some, sub1 (n := k) (by omega)]
  · unfold gs_partitionEqual_1
    have e : pLe (i2 : Int) (k : Int) = false := by rw [leN]; simp; omega
    simp only [e, Bool.false_eq_true, if_false, pBind, Option.bind_some]
theorem eq_loop (a : Nat) : ∀ (n i j : Nat) (d : Array α), j + 1 - i ≤ n → a < d.size → 1 ≤ i → j < d.size → d.size < 2 ^ 59 →
    ∃ k, pIter ((gs_partitionEqual_2 (default : α) oc) (a : Int)) ((i : Int), ((j : Int), (d.toList, ()))) = some (((partEqLoop ol a i j d).1 : Int), (k, ((partEqLoop ol a i j d).2.toList, ()))) := by
  intro n
  induction n with
  | zero =>
    intro i j d hn ha hi hj hd
    have hu := eq_up a i j d ha hj hd
    have hge := scanUp_ge (fun x => !ol d[a]! x) d j i
    have hdn := eq_down a (scanUp (fun x => !ol d[a]! x) d j i) j d (i : Int) (by omega) ha hj hd
    have hle := scanDown_le (fun x => ol d[a]! x) d (scanUp (fun x => !ol d[a]! x) d j i) j
    rw [partEqLoop_eq]
    generalize scanUp (fun x => !ol d[a]! x) d j i = i2 at *
    generalize scanDown (fun x => ol d[a]! x) d i2 j = j2 at *
    have hc : i2 > j2 := by omega
    rw [if_pos hc]
    refine ⟨(j2 : Int), pIter_inr ?_⟩
    unfold gs_partitionEqual_2
    have e : pLt (j2 : Int) (i2 : Int) = true := by rw [ltN]; simp; omega
    simp only [hu, hdn, e, pBind, Option.bind_some, if_true]
  | succ n ih =>
    intro i j d hn ha hi hj hd
    have hu := eq_up a i j d ha hj hd
    have hge := scanUp_ge (fun x => !ol d[a]! x) d j i
    have hdn := eq_down a (scanUp (fun x => !ol d[a]! x) d j i) j d (i : Int) (by omega) ha hj hd
    have hle := scanDown_le (fun x => ol d[a]! x) d (scanUp (fun x => !ol d[a]! x) d j i) j
    rw [partEqLoop_eq]
    generalize scanUp (fun x => !ol d[a]! x) d j i = i2 at *
    generalize scanDown (fun x => ol d[a]! x) d i2 j = j2 at *
    by_cases hc : i2 > j2
    · rw [if_pos hc]
      refine ⟨(j2 : Int), pIter_inr ?_⟩
      unfold gs_partitionEqual_2
      have e : pLt (j2 : Int) (i2 : Int) = true := by rw [ltN]; simp; omega
      simp only [hu, hdn, e, pBind, Option.bind_some, if_true]
    · rw [if_neg hc]
      obtain ⟨j3, rfl⟩ : ∃ j3, j2 = j3 + 1 := ⟨j2 - 1, by omega⟩
      obtain ⟨k, hk⟩ := ih (i2 + 1) j3 (swp d i2 (j3 + 1)) (by omega) (by rw [swS]; exact ha) (by omega) (by rw [swS]; omega) (by rw [swS]; exact hd)
      have e : pLt ((j3 + 1 : Nat) : Int) (i2 : Int) = false := by rw [ltN]; simp; omega
      have hs : (gs_partitionEqual_2 (default : α) oc) (a : Int) ((i : Int), ((j : Int), (d.toList, ()))) = some (.inl (((i2 + 1 : Nat) : Int), ((j3 : Int), ((swp d i2 (j3 + 1)).toList, ())))) := by
        unfold gs_partitionEqual_2
        simp only [hu, hdn, e, inE (d := d) (i := j3 + 1) (by omega), inE (d := d) (i := i2) (by omega), inS (d := d) (i := j3 + 1) (j := i2) (x := d[j3 + 1]!) (by omega), getE, swE, pBind, Option.bind_some, if_true, Bool.false_eq_true, if_false, add1 (n := i2) (by omega), sub1 (n := j3) (by omega)]
      rw [show j3 + 1 - 1 = j3 from rfl]
      exact ⟨k, by rw [pIter_inl hs, hk]⟩
theorem partitionEqual_eq (a b pivot : Nat) (d : Array α) (hap : a ≤ pivot) (hpb : pivot < b) (hb : b ≤ d.size) (hd : d.size < 2 ^ 59) :
    (gm_partitionEqual (default : α) oc) (a : Int) (b : Int) (pivot : Int) d.toList = some (((partitionEqual ol d a b pivot).1 : Int), ((partitionEqual ol d a b pivot).2.toList, ())) := by
  have es : pSub .i64 (b : Int) 1 = ((b - 1 : Nat) : Int) := by obtain ⟨b', rfl⟩ : ∃ b', b = b' + 1 := ⟨b - 1, by omega⟩; rw [sub1 (by omega)]; rfl
  have j1 := inE (d := d) (i := pivot) (by omega)
  have j2 := inE (d := d) (i := a) (by omega)
  have j3 := inS (d := d) (i := pivot) (j := a) (x := d[pivot]!) (by omega)
  obtain ⟨k, hk⟩ := eq_loop a _ (a + 1) (b - 1) (swp d a pivot) (Nat.le_refl _) (by rw [swS]; omega) (by omega) (by rw [swS]; omega) (by rw [swS]; exact hd)
  unfold gm_partitionEqual
  simp only [j1, j2, j3, getE, swE, if_true, add1 (n := a) (by omega), es, hk, pBind, Option.bind_some]
  rfl
theorem scanS_bd (b : Nat) (d : Array α) : ∀ (n i : Nat), b - i = n → i ≤ b → i ≤ scanSorted ol d b i ∧ scanSorted ol d b i ≤ b := by
  intro n
  induction n with
  | zero =>
    intro i hn hi
    have : scanSorted ol d b i = i := by rw [scanSorted.eq_def, if_neg (by simp; omega)]
    omega
  | succ n ih =>
    intro i hn hi
    rw [scanSorted.eq_def]
    split
    · have := ih (i + 1) (by omega) (by omega)
      omega
    · omega
theorem scanS_eq (b : Nat) (d : Array α) (x y : Int) (hb : b ≤ d.size) (hd : d.size < 2 ^ 59) : ∀ (n i : Nat), b - i = n → 1 ≤ i →
    pIter ((gs_partialInsertionSort_0 (default : α) oc) (b : Int) (x, (y, (d.toList, ())))) ((i : Int), ()) = some ((scanSorted ol d b i : Int), ()) := by
  intro n
  induction n with
  | zero =>
    intro i hn hi
    have : scanSorted ol d b i = i := by rw [scanSorted.eq_def, if_neg (by simp; omega)]
    rw [this]
    refine pIter_inr ?_
    unfold gs_partialInsertionSort_0
    have e : pLt (i : Int) (b : Int) = false := by rw [ltN]; simp; omega
    simp only [e, Bool.false_eq_true, if_false, pBind, Option.bind_some]
  | succ n ih =>
    intro i hn hi
    obtain ⟨i', rfl⟩ : ∃ i', i = i' + 1 := ⟨i - 1, by omega⟩
    have e : pLt ((i' + 1 : Nat) : Int) (b : Int) = true := by rw [ltN]; simp; omega
    have hst : (gs_partialInsertionSort_0 (default : α) oc) (b : Int) (x, (y, (d.toList, ()))) (((i' + 1 : Nat) : Int), ()) = if !ol d[i' + 1]! d[i']! then some (.inl (((i' + 1 + 1 : Nat) : Int), ())) else some (.inr (((i' + 1 : Nat) : Int), ())) := by
      unfold gs_partialInsertionSort_0
      simp only [e, sub1 (n := i') (by omega), add1 (n := i' + 1) (by omega), inE (d := d) (i := i' + 1) (by omega), inE (d := d) (i := i') (by omega), getE, lessC, ltC, if_true, pBind, Option.bind_some, pNot]
    cases hl : ol d[i' + 1]! d[i']! with
    | false =>
      rw [hl] at hst
      rw [pIter_inl hst, ih (i' + 1 + 1) (by omega) (by omega)]
      have : scanSorted ol d b (i' + 1) = scanSorted ol d b (i' + 1 + 1) := by
        rw [scanSorted.eq_def ol d b (i' + 1), if_pos (by simp [hl]; omega)]
      rw [this]
    | true =>
      rw [hl] at hst
      have : scanSorted ol d b (i' + 1) = i' + 1 := by
        rw [scanSorted.eq_def, if_neg (by simp [hl])]
      rw [this]
      exact pIter_inr hst
theorem shiftD_eq : ∀ (j : Nat) (d : Array α), j < d.size → d.size < 2 ^ 59 →
    (∃ k, pIter (gs_partialInsertionSort_1 (default : α) oc) ((j : Int), (d.toList, ())) = some (k, ((shiftDown ol j d).toList, ()))) ∧ (shiftDown ol j d).size = d.size
  | 0, d, hj, hd => by
    refine ⟨⟨((0 : Nat) : Int), pIter_inr ?_⟩, rfl⟩
    unfold gs_partialInsertionSort_1
    have e : pLe 1 ((0 : Nat) : Int) = false := by decide
    simp only [e, Bool.false_eq_true, if_false, shiftDown]
  | j + 1, d, hj, hd => by
    have e : pLe 1 ((j + 1 : Nat) : Int) = true := by simp [pLe]; omega
    cases hl : ol d[j + 1]! d[j]! with
    | false =>
      have hr : shiftDown ol (j + 1) d = d := by rw [shiftDown, if_pos (by simp [hl])]
      rw [hr]
      refine ⟨⟨((j + 1 : Nat) : Int), pIter_inr ?_⟩, rfl⟩
      unfold gs_partialInsertionSort_1
      simp only [e, sub1 (n := j) (by omega), inE (d := d) (i := j + 1) (by omega), inE (d := d) (i := j) (by omega), getE, lessC, ltC, hl, if_true, pBind, Option.bind_some, pNot, Bool.not_false]
    | true =>
      have hr : shiftDown ol (j + 1) d = shiftDown ol j (swp d (j + 1) j) := by rw [shiftDown, if_neg (by simp [hl])]
      rw [hr]
      obtain ⟨⟨k, hk⟩, hz⟩ := shiftD_eq j (swp d (j + 1) j) (by rw [swS]; omega) (by rw [swS]; exact hd)
      rw [swS] at hz
      refine ⟨⟨k, ?_⟩, hz⟩
      rw [← hk]
      refine pIter_inl ?_
      unfold gs_partialInsertionSort_1
      simp only [e, sub1 (n := j) (by omega), inE (d := d) (i := j + 1) (by omega), inE (d := d) (i := j) (by omega), inS (d := d) (i := j) (j := j + 1) (x := d[j]!) (by omega), getE, lessC, ltC, hl, if_true, pBind, Option.bind_some, pNot, Bool.not_true, Bool.false_eq_true, if_false, swE]
theorem shiftU_eq2 (b : Nat) : ∀ (n j : Nat) (d : Array α), b - j = n → 1 ≤ j → b ≤ d.size → d.size < 2 ^ 59 →
    (∃ k, pIter ((gs_partialInsertionSort_2 (default : α) oc) (b : Int)) ((j : Int), (d.toList, ())) = some (k, ((shiftUp ol b j d).toList, ()))) ∧ (shiftUp ol b j d).size = d.size := by
  intro n
  induction n with
  | zero =>
    intro j d hn hj hb hd
    have hr : shiftUp ol b j d = d := by rw [shiftUp.eq_def]; exact if_neg (by omega)
    rw [hr]
    refine ⟨⟨(j : Int), pIter_inr ?_⟩, rfl⟩
    unfold gs_partialInsertionSort_2
    have e : pLt (j : Int) (b : Int) = false := by rw [ltN]; simp; omega
    simp only [e, Bool.false_eq_true, if_false]
  | succ n ih =>
    intro j d hn hj hb hd
    obtain ⟨j', rfl⟩ : ∃ j', j = j' + 1 := ⟨j - 1, by omega⟩
    have e : pLt ((j' + 1 : Nat) : Int) (b : Int) = true := by rw [ltN]; simp; omega
    cases hl : ol d[j' + 1]! d[j']! with
    | false =>
      have hr : shiftUp ol b (j' + 1) d = d := by
        rw [shiftUp.eq_def, if_pos (by omega)]
        exact if_pos (by simp [hl])
      rw [hr]
      refine ⟨⟨((j' + 1 : Nat) : Int), pIter_inr ?_⟩, rfl⟩
      unfold gs_partialInsertionSort_2
      simp only [e, sub1 (n := j') (by omega), inE (d := d) (i := j' + 1) (by omega), inE (d := d) (i := j') (by omega), getE, lessC, ltC, hl, if_true, pBind, Option.bind_some, pNot, Bool.not_false]
    | true =>
      have hr : shiftUp ol b (j' + 1) d = shiftUp ol b (j' + 1 + 1) (swp d (j' + 1) j') := by
        rw [shiftUp.eq_def, if_pos (by omega)]
        exact if_neg (by simp [hl])
      rw [hr]
      obtain ⟨⟨k, hk⟩, hz⟩ := ih (j' + 1 + 1) (swp d (j' + 1) j') (by omega) (by omega) (by rw [swS]; omega) (by rw [swS]; exact hd)
      rw [swS] at hz
      refine ⟨⟨k, ?_⟩, hz⟩
      rw [← hk]
      refine pIter_inl ?_
      unfold gs_partialInsertionSort_2
      simp only [e, sub1 (n := j') (by omega), add1 (n := j' + 1) (by omega), inE (d := d) (i := j' + 1) (by omega), inE (d := d) (i := j') (by omega), inS (d := d) (i := j') (j := j' + 1) (x := d[j']!) (by omega), getE, lessC, ltC, hl, if_true, pBind, Option.bind_some, pNot, Bool.not_true, Bool.false_eq_true, if_false, swE]
theorem shift23 : (gs_partialInsertionSort_3 (default : α) oc) = (gs_partialInsertionSort_2 (default : α) oc) := rfl
theorem partIns_eq (a b : Nat) : ∀ (s i : Nat) (d : Array α), s ≤ 5 → a + 1 ≤ i → i ≤ b → b ≤ d.size → d.size < 2 ^ 59 →
    ∃ R, pIter ((gs_partialInsertionSort_4 (default : α) oc) (b : Int) (a : Int)) ((i : Int), (((5 - s : Nat) : Int), (d.toList, ()))) = some R ∧ (R = .inl ((partialIns ol a b s i d).2, ((partialIns ol a b s i d).1.toList, ())) ∨ ((partialIns ol a b s i d).2 = false ∧ ∃ k1 k2, R = .inr (k1, (k2, ((partialIns ol a b s i d).1.toList, ())))))
  | 0, i, d, hs, hi, hib, hb, hd => by
    refine ⟨.inr ((i : Int), (((5 : Nat) : Int), (d.toList, ()))), pIter_inr ?_, .inr ⟨rfl, _, _, rfl⟩⟩
    unfold gs_partialInsertionSort_4
    have e : pLt ((5 - 0 : Nat) : Int) 5 = false := by decide
    simp only [e, Bool.false_eq_true, if_false]
  | s + 1, i, d, hs, hi, hib, hb, hd => by
    have hsc := scanS_eq b d (i : Int) ((5 - (s + 1) : Nat) : Int) hb hd _ i rfl (by omega)
    have hbd := scanS_bd b d _ i rfl hib
    have e : pLt ((5 - (s + 1) : Nat) : Int) 5 = true := by simp [pLt]; omega
    have eba : pSub .i64 (b : Int) (a : Int) = ((b - a : Nat) : Int) := subN (by omega) (by omega)
    rw [partialIns_succ]
    generalize scanSorted ol d b i = i' at *
    by_cases hib' : i' = b
    · rw [if_pos hib']
      refine ⟨.inl (true, (d.toList, ())), pIter_inr ?_, .inl rfl⟩
      unfold gs_partialInsertionSort_4
      have e2 : pEq (i' : Int) (b : Int) = true := by simp [pEq, hib']
      simp only [e, hsc, e2, if_true, pBind, Option.bind_some, pCase]
    · rw [if_neg hib']
      have e2 : pEq (i' : Int) (b : Int) = false := by simp [pEq]; omega
      by_cases h50 : b - a < 50
      · rw [if_pos h50]
        refine ⟨.inl (false, (d.toList, ())), pIter_inr ?_, .inl rfl⟩
        unfold gs_partialInsertionSort_4
        have e3 : pLt ((b - a : Nat) : Int) 50 = true := by simp [pLt]; omega
        simp only [e, hsc, e2, eba, e3, if_true, pBind, Option.bind_some, pCase, Bool.false_eq_true, if_false]
      · rw [if_neg h50]
        have e3 : pLt ((b - a : Nat) : Int) 50 = false := by simp [pLt]; omega
        obtain ⟨m, rfl⟩ : ∃ m, i' = m + 1 := ⟨i' - 1, by omega⟩
        simp only [Nat.add_sub_cancel]
        have e4 : pSub .i64 ((m + 1 : Nat) : Int) (a : Int) = ((m + 1 - a : Nat) : Int) := subN (by omega) (by omega)
        have e5 : pSub .i64 (b : Int) ((m + 1 : Nat) : Int) = ((b - (m + 1) : Nat) : Int) := subN (by omega) (by omega)
        have e6 : pAdd .i64 ((5 - (s + 1) : Nat) : Int) 1 = ((5 - s : Nat) : Int) := by rw [add1 (by omega)]; congr 1; omega
        obtain ⟨⟨k1, hk1⟩, z1⟩ := shiftD_eq m (swp d (m + 1) m) (by rw [swS]; omega) (by rw [swS]; exact hd)
        rw [swS] at z1
        have step : ∀ d2 : Array α, d2 = (if b - (m + 1) ≥ 2 then shiftUp ol b (m + 1 + 1) (if m + 1 - a ≥ 2 then shiftDown ol m (swp d (m + 1) m) else swp d (m + 1) m) else (if m + 1 - a ≥ 2 then shiftDown ol m (swp d (m + 1) m) else swp d (m + 1) m)) →
            d2.size = d.size ∧ (gs_partialInsertionSort_4 (default : α) oc) (b : Int) (a : Int) ((i : Int), (((5 - (s + 1) : Nat) : Int), (d.toList, ()))) = some (.inl (((m + 1 : Nat) : Int), (((5 - s : Nat) : Int), (d2.toList, ())))) := by
          intro d2 hd2
          by_cases hA : m + 1 - a ≥ 2
          · rw [if_pos hA] at hd2
            have eA : pLe 2 ((m + 1 - a : Nat) : Int) = true := by simp [pLe]; omega
            by_cases hB : b - (m + 1) ≥ 2
            · rw [if_pos hB] at hd2
              have eB : pLe 2 ((b - (m + 1) : Nat) : Int) = true := by simp [pLe]; omega
              obtain ⟨⟨k2, hk2⟩, z2⟩ := shiftU_eq2 b _ (m + 1 + 1) (shiftDown ol m (swp d (m + 1) m)) rfl (by omega) (by omega) (by omega)
              rw [← hd2] at hk2 z2
              refine ⟨by omega, ?_⟩
              unfold gs_partialInsertionSort_4
              simp only [e, hsc, e2, eba, e3, e4, e5, e6, eA, eB, sub1 (n := m) (by omega), add1 (n := m + 1) (by omega), inE (d := d) (i := m + 1) (by omega), inE (d := d) (i := m) (by omega), inS (d := d) (i := m) (j := m + 1) (x := d[m]!) (by omega), getE, swE, hk1, hk2, if_true, pBind, Option.bind_some, pCase, Bool.false_eq_true, if_false]
            · rw [if_neg hB] at hd2
              subst hd2
              have eB : pLe 2 ((b - (m + 1) : Nat) : Int) = false := by simp [pLe]; omega
              refine ⟨by omega, ?_⟩
              unfold gs_partialInsertionSort_4
              simp only [e, hsc, e2, eba, e3, e4, e5, e6, eA, eB, sub1 (n := m) (by omega), add1 (n := m + 1) (by omega), inE (d := d) (i := m + 1) (by omega), inE (d := d) (i := m) (by omega), inS (d := d) (i := m) (j := m + 1) (x := d[m]!) (by omega), getE, swE, hk1, if_true, pBind, Option.bind_some, pCase, Bool.false_eq_true, if_false]
          · rw [if_neg hA] at hd2
            have eA : pLe 2 ((m + 1 - a : Nat) : Int) = false := by simp [pLe]; omega
            by_cases hB : b - (m + 1) ≥ 2
            · rw [if_pos hB] at hd2
              have eB : pLe 2 ((b - (m + 1) : Nat) : Int) = true := by simp [pLe]; omega
              obtain ⟨⟨k2, hk2⟩, z2⟩ := shiftU_eq2 b _ (m + 1 + 1) (swp d (m + 1) m) rfl (by omega) (by rw [swS]; omega) (by rw [swS]; omega)
              rw [swS] at z2
              rw [← hd2] at hk2 z2
              refine ⟨by omega, ?_⟩
              unfold gs_partialInsertionSort_4
              simp only [e, hsc, e2, eba, e3, e4, e5, e6, eA, eB, sub1 (n := m) (by omega), add1 (n := m + 1) (by omega), inE (d := d) (i := m + 1) (by omega), inE (d := d) (i := m) (by omega), inS (d := d) (i := m) (j := m + 1) (x := d[m]!) (by omega), getE, swE, shift23, hk2, if_true, pBind, Option.bind_some, pCase, Bool.false_eq_true, if_false]
            · rw [if_neg hB] at hd2
              subst hd2
              have eB : pLe 2 ((b - (m + 1) : Nat) : Int) = false := by simp [pLe]; omega
              refine ⟨by rw [swS], ?_⟩
              unfold gs_partialInsertionSort_4
              simp only [e, hsc, e2, eba, e3, e4, e5, e6, eA, eB, sub1 (n := m) (by omega), add1 (n := m + 1) (by omega), inE (d := d) (i := m + 1) (by omega), inE (d := d) (i := m) (by omega), inS (d := d) (i := m) (j := m + 1) (x := d[m]!) (by omega), getE, swE, if_true, pBind, Option.bind_some, pCase, Bool.false_eq_true, if_false]
        obtain ⟨hz, hst⟩ := step _ rfl
        obtain ⟨R, hR1, hR2⟩ := partIns_eq a b s (m + 1) _ (by omega) (by omega) (by omega) (by rw [hz]; exact hb) (by rw [hz]; exact hd)
        exact ⟨R, by rw [pIter_inl hst]; exact hR1, hR2⟩
theorem partialIns_eq (a b : Nat) (d : Array α) (hab : a < b) (hb : b ≤ d.size) (hd : d.size < 2 ^ 59) :
    (gm_partialInsertionSort (default : α) oc) (a : Int) (b : Int) d.toList = some ((partialInsertionSort ol d a b).2, ((partialInsertionSort ol d a b).1.toList, ())) := by
  unfold gm_partialInsertionSort
  obtain ⟨R, h1, h2⟩ := partIns_eq a b 5 (a + 1) d (Nat.le_refl _) (Nat.le_refl _) hab hb hd
  have h1' : pIter ((gs_partialInsertionSort_4 (default : α) oc) (b : Int) (a : Int)) (((a + 1 : Nat) : Int), (0, (d.toList, ()))) = some R := h1
  rw [add1 (n := a) (by omega), h1']
  unfold partialInsertionSort
  rcases h2 with rfl | ⟨hf, k1, k2, rfl⟩
  · rfl
  · simp only [pBind, Option.bind_some, pCase, hf]
theorem order2_eq (d : Array α) (a b s : Nat) (ha : a < d.size) (hb : b < d.size) (hs : s < 2 ^ 59) : (gm_order2 (default : α) oc) d.toList (a : Int) (b : Int) (s : Int) = some (((order2 ol d a b s).1 : Int), (((order2 ol d a b s).2.1 : Int), (((order2 ol d a b s).2.2 : Int), ()))) := by
  unfold gm_order2 order2
  simp only [inE ha, inE hb, getE, lessC, ltC, if_true, pBind, Option.bind_some, add1 (n := s) (by omega)]
  cases ol d[b]! d[a]! <;> simp
theorem order2_cnt (d : Array α) (a b s : Nat) : (order2 ol d a b s).2.2 ≤ s + 1 := by
  unfold order2
  split <;> simp
theorem median_eq (d : Array α) (a b c s : Nat) (ha : a < d.size) (hb : b < d.size) (hc : c < d.size) (hs : s < 2 ^ 58) : (gm_median (default : α) oc) d.toList (a : Int) (b : Int) (c : Int) (s : Int) = some (((median ol d a b c s).1 : Int), (((median ol d a b c s).2 : Int), ())) ∧ (median ol d a b c s).2 ≤ s + 3 := by
  have n1 := order2_cnt d a b s
  have m1 := order2_mem ol d a b s
  have q1 := order2_eq d a b s ha hb (by omega)
  unfold gm_median median
  generalize order2 ol d a b s = r1 at *
  have n2 := order2_cnt d r1.2.1 c r1.2.2
  have m2 := order2_mem ol d r1.2.1 c r1.2.2
  have q2 := order2_eq d r1.2.1 c r1.2.2 (by omega) hc (by omega)
  simp only [q1, q2, pBind, Option.bind_some]
  generalize order2 ol d r1.2.1 c r1.2.2 = r2 at *
  have n3 := order2_cnt d r1.1 r2.1 r2.2.2
  have q3 := order2_eq d r1.1 r2.1 r2.2.2 (by omega) (by omega) (by omega)
  simp only [q3, Option.bind_some]
  exact ⟨trivial, by omega⟩
theorem medianAdj_eq (d : Array α) (a s : Nat) (h1 : 1 ≤ a) (h2 : a + 1 < d.size) (hd : d.size < 2 ^ 59) (hs : s < 2 ^ 58) : (gm_medianAdjacent (default : α) oc) d.toList (a : Int) (s : Int) = some (((medianAdjacent ol d a s).1 : Int), (((medianAdjacent ol d a s).2 : Int), ())) ∧ (medianAdjacent ol d a s).2 ≤ s + 3 := by
  obtain ⟨a', rfl⟩ : ∃ a', a = a' + 1 := ⟨a - 1, by omega⟩
  have q := median_eq d a' (a' + 1) (a' + 1 + 1) s (by omega) (by omega) (by omega) hs
  unfold gm_medianAdjacent medianAdjacent
  simp only [sub1 (n := a') (by omega), add1 (n := a' + 1) (by omega), q.1, pBind, Option.bind_some, Nat.add_sub_cancel]
  exact ⟨trivial, q.2⟩
def hintN : Hint → Int | .unknown => 0 | .increasing => 1 | .decreasing => 2
theorem pivot_eq (d : Array α) (a b : Nat) (hab : a + 8 ≤ b) (hb : b ≤ d.size) (hd : d.size < 2 ^ 58) : (gm_choosePivot (default : α) oc) d.toList (a : Int) (b : Int) = some (((choosePivot ol d a b).1 : Int), (hintN (choosePivot ol d a b).2, ())) := by
  have e4 : pNot (pEq 4 0) = true := by decide
  have eba : pSub .i64 (b : Int) (a : Int) = ((b - a : Nat) : Int) := subN (by omega) (by omega)
  have eq4 : pQuo .i64 ((b - a : Nat) : Int) 4 = (((b - a) / 4 : Nat) : Int) := by rw [show (4 : Int) = ((4 : Nat) : Int) from rfl, quo64 (by omega)]
  have em : ∀ k : Nat, k ≤ 3 → pAdd .i64 (a : Int) (pMul .i64 (((b - a) / 4 : Nat) : Int) (k : Int)) = ((a + (b - a) / 4 * k : Nat) : Int) := by
    intro k hk
    have hb1 : (b - a) / 4 * k ≤ (b - a) / 4 * 3 := Nat.mul_le_mul_left _ hk
    have hm : pMul .i64 (((b - a) / 4 : Nat) : Int) (k : Int) = (((b - a) / 4 * k : Nat) : Int) := by
      have : (((b - a) / 4 : Nat) : Int) * (k : Int) = (((b - a) / 4 * k : Nat) : Int) := by simp
      rw [mul64 (by rw [this]; omega) (by rw [this]; omega), this]
    rw [hm, addN (by omega)]
  have em1 := em 1 (by omega)
  have em2 := em 2 (by omega)
  have em3 := em 3 (by omega)
  have e8 : pLe 8 ((b - a : Nat) : Int) = true := by simp [pLe]; omega
  have fin : ∀ (x n : Nat), (if pEq (n : Int) 0 = true then some ((x : Int), ((1 : Int), ())) else if pEq (n : Int) 12 = true then some ((x : Int), (2, ())) else some ((x : Int), (0, ())) : Option (Int × (Int × Unit))) = some ((x : Int), (hintN (if n = 0 then .increasing else if n = 12 then .decreasing else .unknown), ())) := by
    intro x n
    by_cases h0 : n = 0
    · subst h0; rfl
    · have z0 : pEq (n : Int) 0 = false := by simp [pEq, h0]
      rw [if_neg (by rw [z0]; simp), if_neg h0]
      by_cases h12 : n = 12
      · subst h12; rfl
      · have z1 : pEq (n : Int) 12 = false := by simp [pEq]; omega
        rw [if_neg (by rw [z1]; simp), if_neg h12]
        rfl
  unfold gm_choosePivot choosePivot
  by_cases h50 : b - a ≥ 50
  · have e50 : pLe 50 ((b - a : Nat) : Int) = true := by simp [pLe]; omega
    have q1 := medianAdj_eq d (a + (b - a) / 4 * 1) 0 (by omega) (by omega) (by omega) (by omega)
    have q2 := medianAdj_eq d (a + (b - a) / 4 * 2) (medianAdjacent ol d (a + (b - a) / 4 * 1) 0).2 (by omega) (by omega) (by omega) (by omega)
    have q3 := medianAdj_eq d (a + (b - a) / 4 * 3) (medianAdjacent ol d (a + (b - a) / 4 * 2) (medianAdjacent ol d (a + (b - a) / 4 * 1) 0).2).2 (by omega) (by omega) (by omega) (by omega)
    have m1 := medianAdjacent_mem ol d (a + (b - a) / 4 * 1) 0
    have m2 := medianAdjacent_mem ol d (a + (b - a) / 4 * 2) (medianAdjacent ol d (a + (b - a) / 4 * 1) 0).2
    have m3 := medianAdjacent_mem ol d (a + (b - a) / 4 * 3) (medianAdjacent ol d (a + (b - a) / 4 * 2) (medianAdjacent ol d (a + (b - a) / 4 * 1) 0).2).2
    rw [show ((0 : Nat) : Int) = 0 from rfl] at q1
    rw [show ((1 : Nat) : Int) = 1 from rfl] at em1
    rw [show ((2 : Nat) : Int) = 2 from rfl] at em2
    rw [show ((3 : Nat) : Int) = 3 from rfl] at em3
    simp only [e4, eba, eq4, em1, em2, em3, e8, e50, q1.1, q2.1, q3.1, if_true, pBind, Option.bind_some, if_pos h50, if_pos (show b - a ≥ 8 by omega)]
    generalize medianAdjacent ol d (a + (b - a) / 4 * 1) 0 = r1 at *
    generalize medianAdjacent ol d (a + (b - a) / 4 * 2) r1.2 = r2 at *
    generalize medianAdjacent ol d (a + (b - a) / 4 * 3) r2.2 = r3 at *
    have q4 := median_eq d r1.1 r2.1 r3.1 r3.2 (by omega) (by omega) (by omega) (by omega)
    simp only [q4.1, Option.bind_some]
    exact fin _ _
  · have e50 : pLe 50 ((b - a : Nat) : Int) = false := by simp [pLe]; omega
    rw [show ((1 : Nat) : Int) = 1 from rfl] at em1
    rw [show ((2 : Nat) : Int) = 2 from rfl] at em2
    rw [show ((3 : Nat) : Int) = 3 from rfl] at em3
    have q4 := median_eq d (a + (b - a) / 4 * 1) (a + (b - a) / 4 * 2) (a + (b - a) / 4 * 3) 0 (by omega) (by omega) (by omega) (by omega)
    rw [show ((0 : Nat) : Int) = 0 from rfl] at q4
    simp only [e4, eba, eq4, em1, em2, em3, e8, e50, q4.1, if_true, pBind, Option.bind_some, if_neg h50, if_pos (show b - a ≥ 8 by omega), Bool.false_eq_true, if_false]
    exact fin _ _
theorem wrapU {n : Int} (h0 : 0 ≤ n) (h1 : n < 2 ^ 64) : IntKind.wrap .u64 n = n := by
  simp [IntKind.wrap, IntKind.bits, IntKind.signed]
  omega
theorem ofIntU (u : UInt64) : BitVec.ofInt 64 ((u.toNat : Nat) : Int) = u.toBitVec := by
  rw [BitVec.ofInt_natCast]
  exact BitVec.eq_of_toNat_eq (by simp)
theorem xorU (u v : UInt64) : pXor .u64 (u.toNat : Int) (v.toNat : Int) = ((u ^^^ v).toNat : Int) := by
  show IntKind.wrap .u64 ((BitVec.ofInt 64 (u.toNat : Int) ^^^ BitVec.ofInt 64 (v.toNat : Int)).toNat : Int) = _
  rw [ofIntU, ofIntU, wrapU (by omega) (by have := (u.toBitVec ^^^ v.toBitVec).isLt; omega)]
  rfl
theorem shlU13 (u : UInt64) : pShl .u64 (u.toNat : Int) 13 = ((u <<< 13).toNat : Int) := by
  show IntKind.wrap .u64 ((u.toNat : Int) * 2 ^ 13) = _
  simp [IntKind.wrap, IntKind.bits, IntKind.signed, UInt64.toNat_shiftLeft, Nat.shiftLeft_eq]
theorem shlU17 (u : UInt64) : pShl .u64 (u.toNat : Int) 17 = ((u <<< 17).toNat : Int) := by
  show IntKind.wrap .u64 ((u.toNat : Int) * 2 ^ 17) = _
  simp [IntKind.wrap, IntKind.bits, IntKind.signed, UInt64.toNat_shiftLeft, Nat.shiftLeft_eq]
theorem shrU7 (u : UInt64) : pShr .u64 (u.toNat : Int) 7 = ((u >>> 7).toNat : Int) := by
  show Int.fdiv (u.toNat : Int) (2 ^ 7) = _
  rw [Int.fdiv_eq_ediv_of_nonneg _ (by omega)]
  simp [UInt64.toNat_shiftRight, Nat.shiftRight_eq_div_pow]
theorem next_eq (u : UInt64) : g_xorshift_Next (u.toNat : Int) = some (((xorNext u).toNat : Int), (((xorNext u).toNat : Int), ())) := by
  unfold g_xorshift_Next xorNext
  rw [if_pos (by decide), if_pos (by decide), if_pos (by decide)]
  simp only [shlU13, shrU7, shlU17, xorU]
theorem table : ((List.range 256).all fun n => decide (g_nextPowerOfTwo (n : Int) = some (((1 <<< bitsLen n : Nat) : Int), ()))) = true := by decide +kernel
theorem pow_eq {n : Nat} (h : n < 256) : g_nextPowerOfTwo (n : Int) = some (((1 <<< bitsLen n : Nat) : Int), ()) := by
  have := List.all_eq_true.1 table n (List.mem_range.2 h)
  exact of_decide_eq_true this
theorem tableL : ((List.range 256).all fun n => decide (g_bits_Len (pWrap .u64 (n : Int)) = some ((bitsLen n : Int), ()))) = true := by decide +kernel
theorem blen_eq {n : Nat} (h : n < 256) : g_bits_Len (pWrap .u64 (n : Int)) = some ((bitsLen n : Int), ()) := by
  have := List.all_eq_true.1 tableL n (List.mem_range.2 h)
  exact of_decide_eq_true this
theorem andU (u : UInt64) (m : Nat) (h1 : 1 ≤ m) (hm : m ≤ 1024) : pWrap .i64 (pAnd .u64 (u.toNat : Int) (pSub .u64 (m : Int) 1)) = ((u.toNat &&& (m - 1) : Nat) : Int) := by
  have e1 : pSub .u64 (m : Int) 1 = ((m - 1 : Nat) : Int) := by
    show IntKind.wrap .u64 ((m : Int) - 1) = _
    rw [wrapU (by omega) (by omega)]; omega
  rw [e1]
  have e2 : pAnd .u64 (u.toNat : Int) ((m - 1 : Nat) : Int) = ((u.toNat &&& (m - 1) : Nat) : Int) := by
    show IntKind.wrap .u64 ((BitVec.ofInt 64 (u.toNat : Int) &&& BitVec.ofInt 64 ((m - 1 : Nat) : Int)).toNat : Int) = _
    have hle : u.toNat &&& (m - 1) ≤ m - 1 := Nat.and_le_right
    have : (BitVec.ofInt 64 (u.toNat : Int) &&& BitVec.ofInt 64 ((m - 1 : Nat) : Int)).toNat = u.toNat &&& (m - 1) := by
      rw [ofIntU, BitVec.toNat_and, BitVec.ofInt_natCast, BitVec.toNat_ofNat, Nat.mod_eq_of_lt (by omega)]
      rfl
    rw [this, wrapU (by omega) (by omega)]
  rw [e2]
  have hle : u.toNat &&& (m - 1) ≤ m - 1 := Nat.and_le_right
  exact wrap64 (by omega) (by omega)
theorem break_step (a b : Nat) (u : UInt64) (d : Array α) (idx : Nat) (h8 : a + 8 ≤ b) (hl : b - a < 256) (hb : b ≤ d.size) (hd : d.size < 2 ^ 58) (h1 : idx ≤ a + (b - a) / 4 * 2 + 1) :
    (gs_breakPatterns_0 (default : α) oc) (a : Int) (b : Int) (((1 <<< bitsLen (b - a) : Nat) : Int), ()) ((idx : Int), (d.toList, ((u.toNat : Int), ()))) = some (.inl (((idx + 1 : Nat) : Int), ((breakStep a (b - a) (1 <<< bitsLen (b - a)) (u, d) idx).2.toList, (((breakStep a (b - a) (1 <<< bitsLen (b - a)) (u, d) idx).1.toNat : Int), ())))) := by
  have e4 : pNot (pEq 4 0) = true := by decide
  have eba : pSub .i64 (b : Int) (a : Int) = ((b - a : Nat) : Int) := subN (by omega) (by omega)
  have eq4 : pQuo .i64 ((b - a : Nat) : Int) 4 = (((b - a) / 4 : Nat) : Int) := by rw [show (4 : Int) = ((4 : Nat) : Int) from rfl, quo64 (by omega)]
  have em : pMul .i64 (((b - a) / 4 : Nat) : Int) 2 = (((b - a) / 4 * 2 : Nat) : Int) := by rw [mul64 (by omega) (by omega)]; omega
  have ea : pAdd .i64 (a : Int) (((b - a) / 4 * 2 : Nat) : Int) = ((a + (b - a) / 4 * 2 : Nat) : Int) := addN (by omega)
  have ea1 : pAdd .i64 ((a + (b - a) / 4 * 2 : Nat) : Int) 1 = ((a + (b - a) / 4 * 2 + 1 : Nat) : Int) := add1 (by omega)
  have ele : pLe (idx : Int) ((a + (b - a) / 4 * 2 + 1 : Nat) : Int) = true := by rw [leN]; simp; omega
  have hpow : 2 ^ bitsLen (b - a) ≤ 2 * (b - a) := two_pow_bitsLen_le (by omega)
  have hsh : 1 <<< bitsLen (b - a) = 2 ^ bitsLen (b - a) := Nat.one_shiftLeft _
  have hpos : 0 < 2 ^ bitsLen (b - a) := Nat.two_pow_pos _
  rw [hsh]
  generalize 2 ^ bitsLen (b - a) = m at *
  have hand := andU (xorNext u) m (by omega) (by omega)
  have hle : (xorNext u).toNat &&& (m - 1) ≤ m - 1 := Nat.and_le_right
  unfold breakStep gs_breakPatterns_0
  simp only [e4, eba, eq4, em, ea, ea1, ele, next_eq, hand, if_true, pBind, Option.bind_some]
  generalize (xorNext u).toNat &&& (m - 1) = o at *
  by_cases ho : o ≥ b - a
  · have e5 : pLe ((b - a : Nat) : Int) (o : Int) = true := by rw [leN]; simp; omega
    have e6 : pSub .i64 (o : Int) ((b - a : Nat) : Int) = ((o - (b - a) : Nat) : Int) := subN (by omega) (by omega)
    have e7 : pAdd .i64 (a : Int) ((o - (b - a) : Nat) : Int) = ((a + (o - (b - a)) : Nat) : Int) := addN (by omega)
    rw [if_pos ho]
    simp only [e5, e6, e7, if_true, Option.bind_some, inE (d := d) (i := a + (o - (b - a))) (by omega), inE (d := d) (i := idx) (by omega), inS (d := d) (i := a + (o - (b - a))) (j := idx) (x := d[a + (o - (b - a))]!) (by omega), getE, swE, add1 (n := idx) (by omega)]
  · have e5 : pLe ((b - a : Nat) : Int) (o : Int) = false := by rw [leN]; simp; omega
    have e7 : pAdd .i64 (a : Int) (o : Int) = ((a + o : Nat) : Int) := addN (by omega)
    rw [if_neg ho]
    simp only [e5, e7, if_true, Bool.false_eq_true, if_false, Option.bind_some, inE (d := d) (i := a + o) (by omega), inE (d := d) (i := idx) (by omega), inS (d := d) (i := a + o) (j := idx) (x := d[a + o]!) (by omega), getE, swE, add1 (n := idx) (by omega)]
theorem break_size (a l m : Nat) (st : UInt64 × Array α) (idx : Nat) : (breakStep a l m st idx).2.size = st.2.size := by
  unfold breakStep
  exact swS _ _ _
theorem break_eq (a b : Nat) (d : Array α) (h8 : a + 8 ≤ b) (hl : b - a < 256) (hb : b ≤ d.size) (hd : d.size < 2 ^ 58) :
    ∃ k, (gm_breakPatterns (default : α) oc) (a : Int) (b : Int) d.toList = some (.inl ((breakPatterns d a b).toList, (k, ()))) := by
  have e4 : pNot (pEq 4 0) = true := by decide
  have eba : pSub .i64 (b : Int) (a : Int) = ((b - a : Nat) : Int) := subN (by omega) (by omega)
  have eq4 : pQuo .i64 ((b - a : Nat) : Int) 4 = (((b - a) / 4 : Nat) : Int) := by rw [show (4 : Int) = ((4 : Nat) : Int) from rfl, quo64 (by omega)]
  have em : pMul .i64 (((b - a) / 4 : Nat) : Int) 2 = (((b - a) / 4 * 2 : Nat) : Int) := by rw [mul64 (by omega) (by omega)]; omega
  have ea : pAdd .i64 (a : Int) (((b - a) / 4 * 2 : Nat) : Int) = ((a + (b - a) / 4 * 2 : Nat) : Int) := addN (by omega)
  have es : pSub .i64 ((a + (b - a) / 4 * 2 : Nat) : Int) 1 = ((a + (b - a) / 4 * 2 - 1 : Nat) : Int) := by rw [show (1 : Int) = ((1 : Nat) : Int) from rfl]; exact subN (by omega) (by omega)
  have e8 : pLe 8 ((b - a : Nat) : Int) = true := by simp [pLe]; omega
  have ew : pWrap .u64 ((b - a : Nat) : Int) = ((UInt64.ofNat (b - a)).toNat : Int) := by
    show IntKind.wrap .u64 ((b - a : Nat) : Int) = _
    rw [wrapU (by omega) (by omega)]
    simp
    omega
  unfold gm_breakPatterns
  simp only [eba, e8, pow_eq hl, e4, eq4, em, ea, es, ew, if_true, pBind, Option.bind_some]
  have z1 : (breakStep a (b - a) (1 <<< bitsLen (b - a)) (UInt64.ofNat (b - a), d) (a + (b - a) / 4 * 2 - 1)).2.size = d.size := break_size a (b - a) (1 <<< bitsLen (b - a)) (UInt64.ofNat (b - a), d) (a + (b - a) / 4 * 2 - 1)
  have s1 := break_step a b (UInt64.ofNat (b - a)) d (a + (b - a) / 4 * 2 - 1) h8 hl hb hd (by omega)
  have hdef : breakPatterns d a b = (breakStep a (b - a) (1 <<< bitsLen (b - a)) (breakStep a (b - a) (1 <<< bitsLen (b - a)) (breakStep a (b - a) (1 <<< bitsLen (b - a)) (UInt64.ofNat (b - a), d) (a + (b - a) / 4 * 2 - 1)) (a + (b - a) / 4 * 2 - 1 + 1)) (a + (b - a) / 4 * 2 - 1 + 2)).2 := by
    unfold breakPatterns
    exact if_pos (by omega)
  rw [hdef]
  generalize breakStep a (b - a) (1 <<< bitsLen (b - a)) (UInt64.ofNat (b - a), d) (a + (b - a) / 4 * 2 - 1) = t1 at *
  have z2 := break_size a (b - a) (1 <<< bitsLen (b - a)) t1 (a + (b - a) / 4 * 2 - 1 + 1)
  have s2 := break_step a b t1.1 t1.2 (a + (b - a) / 4 * 2 - 1 + 1) h8 hl (by omega) (by omega) (by omega)
  rw [show (t1.1, t1.2) = t1 from rfl] at s2
  generalize breakStep a (b - a) (1 <<< bitsLen (b - a)) t1 (a + (b - a) / 4 * 2 - 1 + 1) = t2 at *
  have z3 := break_size a (b - a) (1 <<< bitsLen (b - a)) t2 (a + (b - a) / 4 * 2 - 1 + 2)
  have s3 := break_step a b t2.1 t2.2 (a + (b - a) / 4 * 2 - 1 + 2) h8 hl (by omega) (by omega) (by omega)
  rw [show (t2.1, t2.2) = t2 from rfl] at s3
  generalize breakStep a (b - a) (1 <<< bitsLen (b - a)) t2 (a + (b - a) / 4 * 2 - 1 + 2) = t3 at *
  have s4 : (gs_breakPatterns_0 (default : α) oc) (a : Int) (b : Int) (((1 <<< bitsLen (b - a) : Nat) : Int), ()) (((a + (b - a) / 4 * 2 - 1 + 3 : Nat) : Int), (t3.2.toList, ((t3.1.toNat : Int), ()))) = some (.inr (((a + (b - a) / 4 * 2 - 1 + 3 : Nat) : Int), (t3.2.toList, ((t3.1.toNat : Int), ())))) := by
    have ea1 : pAdd .i64 ((a + (b - a) / 4 * 2 : Nat) : Int) 1 = ((a + (b - a) / 4 * 2 + 1 : Nat) : Int) := add1 (by omega)
    have ele : pLe ((a + (b - a) / 4 * 2 - 1 + 3 : Nat) : Int) ((a + (b - a) / 4 * 2 + 1 : Nat) : Int) = false := by rw [leN]; simp; omega
    unfold gs_breakPatterns_0
    simp only [e4, eba, eq4, em, ea, ea1, ele, if_true, Bool.false_eq_true, if_false]
  refine ⟨(t3.1.toNat : Int), ?_⟩
  rw [pIter_inl s1, pIter_inl s2, pIter_inl s3, pIter_inr s4]
  rfl
theorem pdq_pre (self : (Int × (Int × (Int × ((List α) × Unit)))) → Option ((List α) × Unit)) (a b limit0 : Nat) (wb wp : Bool) (d : Array α) (hn : ¬ b - a ≤ 12) (hl : ¬ limit0 = 0) (hb : b ≤ d.size) (hs : d.size < 256) (hlim : limit0 < 2 ^ 60)
    (d1 : Array α) (limit : Nat) (c : Nat × Hint) (d2 : Array α) (pivot : Nat) (hint : Hint) (pi : Array α × Bool)
    (e1 : d1 = if (!wb) = true then breakPatterns d a b else d) (e2 : limit = if (!wb) = true then limit0 - 1 else limit0) (e3 : c = choosePivot ol d1 a b) (e4 : d2 = if c.2 = .decreasing then reverseRange d1 a b else d1)
    (e5 : pivot = if c.2 = .decreasing then (b - 1) - (c.1 - a) else c.1) (e6 : hint = if c.2 = .decreasing then Hint.increasing else c.2) (e7 : pi = if (wb && wp && decide (hint = .increasing)) = true then partialInsertionSort ol d2 a b else (d2, false))
    (z1 : d1.size = d.size) (z2 : d2.size = d.size) (z3 : pi.1.size = d.size) (hpv : a ≤ pivot ∧ pivot < b) (hc0 : a ≤ c.1 ∧ c.1 < b) :
    (gs_pdqsort_0 (default : α) oc) self ((a : Int), ((b : Int), ((limit0 : Int), (wb, (wp, (d.toList, ())))))) = if pi.2 = true then some (.inr (pi.1.toList, ())) else if (decide (a > 0) && !ol pi.1[a - 1]! pi.1[pivot]!) = true
      then ((gm_partitionEqual (default : α) oc) (a : Int) (b : Int) (pivot : Int) pi.1.toList).bind fun d132 => some (.inl (d132.1, ((b : Int), ((limit : Int), (wb, (wp, (d132.2.1, ())))))))
      else ((gm_partition (default : α) oc) (a : Int) (b : Int) (pivot : Int) pi.1.toList).bind fun d133 => if pNot (pEq 8 0) then if pLt (pSub .i64 d133.1 (a : Int)) (pSub .i64 (b : Int) d133.1) then (self ((a : Int), (d133.1, ((limit : Int), (d133.2.2.1, ()))))).bind fun d134 => some (.inl (pAdd .i64 d133.1 1, ((b : Int), ((limit : Int), (pLe (pQuo .i64 (pSub .i64 (b : Int) (a : Int)) 8) (pSub .i64 d133.1 (a : Int)), (d133.2.1, (d134.1, ())))))))
        else (self (pAdd .i64 d133.1 1, ((b : Int), ((limit : Int), (d133.2.2.1, ()))))).bind fun d135 => some (.inl ((a : Int), (d133.1, ((limit : Int), (pLe (pQuo .i64 (pSub .i64 (b : Int) (a : Int)) 8) (pSub .i64 (b : Int) d133.1), (d133.2.1, (d135.1, ()))))))) else none := by
  have eba : pSub .i64 (b : Int) (a : Int) = ((b - a : Nat) : Int) := subN (by omega) (by omega)
  have x1 : pLe ((b - a : Nat) : Int) 12 = false := by simp [pLe]; omega
  have x2 : pEq (limit0 : Int) 0 = false := by simp [pEq]; omega
  obtain ⟨kb, hkb⟩ := break_eq a b d (by omega) (by omega) hb (by omega)
  have H1 : (if pNot wb = true then (((gm_breakPatterns (default : α) oc) (a : Int) (b : Int) d.toList).bind (fun d135 => pCase d135 (fun d136 => some (d136.1, ())) (fun d137 => some (d137.1, ()))) : Option (List α × Unit)).bind (fun d138 => some (pSub .i64 (limit0 : Int) 1, (d138.1, ()))) else some ((limit0 : Int), (d.toList, ())) : Option (Int × (List α × Unit))) = some ((limit : Int), (d1.toList, ())) := by
    rw [e1, e2]
    cases wb with
    | true => rfl
    | false =>
      obtain ⟨l', rfl⟩ : ∃ l', limit0 = l' + 1 := ⟨limit0 - 1, by omega⟩
      have : pSub .i64 ((l' + 1 : Nat) : Int) 1 = (l' : Int) := sub1 (by omega)
      simp only [pNot, Bool.not_false, if_true, hkb, Option.bind_some, pCase, this, Nat.add_sub_cancel]
  have H2 := pivot_eq d1 a b (by omega) (by omega) (by omega)
  rw [← e3] at H2
  have hr := reverseRange_eq a b d1 (by omega) (by omega) (by omega)
  have H3 : (if pEq (hintN c.2) 2 = true then ((gm_reverseRange (default : α) oc) (a : Int) (b : Int) d1.toList).bind (fun d124 => some (pSub .i64 (pSub .i64 (b : Int) 1) (pSub .i64 (c.1 : Int) (a : Int)), ((1 : Int), (d124.1, ())))) else some ((c.1 : Int), (hintN c.2, (d1.toList, ()))) : Option (Int × (Int × (List α × Unit)))) = some ((pivot : Int), (hintN hint, (d2.toList, ()))) := by
    rw [e4, e5, e6]
    by_cases hd : c.2 = .decreasing
    · have y1 : pSub .i64 (b : Int) 1 = ((b - 1 : Nat) : Int) := by rw [show (1 : Int) = ((1 : Nat) : Int) from rfl]; exact subN (by omega) (by omega)
      have y2 : pSub .i64 (c.1 : Int) (a : Int) = ((c.1 - a : Nat) : Int) := subN (by omega) (by omega)
      have y3 : pSub .i64 ((b - 1 : Nat) : Int) ((c.1 - a : Nat) : Int) = ((b - 1 - (c.1 - a) : Nat) : Int) := subN (by omega) (by omega)
      have y4 : pEq (hintN c.2) 2 = true := by rw [hd]; rfl
      rw [if_pos y4, if_pos hd, if_pos hd, if_pos hd, hr, y1, y2]
      simp only [Option.bind_some, y3]
      rfl
    · have y4 : ¬ pEq (hintN c.2) 2 = true := by
        cases hh : c.2 with
        | unknown => decide
        | increasing => decide
        | decreasing => exact absurd hh hd
      rw [if_neg y4, if_neg hd, if_neg hd, if_neg hd]
  have hp := partialIns_eq a b d2 (by omega) (by omega) (by omega)
  have H4 : (if wb = true then if wp = true then if pEq (hintN hint) 1 = true then ((gm_partialInsertionSort (default : α) oc) (a : Int) (b : Int) d2.toList).bind (fun d126 => if d126.1 = true then some (.inl (d126.2.1, ())) else some (.inr (d126.2.1, ()))) else some (.inr (d2.toList, ())) else some (.inr (d2.toList, ())) else some (.inr (d2.toList, ())) : Option ((List α × Unit) ⊕ (List α × Unit))) = if pi.2 = true then some (.inl (pi.1.toList, ())) else some (.inr (pi.1.toList, ())) := by
    rw [e7]
    cases wb with
    | false => rfl
    | true =>
      cases wp with
      | false => rfl
      | true =>
        by_cases hh : hint = .increasing
        · have y : pEq (hintN hint) 1 = true := by rw [hh]; rfl
          have y2 : (true && true && decide (hint = .increasing)) = true := by simp [hh]
          rw [if_pos rfl, if_pos rfl, if_pos y, if_pos y2, hp]
          rfl
        · have y : ¬ pEq (hintN hint) 1 = true := by
            cases hint with
            | unknown => decide
            | increasing => exact absurd rfl hh
            | decreasing => decide
          have y2 : ¬ (true && true && decide (hint = .increasing)) = true := by simp [hh]
          rw [if_pos rfl, if_pos rfl, if_neg y, if_neg y2]
          rfl
  have H5 : (if pLt 0 (a : Int) = true then if pIn (pSub .i64 (a : Int) 1) (pLen pi.1.toList) = true then if pIn (pivot : Int) (pLen pi.1.toList) = true then (oc (pGet (default : α) pi.1.toList (pSub .i64 (a : Int) 1)) (pGet (default : α) pi.1.toList (pivot : Int))).bind (fun d130 => some (pNot (pLt d130.1 0), ())) else none else none else some (false, ()) : Option (Bool × Unit)) = some (decide (a > 0) && !ol pi.1[a - 1]! pi.1[pivot]!, ()) := by
    by_cases ha : a > 0
    · obtain ⟨a', rfl⟩ : ∃ a', a = a' + 1 := ⟨a - 1, by omega⟩
      have y : pLt 0 ((a' + 1 : Nat) : Int) = true := by simp [pLt]
      rw [if_pos y, sub1 (by omega), if_pos (inE (by omega)), if_pos (inE (by omega)), getE, getE, lessC]
      simp only [Option.bind_some, ltC]
      simp [pNot]
    · have y : ¬ pLt 0 (a : Int) = true := by simp [pLt]; omega
      rw [if_neg y]
      simp [ha]
  unfold gs_pdqsort_0
  simp only [eba, x1, x2, Bool.false_eq_true, if_false]
  simp only [pBind]
  rw [H1]
  simp only [Option.bind_some]
  rw [H2]
  simp only [Option.bind_some]
  rw [H3]
  simp only [Option.bind_some]
  rw [H4]
  cases hpi : pi.2 with
  | true => simp only [if_true, Option.bind_some, pCase]
  | false =>
    simp only [Bool.false_eq_true, if_false, Option.bind_some, pCase]
    rw [H5]
    simp only [Option.bind_some]
theorem pdq_run (d : Array α) (a b limit : Nat) (wb wp : Bool) : a ≤ b → b ≤ d.size → d.size < 256 → limit < 2 ^ 60 → Below ol a b d →
    ∃ N, ∀ n, N ≤ n → pIter ((gs_pdqsort_0 (default : α) oc) (recN (gb_pdqsort (default : α) oc) n)) ((a : Int), ((b : Int), ((limit : Int), (wb, (wp, (d.toList, ())))))) = some ((pdq ol d a b limit wb wp).toList, ()) := by
  have hself : ∀ (n : Nat) (d : Array α) (a b limit : Nat) (r : List α × Unit), pIter ((gs_pdqsort_0 (default : α) oc) (recN (gb_pdqsort (default : α) oc) n)) ((a : Int), ((b : Int), ((limit : Int), (true, (true, (d.toList, ())))))) = some r → recN (gb_pdqsort (default : α) oc) (n + 1) ((a : Int), ((b : Int), ((limit : Int), (d.toList, ())))) = some (r.1, ()) := by
    intro n d a b limit r h
    show (pIter ((gs_pdqsort_0 (default : α) oc) (recN (gb_pdqsort (default : α) oc) n)) ((a : Int), ((b : Int), ((limit : Int), (true, (true, (d.toList, ()))))))).bind (fun d136 => some (d136.1, ())) = _
    rw [h]
    rfl
  have b80 : pNot (pEq 8 0) = true := by decide
  fun_induction pdq ol d a b limit wb wp
  case case1 d a b limit wb wp h12 =>
    intro hab hb hs hlim hB
    refine ⟨0, fun n _ => pIter_inr ?_⟩
    have eba : pSub .i64 (b : Int) (a : Int) = ((b - a : Nat) : Int) := subN (by omega) (by omega)
    have x1 : pLe ((b - a : Nat) : Int) 12 = true := by simp [pLe]; omega
    unfold gs_pdqsort_0
    simp only [eba, x1, if_true, insertion_eq a b d hb (by omega) hab, pBind, Option.bind_some]
  case case2 d a b wb wp h12 =>
    intro hab hb hs hlim hB
    refine ⟨0, fun n _ => pIter_inr ?_⟩
    have eba : pSub .i64 (b : Int) (a : Int) = ((b - a : Nat) : Int) := subN (by omega) (by omega)
    have x1 : pLe ((b - a : Nat) : Int) 12 = false := by simp [pLe]; omega
    have x2 : pEq ((0 : Nat) : Int) 0 = true := by decide
    unfold gs_pdqsort_0
    simp only [eba, x1, x2, if_true, Bool.false_eq_true, if_false, heapSort_eq a b d (by omega) hb (by omega), pBind, Option.bind_some]
  case case3 d a b limit0 wb wp h12 hl d1 c d2 hint pi hpi2 =>
    intro hab hb hs hlim hB
    have s1 : PermIn a b d d1 := step_break d hab hb _
    have b1 : b ≤ d1.size := by rw [s1.1]; exact hb
    have s2 : PermIn a b d1 d2 := step_reverse reverseRange_holds d1 hab b1 _
    have b2 : b ≤ d2.size := by rw [s2.1]; exact b1
    have B2 : Below ol a b d2 := (hB.perm hb s1).perm b1 s2
    have s3 := step_partial partialInsertionSort_holds swo_ol d2 (a := a) (b := b) (by omega) b2 B2 ((wb && wp && decide (hint = Hint.increasing)) = true)
    have hc0 := choosePivot_holds ol d1 a b (by omega)
    refine ⟨0, fun n _ => pIter_inr ?_⟩
    rw [pdq_pre _ a b limit0 wb wp d h12 hl hb hs hlim d1 _ c d2 _ hint pi rfl rfl rfl rfl rfl rfl rfl s1.1 (s2.1.trans s1.1) ((s3.1.1).trans (s2.1.trans s1.1)) (pivot_range hc0.1 hc0.2 _) hc0, if_pos hpi2]
  case case4 d a b limit0 wb wp h12 hl d1 limit c d2 pivot hint pi hpi2 d3 hc mid d4 hx hg ih1 =>
    intro hab hb hs hlim hB
    have s1 : PermIn a b d d1 := step_break d hab hb _
    have b1 : b ≤ d1.size := by rw [s1.1]; exact hb
    have s2 : PermIn a b d1 d2 := step_reverse reverseRange_holds d1 hab b1 _
    have b2 : b ≤ d2.size := by rw [s2.1]; exact b1
    have B2 : Below ol a b d2 := (hB.perm hb s1).perm b1 s2
    have s3 := step_partial partialInsertionSort_holds swo_ol d2 (a := a) (b := b) (by omega) b2 B2 ((wb && wp && decide (hint = Hint.increasing)) = true)
    have s3' : PermIn a b d2 d3 := s3.1
    have b3 : b ≤ d3.size := by rw [s3'.1]; exact b2
    have B3 : Below ol a b d3 := B2.perm b2 s3'
    have hc0 := choosePivot_holds ol d1 a b (by omega)
    have hpv : a ≤ pivot ∧ pivot < b := pivot_range hc0.1 hc0.2 _
    have z3 : d3.size = d.size := (s3'.1).trans (s2.1.trans s1.1)
    have hpre := fun self => pdq_pre self a b limit0 wb wp d h12 hl hb hs hlim d1 limit c d2 pivot hint pi rfl rfl rfl rfl rfl rfl rfl s1.1 (s2.1.trans s1.1) z3 hpv hc0
    have hc' := hc
    simp only [Bool.and_eq_true, decide_eq_true_eq, Bool.not_eq_true'] at hc'
    obtain ⟨_, hm2, hs4, hB4, hfin⟩ := round_eq swo_ol (partitionEqual_holds ol) hc'.1 hpv.1 hpv.2 b3 B3 hc'.2 hx
    have hlim2 : limit < 2 ^ 60 := by show (if (!wb) = true then limit0 - 1 else limit0) < 2 ^ 60; split <;> omega
    obtain ⟨N, hN⟩ := ih1 hm2 (by rw [hs4]; exact b3) (by omega) hlim2 hB4
    have hpe := partitionEqual_eq a b pivot d3 hpv.1 hpv.2 b3 (by omega)
    rw [hx] at hpe
    refine ⟨N, fun n hn => ?_⟩
    rw [← hN n hn]
    refine pIter_inl ?_
    rw [hpre, if_neg hpi2, if_pos hc, hpe]
    rfl
  case case5 d a b limit0 wb wp h12 hl d1 c d2 pivot hint pi hpi2 d3 hc mid d4 hx hg =>
    intro hab hb hs hlim hB
    have s1 : PermIn a b d d1 := step_break d hab hb _
    have b1 : b ≤ d1.size := by rw [s1.1]; exact hb
    have s2 : PermIn a b d1 d2 := step_reverse reverseRange_holds d1 hab b1 _
    have b2 : b ≤ d2.size := by rw [s2.1]; exact b1
    have B2 : Below ol a b d2 := (hB.perm hb s1).perm b1 s2
    have s3 := step_partial partialInsertionSort_holds swo_ol d2 (a := a) (b := b) (by omega) b2 B2 ((wb && wp && decide (hint = Hint.increasing)) = true)
    have s3' : PermIn a b d2 d3 := s3.1
    have b3 : b ≤ d3.size := by rw [s3'.1]; exact b2
    have B3 : Below ol a b d3 := B2.perm b2 s3'
    have hc0 := choosePivot_holds ol d1 a b (by omega)
    have hpv : a ≤ pivot ∧ pivot < b := pivot_range hc0.1 hc0.2 _
    simp only [Bool.and_eq_true, decide_eq_true_eq, Bool.not_eq_true'] at hc
    obtain ⟨g1, g2, _⟩ := round_eq swo_ol (partitionEqual_holds ol) hc.1 hpv.1 hpv.2 b3 B3 hc.2 hx
    exact absurd ⟨g1, g2⟩ hg
  case case6 d a b limit0 wb wp h12 hl d1 limit c d2 pivot hint pi hpi2 d3 hc mid ap d4 hx hg hlt ih3 ih2 ih1 =>
    intro hab hb hs hlim hB
    have s1 : PermIn a b d d1 := step_break d hab hb _
    have b1 : b ≤ d1.size := by rw [s1.1]; exact hb
    have s2 : PermIn a b d1 d2 := step_reverse reverseRange_holds d1 hab b1 _
    have b2 : b ≤ d2.size := by rw [s2.1]; exact b1
    have B2 : Below ol a b d2 := (hB.perm hb s1).perm b1 s2
    have s3 := step_partial partialInsertionSort_holds swo_ol d2 (a := a) (b := b) (by omega) b2 B2 ((wb && wp && decide (hint = Hint.increasing)) = true)
    have s3' : PermIn a b d2 d3 := s3.1
    have b3 : b ≤ d3.size := by rw [s3'.1]; exact b2
    have B3 : Below ol a b d3 := B2.perm b2 s3'
    have hc0 := choosePivot_holds ol d1 a b (by omega)
    have hpv : a ≤ pivot ∧ pivot < b := pivot_range hc0.1 hc0.2 _
    have z3 : d3.size = d.size := (s3'.1).trans (s2.1.trans s1.1)
    have hpre := fun self => pdq_pre self a b limit0 wb wp d h12 hl hb hs hlim d1 limit c d2 pivot hint pi rfl rfl rfl rfl rfl rfl rfl s1.1 (s2.1.trans s1.1) z3 hpv hc0
    have hlim2 : limit < 2 ^ 60 := by show (if (!wb) = true then limit0 - 1 else limit0) < 2 ^ 60; split <;> omega
    obtain ⟨g1, g2, hs4, hBa, hBr, hleft, _⟩ := round_part swo_ol (partition_holds ol) hpv.1 hpv.2 b3 B3 hx
    obtain ⟨l1, l2⟩ := pdq_sorts ol swo_ol d4 a mid limit true true g1 (by rw [hs4]; omega) hBa
    obtain ⟨hBL, hfin⟩ := hleft _ l1 l2
    obtain ⟨N1, hN1⟩ := ih3 g1 (by rw [hs4]; omega) (by rw [hs4]; omega) hlim2 hBa
    obtain ⟨N2, hN2⟩ := ih1 (by omega) (by rw [l1.1, hs4]; exact b3) (by rw [l1.1, hs4]; omega) hlim2 hBL
    have hpt := partition_eq a b pivot d3 hpv.1 hpv.2 b3 (by omega)
    rw [hx] at hpt
    refine ⟨max (N1 + 1) N2, fun n hn => ?_⟩
    rw [← hN2 n (by omega)]
    obtain ⟨m, rfl⟩ : ∃ m, n = m + 1 := ⟨n - 1, by omega⟩
    have hcall := hself m d4 a mid limit _ (hN1 m (by omega))
    refine pIter_inl ?_
    have y1 : pSub .i64 (mid : Int) (a : Int) = ((mid - a : Nat) : Int) := subN g1 (by omega)
    have y2 : pSub .i64 (b : Int) (mid : Int) = ((b - mid : Nat) : Int) := subN (by omega) (by omega)
    have y3 : pLt ((mid - a : Nat) : Int) ((b - mid : Nat) : Int) = true := by rw [ltN]; simp; omega
    have y4 : pSub .i64 (b : Int) (a : Int) = ((b - a : Nat) : Int) := subN (by omega) (by omega)
    have y5 : pQuo .i64 ((b - a : Nat) : Int) 8 = (((b - a) / 8 : Nat) : Int) := by rw [show (8 : Int) = ((8 : Nat) : Int) from rfl, quo64 (by omega)]
    have y6 : pLe (((b - a) / 8 : Nat) : Int) ((mid - a : Nat) : Int) = decide (mid - a ≥ (b - a) / 8) := leN
    rw [hpre, if_neg hpi2, if_neg hc, hpt]
    simp only [Option.bind_some, b80, if_true, y1, y2, y3, y4, y5, y6, add1 (n := mid) (by omega)]
    rw [hcall]
    rfl
  case case7 d a b limit0 wb wp h12 hl d1 limit c d2 pivot hint pi hpi2 d3 hc mid ap d4 hx hg hlt ih3 ih2 ih1 =>
    intro hab hb hs hlim hB
    have s1 : PermIn a b d d1 := step_break d hab hb _
    have b1 : b ≤ d1.size := by rw [s1.1]; exact hb
    have s2 : PermIn a b d1 d2 := step_reverse reverseRange_holds d1 hab b1 _
    have b2 : b ≤ d2.size := by rw [s2.1]; exact b1
    have B2 : Below ol a b d2 := (hB.perm hb s1).perm b1 s2
    have s3 := step_partial partialInsertionSort_holds swo_ol d2 (a := a) (b := b) (by omega) b2 B2 ((wb && wp && decide (hint = Hint.increasing)) = true)
    have s3' : PermIn a b d2 d3 := s3.1
    have b3 : b ≤ d3.size := by rw [s3'.1]; exact b2
    have B3 : Below ol a b d3 := B2.perm b2 s3'
    have hc0 := choosePivot_holds ol d1 a b (by omega)
    have hpv : a ≤ pivot ∧ pivot < b := pivot_range hc0.1 hc0.2 _
    have z3 : d3.size = d.size := (s3'.1).trans (s2.1.trans s1.1)
    have hpre := fun self => pdq_pre self a b limit0 wb wp d h12 hl hb hs hlim d1 limit c d2 pivot hint pi rfl rfl rfl rfl rfl rfl rfl s1.1 (s2.1.trans s1.1) z3 hpv hc0
    have hlim2 : limit < 2 ^ 60 := by show (if (!wb) = true then limit0 - 1 else limit0) < 2 ^ 60; split <;> omega
    obtain ⟨g1, g2, hs4, hBa, hBr, _, hright⟩ := round_part swo_ol (partition_holds ol) hpv.1 hpv.2 b3 B3 hx
    obtain ⟨l1, l2⟩ := pdq_sorts ol swo_ol d4 (mid + 1) b limit true true (by omega) (by rw [hs4]; exact b3) hBr
    obtain ⟨hBL, hfin⟩ := hright _ l1 l2
    obtain ⟨N1, hN1⟩ := ih3 (by omega) (by rw [hs4]; exact b3) (by rw [hs4]; omega) hlim2 hBr
    obtain ⟨N2, hN2⟩ := ih1 g1 (by rw [l1.1, hs4]; omega) (by rw [l1.1, hs4]; omega) hlim2 hBL
    have hpt := partition_eq a b pivot d3 hpv.1 hpv.2 b3 (by omega)
    rw [hx] at hpt
    refine ⟨max (N1 + 1) N2, fun n hn => ?_⟩
    rw [← hN2 n (by omega)]
    obtain ⟨m, rfl⟩ : ∃ m, n = m + 1 := ⟨n - 1, by omega⟩
    have hcall := hself m d4 (mid + 1) b limit _ (hN1 m (by omega))
    refine pIter_inl ?_
    have y1 : pSub .i64 (mid : Int) (a : Int) = ((mid - a : Nat) : Int) := subN g1 (by omega)
    have y2 : pSub .i64 (b : Int) (mid : Int) = ((b - mid : Nat) : Int) := subN (by omega) (by omega)
    have y3 : pLt ((mid - a : Nat) : Int) ((b - mid : Nat) : Int) = false := by rw [ltN]; simp; omega
    have y4 : pSub .i64 (b : Int) (a : Int) = ((b - a : Nat) : Int) := subN (by omega) (by omega)
    have y5 : pQuo .i64 ((b - a : Nat) : Int) 8 = (((b - a) / 8 : Nat) : Int) := by rw [show (8 : Int) = ((8 : Nat) : Int) from rfl, quo64 (by omega)]
    have y6 : pLe (((b - a) / 8 : Nat) : Int) ((b - mid : Nat) : Int) = decide (b - mid ≥ (b - a) / 8) := leN
    rw [hpre, if_neg hpi2, if_neg hc, hpt]
    simp only [Option.bind_some, b80, if_true, y1, y2, y3, y4, y5, y6, Bool.false_eq_true, if_false, add1 (n := mid) (by omega)]
    rw [hcall]
    rfl
  case case8 d a b limit0 wb wp h12 hl d1 c d2 pivot hint pi hpi2 d3 hc mid ap d4 hx hg =>
    intro hab hb hs hlim hB
    have s1 : PermIn a b d d1 := step_break d hab hb _
    have b1 : b ≤ d1.size := by rw [s1.1]; exact hb
    have s2 : PermIn a b d1 d2 := step_reverse reverseRange_holds d1 hab b1 _
    have b2 : b ≤ d2.size := by rw [s2.1]; exact b1
    have B2 : Below ol a b d2 := (hB.perm hb s1).perm b1 s2
    have s3 := step_partial partialInsertionSort_holds swo_ol d2 (a := a) (b := b) (by omega) b2 B2 ((wb && wp && decide (hint = Hint.increasing)) = true)
    have s3' : PermIn a b d2 d3 := s3.1
    have b3 : b ≤ d3.size := by rw [s3'.1]; exact b2
    have B3 : Below ol a b d3 := B2.perm b2 s3'
    have hc0 := choosePivot_holds ol d1 a b (by omega)
    have hpv : a ≤ pivot ∧ pivot < b := pivot_range hc0.1 hc0.2 _
    obtain ⟨g1, g2, _⟩ := round_part swo_ol (partition_holds ol) hpv.1 hpv.2 b3 B3 hx
    exact absurd ⟨g1, g2⟩ hg
def OLe {α : Type} (x y : Option α) : Prop := ∀ v, x = some v → y = some v
theorem ole_refl {α : Type} (x : Option α) : OLe x x := fun _ h => h
theorem ole_bind {α β : Type} {x y : Option α} {f g : α → Option β} (h : OLe x y) (hf : ∀ a, OLe (f a) (g a)) : OLe (pBind x f) (pBind y g) := by
  intro v hv
  cases x with
  | none => cases hv
  | some a => rw [h a rfl]; exact hf a v hv
theorem ole_ite {α : Type} {c : Prop} [Decidable c] {x x' y y' : Option α} (h : OLe x x') (h2 : OLe y y') : OLe (if c then x else y) (if c then x' else y') := by
  split
  · exact h
  · exact h2
theorem ole_case {α β γ : Type} {s : α ⊕ β} {f f' : α → Option γ} {g g' : β → Option γ} (h : ∀ a, OLe (f a) (f' a)) (h2 : ∀ b, OLe (g b) (g' b)) : OLe (pCase s f g) (pCase s f' g') := by
  cases s with
  | inl a => exact h a
  | inr b => exact h2 b
theorem ole_iter {D X : Type} {s t : D → Option (D ⊕ X)} (h : ∀ d, OLe (s d) (t d)) (d : D) : OLe (pIter s d) (pIter t d) := by
  intro v hv
  obtain ⟨n, hn⟩ := pIter_iff.1 hv
  refine pIter_iff.2 ⟨n, ?_⟩
  induction n generalizing d with
  | zero => simp [iterN] at hn
  | succ n ih =>
    simp only [iterN] at hn ⊢
    cases hs : s d with
    | none => rw [hs] at hn; cases hn
    | some r =>
      rw [hs] at hn
      rw [h d r hs]
      cases r with
      | inl d' => exact ih d' (pIter_iff.2 ⟨n, hn⟩) hn
      | inr x => exact hn
theorem s0_mono {f g : (Int × (Int × (Int × ((List α) × Unit)))) → Option ((List α) × Unit)} (h : ∀ d, OLe (f d) (g d)) (d : (Int × (Int × (Int × (Bool × (Bool × ((List α) × Unit))))))) : OLe ((gs_pdqsort_0 (default : α) oc) f d) ((gs_pdqsort_0 (default : α) oc) g d) := by
  unfold gs_pdqsort_0
  repeat' (first | (with_reducible exact ole_refl _) | exact h _ | refine ole_ite ?_ ?_ | refine ole_bind ?_ (fun _ => ?_) | refine ole_case (fun _ => ?_) (fun _ => ?_))
theorem b_mono {f g : (Int × (Int × (Int × ((List α) × Unit)))) → Option ((List α) × Unit)} (h : ∀ d, OLe (f d) (g d)) (d : (Int × (Int × (Int × ((List α) × Unit))))) : OLe ((gb_pdqsort (default : α) oc) f d) ((gb_pdqsort (default : α) oc) g d) := by
  unfold gb_pdqsort
  exact ole_bind (ole_iter (s0_mono h) _) fun _ => ole_refl _
theorem rec_step {D X : Type} {B : (D → Option X) → D → Option X} (hB : ∀ f g, (∀ d, OLe (f d) (g d)) → ∀ d, OLe (B f d) (B g d)) : ∀ (n : Nat) (d : D), OLe (recN B n d) (recN B (n + 1) d)
  | 0, d => fun v hv => by simp [recN] at hv
  | n + 1, d => hB _ _ (rec_step hB n) d
theorem rec_le {D X : Type} {B : (D → Option X) → D → Option X} (hB : ∀ f g, (∀ d, OLe (f d) (g d)) → ∀ d, OLe (B f d) (B g d)) (n : Nat) (d : D) : ∀ k, OLe (recN B n d) (recN B (n + k) d)
  | 0 => ole_refl _
  | k + 1 => fun v hv => rec_step hB _ _ v (rec_le hB n d k v hv)
theorem pRec_val {D X : Type} {B : (D → Option X) → D → Option X} (hB : ∀ f g, (∀ d, OLe (f d) (g d)) → ∀ d, OLe (B f d) (B g d)) {d : D} {x : X} {n : Nat} (h : recN B n d = some x) : pRec B d = some x := by
  unfold pRec
  have hh : ∃ n, (recN B n d).isSome := ⟨n, by rw [h]; rfl⟩
  rw [dif_pos hh]
  have hs := hh.choose_spec
  generalize hh.choose = m at *
  cases hm : recN B m d with
  | none => rw [hm] at hs; cases hs
  | some y =>
    have h1 := rec_le hB n d m x h
    have h2 := rec_le hB m d n y hm
    rw [Nat.add_comm] at h2
    rw [h1] at h2
    exact h2.symm
theorem gsort_eq (xs : List α) (hl : xs.length < 256) : ∃ L, (gm_SortFunc (default : α) oc) xs = some (L, ()) ∧ L.Perm xs ∧ L.Pairwise (Ordd ol) := by
  obtain ⟨N, hN⟩ := pdq_run xs.toArray 0 xs.toArray.size (bitsLen xs.length) true true (Nat.zero_le _) (Nat.le_refl _) (by simpa using hl) (by
    have := (bitsLen_le_iff xs.length 8).2 (by omega)
    omega) (.inl rfl)
  have h1 := hN N (Nat.le_refl _)
  have h2 : recN (gb_pdqsort (default : α) oc) (N + 1) (0, ((xs.length : Int), ((bitsLen xs.length : Int), (xs, ())))) = some ((pdq ol xs.toArray 0 xs.toArray.size (bitsLen xs.length) true true).toList, ()) := by
    show (pIter ((gs_pdqsort_0 (default : α) oc) (recN (gb_pdqsort (default : α) oc) N)) (((0 : Nat) : Int), ((xs.toArray.size : Int), ((bitsLen xs.length : Int), (true, (true, (xs.toArray.toList, ()))))))).bind (fun d136 => some (d136.1, ())) = _
    rw [h1]
    rfl
  have h3 := pRec_val (fun f g h d => b_mono h d) h2
  obtain ⟨q1, q2⟩ := pdq_sorts ol swo_ol xs.toArray 0 xs.toArray.size (bitsLen xs.length) true true (Nat.zero_le _) (Nat.le_refl _) (.inl rfl)
  generalize pdq ol xs.toArray 0 xs.toArray.size (bitsLen xs.length) true true = e at *
  refine ⟨e.toList, ?_, ?_, ?_⟩
  · unfold gm_SortFunc
    rw [show pLen xs = (xs.length : Int) from rfl, blen_eq hl]
    simp only [pBind, Option.bind_some]
    rw [h3]
    rfl
  · obtain ⟨z1, _, z3⟩ := q1
    have a1 : e.extract 0 xs.toArray.size = e := by rw [← z1]; simp
    have a2 : xs.toArray.extract 0 xs.toArray.size = xs.toArray := by simp
    rw [a1, a2] at z3
    exact z3
  · rw [List.pairwise_iff_getElem]
    intro i j hi hj hij
    have hs : e.size = xs.toArray.size := q1.1
    have := q2 i j (Nat.zero_le _) hij (by rw [← hs]; simpa using hj)
    have hi' : i < e.size := by simpa using hi
    have hj' : j < e.size := by simpa using hj
    rw [getElem!_pos e i hi', getElem!_pos e j hj'] at this
    simpa [Ordd] using this
end
end Go.Xr
