import Derived.Test.YtkooincefcodcaaUp
set_option linter.unusedVariables false
set_option linter.unusedSimpArgs false
set_option maxRecDepth 100000
namespace Go.Xr.Try
open Go Go.Xr
theorem put_one (b : List Int) (k : Int) : pMPut eqI [] k b = [(k, b)] := rfl
theorem awake_ok : m_q37 = some (true, ()) := by
  have w1 := write_ok (i := 1) (b := sec 1) (l := List.replicate (3 : Int).toNat zero32) (h := []) (fuse := false) (left := 0) (mask := 0) (writes := 0) (by omega) (by simp) (sec_len 1) (.inl rfl)
  have n1 : pSub .i64 0 1 = -1 := by rw [sub64 (by omega) (by omega)]; rfl
  have n2 : pAdd .i64 0 1 = 1 := by rw [add64 (by omega) (by omega)]; rfl
  have n3 : pSub .i64 (-1) 1 = -2 := by rw [sub64 (by omega) (by omega)]; rfl
  have n4 : pAdd .i64 1 1 = 2 := by rw [add64 (by omega) (by omega)]; rfl
  rw [n1, n2, put_one] at w1
  have f1 := flush_ok (l := List.replicate (3 : Int).toNat zero32) (h := [(1, sec 1)]) (fuse := false) (left := -1) (mask := 0) (writes := 1) (by simp) (by simp)
  generalize hl1 : flushL (List.replicate (3 : Int).toNat zero32) [(1, sec 1)] = l1 at f1
  have hlen : l1.length = 3 := by rw [← hl1, flushL_len]; rfl
  have w2 := write_ok (i := 2) (b := sec 2) (l := l1) (h := []) (fuse := false) (left := -1) (mask := 0) (writes := 1) (by omega) (by rw [hlen]; omega) (sec_len 2) (.inl rfl)
  rw [n3, n4, put_one] at w2
  have u1 := fuse_ok (a := 0) (b := 0) (l := l1) (h := [(2, sec 2)]) (fuse := false) (left := -2) (mask := 0) (writes := 2) (by omega) (by omega)
  have w3 := write_blown (i := 0) (b := sec 3) (l := l1) (h := [(2, sec 2)]) (mask := 0) (writes := 2) (by omega) (by rw [hlen]; omega) (sec_len 3)
  have r1 := read_down (i := 1) (l := l1) (h := [(2, sec 2)]) (fuse := true) (left := 0) (mask := 0) (writes := 2)
  obtain ⟨L, p1, p2, p3⟩ := up_ok (l := l1) (h := [(2, sec 2)]) (fuse := true) (left := 0) (mask := 0) (writes := 2) (by simp) (by simp [hlen])
  have hL : L = [2] := List.perm_singleton.1 p1
  subst hL
  have hu : upF [(2, sec 2)] 0 0 [2] l1 [] = (l1, []) := by
    have : keeps 0 0 = false := by decide
    simp only [upF, this, Bool.false_eq_true, if_false]
  rw [hu] at p3
  have r2 := read_ok (i := 1) (l := l1) (h := []) (fuse := false) (left := 0) (mask := 0) (writes := 2) (by omega) (by rw [hlen]; omega)
  have r3 := read_ok (i := 2) (l := l1) (h := []) (fuse := false) (left := 0) (mask := 0) (writes := 2) (by omega) (by rw [hlen]; omega)
  have v1 : rdv l1 [] 1 = sec 1 := by rw [← hl1]; rw [rdv_flush (by omega) (by simp)]; rfl
  have v2 : rdv l1 [] 2 = zero32 := by rw [← hl1]; rw [rdv_flush (by omega) (by simp)]; rfl
  rw [v1] at r2
  rw [v2] at r3
  have rn : m_q12 = some (7, ([], ())) := by
    unfold m_q12 m_q17
    rfl
  have b00 : pNot (pEq 0 0) = false := by decide
  have b0 : pEq 0 0 = true := by decide
  have b1 : pEq 1 1 = true := by decide
  have b7 : pEq 7 7 = true := by decide
  have b2 : pEq 2 2 = true := by decide
  have b3 : pEq (pLen l1) 3 = true := by simp [pEq, pLen, hlen]
  have bl : pEq (pLen ([] : List Int)) 0 = true := rfl
  have es : ∀ v : List Int, pEqS v v = true := fun v => by simp [pEqS]
  have z : pSize 32 32 = true := size_ok (by omega) (by omega)
  have zz : pRep 32 0 = zero32 := rfl
  unfold m_q37
  rw [new_ok (n := 3) (by omega) (by omega)]
  simp only [pBind, Option.bind_some, pCase]
  rw [new_zero]
  simp only [Option.bind_some, b00, Bool.false_eq_true, if_false, sector_eq, w1, f1, w2, u1, w3]
  rw [show m_q6 l1 [(2, sec 2)] true true 0 0 2 = some (true, (l1, ([(2, sec 2)], (true, (true, (0, (0, (2, ())))))))) from rfl]
  simp only [Option.bind_some, r1, p3, r2, r3, rn]
  simp only [b0, b1, b7, b2, bl, if_true, Option.bind_some, es, pAmb_self, z, zz]
  rw [show m_q15 l1 [] false false 0 0 2 = some (2, (l1, ([], (false, (false, (0, (0, (2, ())))))))) from rfl]
  simp only [Option.bind_some, b2, if_true]
  rw [show m_q10 l1 [] false false 0 0 2 = some (pLen l1, (l1, ([], (false, (false, (0, (0, (2, ())))))))) from rfl]
  simp only [Option.bind_some, b3, b7, if_true]
  rw [show m_q7 = some (false, ()) from rfl]
  rfl
end Go.Xr.Try
