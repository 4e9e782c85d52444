import Derived.Test.YtkooincefcodcaaLz6
import Derived.Test.YtkooincefcodcaaMLzBack
set_option linter.unusedVariables false
set_option linter.unusedSimpArgs false
set_option maxRecDepth 100000
namespace Go.Xr.Try
open Go Go.Xr
theorem LzBack_true {a0 : List Int} {a1 : Int} {a2 : List Int} (h2 : Bytes a2) : LzBack_m a0 a1 a2 = some true := by
  unfold LzBack_m
  by_cases c0 : 20 < a0.length
  · exact (if_pos (decide_eq_true (by simp only [pLen]; omega))).trans (pbind_to awake7_ok rfl)
  refine (if_neg (by simp only [pLen, pLt, decide_eq_true_eq]; omega)).trans ?_
  by_cases c1 : a1 < 0
  · exact (if_pos (decide_eq_true c1)).trans (pbind_to awake7_ok rfl)
  refine (if_neg (by simp only [pLt, decide_eq_true_eq]; omega)).trans ?_
  by_cases c2 : 3000 < a1
  · exact (if_pos (decide_eq_true c2)).trans (pbind_to awake7_ok rfl)
  refine (if_neg (by simp only [pLt, decide_eq_true_eq]; omega)).trans ?_
  by_cases c3 : 300 < a2.length
  · exact (if_pos (decide_eq_true (by simp only [pLen]; omega))).trans (pbind_to awake7_ok rfl)
  refine (if_neg (by simp only [pLen, pLt, decide_eq_true_eq]; omega)).trans ?_
  obtain ⟨N, rfl⟩ := Int.eq_ofNat_of_zero_le (by omega : 0 ≤ a1)
  obtain ⟨r, hr, hl, hrb⟩ := row_ok (a0 := a0) (by omega) (N := N) (by omega)
  have hrl : r.length ≤ 3000 := by rcases hl with h | h <;> simp [h] <;> omega
  have hB : Bytes (r ++ a2) := fun x hx => (List.mem_append.1 hx).elim (hrb x) (h2 x)
  have hBl : (r ++ a2).length ≤ 3300 := by simp; omega
  generalize hBe : r ++ a2 = B at hB hBl
  have hp := (pack_ok hB (by omega)).1
  have hal := allBits_len B
  have hpl := packs_len (allBits B)
  have hu := (unpack_ok (packs_bytes (allBits_bits B)) (by omega)).1
  rw [unpack_pack hB (by omega)] at hu
  have hm := (most_ok (n := B.length) (by omega)).1
  refine pbind_to hr ?_
  have hroom : pRoom (pIAdd (pLen r) (pLen a2)) = true := decide_eq_true (by simp only [pIAdd, pLen]; omega)
  refine (if_pos hroom).trans ?_
  have hBe' : pApp r a2 = B := hBe
  show pBind (m_lz_Pack (pApp r a2)) _ = _
  rw [hBe']
  refine pbind_to hp ?_
  refine pbind_to hu ?_
  refine pbind_to (a := (true, ())) ?_ rfl
  have e0 : pEq 0 0 = true := rfl
  have es : pEqS B B = true := decide_eq_true rfl
  have e4 : pLe (pLen (packs (allBits B))) ((2 + (9 * B.length + 7) / 8 : Nat) : Int) = true := decide_eq_true (by simp only [pLen]; omega)
  have e5 : pLe 2 (pLen (packs (allBits B))) = true := decide_eq_true (by simp only [pLen]; omega)
  refine (if_pos e0).trans ((if_pos e0).trans ((if_pos es).trans ?_))
  refine pbind_to hm ?_
  refine (if_pos e4).trans ((if_pos e5).trans ?_)
  exact pbind_to awake7_ok rfl
end Go.Xr.Try
