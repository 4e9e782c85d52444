import Derived.Test.YtkooincefcodcaaRefU
set_option linter.unusedVariables false
set_option linter.unusedSimpArgs false
set_option maxRecDepth 100000
set_option maxHeartbeats 1600000
namespace Go.Xr.Try
open Go Go.Xr
theorem room_most {n : Int} (h : n ≤ 100000) : pRoom n = true := decide_eq_true (Int.le_trans h (by decide))
theorem rnew_bad {n : Int} (h : n < 1 ∨ 2048 < n) : m_q46 n = some (.inl ()) ∧ m_q18 n = some (.inl (1, ())) := by
  unfold m_q46 m_q18
  by_cases h0 : n < 1
  · have e1 : pLt n 1 = true := by simp [pLt]; exact h0
    rw [if_pos e1, if_pos e1]
    exact ⟨rfl, rfl⟩
  · have e1 : ¬ pLt n 1 = true := by simp [pLt]; omega
    have e2 : pLt 2048 n = true := by simp [pLt]; omega
    rw [if_neg e1, if_pos e2, if_neg e1, if_pos e2]
    exact ⟨rfl, rfl⟩
theorem rnew_ok {n : Int} (h0 : 1 ≤ n) (h1 : n ≤ 2048) : m_q46 n = some (.inr ([], (List.replicate n.toNat zero32, (-1, (0, (false, (0, ()))))))) := by
  obtain ⟨N, rfl⟩ := Int.eq_ofNat_of_zero_le (show 0 ≤ n by omega)
  have hloop : pIter (s_q46_0 (N : Int)) (0, ([], (-1, (0, (false, (0, ())))))) = some ((N : Int), (List.replicate N zero32, (-1, (0, (false, (0, ())))))) := by
    refine pIter_count (F := fun j => ((j : Int), (List.replicate j zero32, (-1, (0, (false, (0, ()))))))) (n := N) (fun j hj => ?_) ?_ N 0 (by omega)
    · unfold s_q46_0
      have e1 : pLt (j : Int) (N : Int) = true := by simp [pLt]; exact hj
      have e2 : pSize 32 32 = true := size_ok (by omega) (by omega)
      have e3 : pRoom (pIAdd (pLen (List.replicate j zero32)) (pLen [pRep 32 (0 : Int)])) = true := room_most (by simp only [pIAdd, pLen, List.length_replicate, List.length_cons, List.length_nil]; omega)
      have e4 : pAdd .i64 (j : Int) 1 = ((j + 1 : Nat) : Int) := by rw [add64 (by omega) (by omega)]; omega
      have e5 : pApp (List.replicate j zero32) [pRep 32 (0 : Int)] = List.replicate (j + 1) zero32 := by
        simp only [pApp]
        rw [List.replicate_succ']
        rfl
      rw [if_pos e1, if_pos e2]
      refine (if_pos e3).trans ?_
      show some (Sum.inl (pAdd .i64 (j : Int) 1, (pApp (List.replicate j zero32) [pRep 32 (0 : Int)], ((-1 : Int), ((0 : Int), (false, ((0 : Int), ()))))))) = _
      rw [e4, e5]
    · unfold s_q46_0
      have e1 : ¬ pLt (N : Int) (N : Int) = true := by simp [pLt]
      rw [if_neg e1]
  unfold m_q46
  have e1 : ¬ pLt (N : Int) 1 = true := by simp [pLt]; omega
  have e2 : ¬ pLt 2048 (N : Int) = true := by simp [pLt]; omega
  rw [if_neg e1, if_neg e2, hloop]
  rfl
theorem DR_new (n : Int) (h0 : 1 ≤ n) : DR (List.replicate n.toNat zero32) [] false false 0 0 0 [] (-1) 0 :=
  ⟨by simp, by simp, fun q => rfl, List.Pairwise.nil, fun r hr => by rw [List.eq_of_mem_replicate hr]; simp, by simp, ⟨(fun hh => by cases hh), fun _ => rfl⟩, (fun hh => by cases hh), by simp⟩
end Go.Xr.Try
