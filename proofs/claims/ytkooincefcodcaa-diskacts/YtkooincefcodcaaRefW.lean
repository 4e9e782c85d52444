import Derived.Test.YtkooincefcodcaaRefD
set_option linter.unusedVariables false
set_option linter.unusedSimpArgs false
set_option maxRecDepth 100000
set_option maxHeartbeats 1600000
namespace Go.Xr.Try
open Go Go.Xr
theorem place_loop (i : Int) (H : List (Int × List Int)) (x0 : Int) (B : List (List Int)) (f m : Int) (dn : Bool) (N : Int) (hl : H.length ≤ 1000) : ∀ at' : Nat, at' ≤ H.length → (∀ e ∈ H.drop at', i < e.1) →
    ∃ k : Nat, pIter (s_q44_0 (x0, (H, (B, (f, (m, (dn, (N, ()))))))) i) ((at' : Int), ()) = some ((k : Int), ()) ∧ k ≤ at' ∧ (∀ e ∈ H.drop k, i < e.1) ∧ (∀ p, 0 < k → H[k - 1]? = some p → p.1 ≤ i)
  | 0, h1, h2 => by
    refine ⟨0, pIter_inr ?_, Nat.le_refl _, h2, fun p h => absurd h (by omega)⟩
    unfold s_q44_0
    have e1 : pLt 0 ((0 : Nat) : Int) = false := by decide
    simp only [e1, Bool.false_eq_true, if_false]
  | a + 1, h1, h2 => by
    have e1 : pLt 0 ((a + 1 : Nat) : Int) = true := by simp [pLt]
    have e2 : pSub .i64 ((a + 1 : Nat) : Int) 1 = (a : Int) := by rw [sub64 (by omega) (by omega)]; omega
    have e3 : pIn (a : Int) (pLen H) = true := by simp [pIn, pLen]; omega
    have hp : H[a]? = some H[a] := List.getElem?_eq_getElem (by omega)
    have e4 : pGet (0, []) H (a : Int) = H[a] := by simp [pGet, List.getD_eq_getElem?_getD, hp]
    have hd : H.drop a = H[a] :: H.drop (a + 1) := List.drop_eq_getElem_cons (by omega)
    by_cases hc : i < H[a].1
    · have hst : s_q44_0 (x0, (H, (B, (f, (m, (dn, (N, ()))))))) i (((a + 1 : Nat) : Int), ()) = some (.inl ((a : Int), ())) := by
        unfold s_q44_0
        have e5 : pLt i H[a].1 = true := by simp [pLt]; exact hc
        simp only [e1, e2, e3, e4, e5, if_true]
      obtain ⟨k, k1, k2, k3, k4⟩ := place_loop i H x0 B f m dn N hl a (by omega) (fun e he => by
        rw [hd] at he
        rcases List.mem_cons.1 he with rfl | he
        · exact hc
        · exact h2 e he)
      exact ⟨k, by rw [pIter_inl hst]; exact k1, by omega, k3, k4⟩
    · refine ⟨a + 1, pIter_inr ?_, Nat.le_refl _, h2, fun p _ hp' => ?_⟩
      · unfold s_q44_0
        have e5 : pLt i H[a].1 = false := by simp [pLt]; omega
        simp only [e1, e2, e3, e4, e5, if_true, Bool.false_eq_true, if_false]
      · rw [Nat.add_sub_cancel, hp] at hp'
        cases hp'
        omega
theorem rwrite_ok {i : Int} {b : List Int} {H : List (Int × List Int)} {B : List (List Int)} {f m N : Int} (hl : H.length ≤ 80) (h0 : 0 ≤ i) (h1 : i < (B.length : Int)) (hb : b.length = 32) (hf : f ≠ 0) :
    (∃ (j : Nat) (v : List Int), H[j]? = some (i, v) ∧ m_q44 i b H B f m false N = some (.inl (0, (H.set j (i, b), (B, ((if 0 < f then pSub .i64 f 1 else f), (m, (false, (pAdd .i64 N 1, ()))))))))) ∨
    (findE H i = none ∧ ∃ k : Nat, k ≤ H.length ∧ (∀ e ∈ H.drop k, i < e.1) ∧ (∀ p, 0 < k → H[k - 1]? = some p → p.1 ≤ i) ∧
      m_q44 i b H B f m false N = some (.inr (0, (H, (B, ((if 0 < f then pSub .i64 f 1 else f), (m, (false, (pAdd .i64 N 1, (H.take k ++ (i, b) :: H.drop k, ()))))))))) ) := by
  have e1 : pLt i 0 = false := by simp [pLt]; exact h0
  have e2 : pLe (pLen B) i = false := by simp [pLe, pLen]; exact h1
  have e3 : pNot (pEq (pLen b) 32) = false := by simp [pNot, pEq, pLen, hb]
  have e4 : pEq f 0 = false := by simp [pEq, hf]
  have e5 : (if pLt 0 f = true then some (pSub .i64 f 1, (m, (false, (N, ())))) else some (f, (m, (false, (N, ())))) : Option (Int × (Int × (Bool × (Int × Unit))))) = some ((if 0 < f then pSub .i64 f 1 else f), (m, (false, (N, ())))) := by
    by_cases h : 0 < f
    · have : pLt 0 f = true := by simp [pLt]; exact h
      rw [if_pos this, if_pos h]
    · have : ¬ pLt 0 f = true := by simp [pLt]; omega
      rw [if_neg this, if_neg h]
  have e6 := room32 b hb
  unfold m_q44
  simp only [Bool.false_eq_true, if_false, e1, e2, e3, e4, pBind]
  rw [e5]
  simp only [Option.bind_some]
  generalize (if 0 < f then pSub .i64 f 1 else f) = f2
  generalize pAdd .i64 N 1 = N2
  rw [if_pos e6]
  rcases back_eq i H B f2 m false N2 (by omega) with ⟨g1, g2⟩ | ⟨j, v, g1, g2, g3⟩
  · right
    refine ⟨g1, ?_⟩
    obtain ⟨k, k1, k2, k3, k4⟩ := place_loop i H (-1) B f2 m false N2 (by omega) H.length (Nat.le_refl _) (by simp)
    refine ⟨k, k2, k3, k4, ?_⟩
    rw [g2]
    simp only [Option.bind_some]
    have z1 : ¬ pLe 0 (-1) = true := by decide
    rw [if_neg z1]
    rw [show pLen H = (H.length : Int) from rfl, k1]
    have P1 : pPart 0 (k : Int) (H.length : Int) = true := decide_eq_true ⟨by omega, by omega, by omega⟩
    have P2 : pPart (k : Int) (H.length : Int) (H.length : Int) = true := decide_eq_true ⟨by omega, by omega, by omega⟩
    have C1 : pCut H 0 (pISub (k : Int) 0) = H.take k := by simp [pCut, pISub]
    have C2 : pCut H (k : Int) (pISub (H.length : Int) (k : Int)) = H.drop k := by
      simp only [pCut, pISub, Int.toNat_natCast]
      rw [List.take_of_length_le (by simp)]
    have R1 : pRoom (pIAdd 0 (pLen (H.take k))) = true := room_le (by simp only [pIAdd, pLen, List.length_take]; omega)
    have R2 : pRoom (pIAdd (pLen (pApp [] (H.take k))) (pLen [(i, pApp [] b)])) = true := room_le (by simp only [pIAdd, pLen, pApp, List.nil_append, List.length_take, List.length_cons, List.length_nil]; omega)
    have R3 : pRoom (pIAdd (pLen (pApp (pApp [] (H.take k)) [(i, pApp [] b)])) (pLen (H.drop k))) = true := room_le (by simp only [pIAdd, pLen, pApp, List.nil_append, List.length_append, List.length_take, List.length_drop, List.length_cons, List.length_nil]; omega)
    simp only [Option.bind_some, C1, C2, P1, P2, R1, R2, R3, if_true, pAmb_self]
    simp [pApp]
  · left
    refine ⟨j, v, g1, ?_⟩
    have hj : j < H.length := (List.getElem?_eq_some_iff.1 g1).1
    have z1 : pLe 0 (j : Int) = true := by simp [pLe]
    have z2 : pIn (j : Int) (pLen H) = true := by simp [pIn, pLen]; omega
    have z3 : pGet (0, []) H (j : Int) = (i, v) := by simp [pGet, List.getD_eq_getElem?_getD, g1]
    rw [g3]
    simp only [Option.bind_some]
    rw [if_pos z1, if_pos z2, z3]
    simp [pApp, pSet]
end Go.Xr.Try
