import Derived.Test.YtjidecalfabkbaaDpages
import Derived.Test.YtjidecalfabkbaaMDirApart
set_option linter.unusedVariables false
set_option linter.unusedSimpArgs false
set_option maxRecDepth 100000
namespace Go.Xr.Try
open Go Go.Xr

/-! two pages, apart or not -/
theorem apart_tail (k : Nat) (p q : PG) (hp : okP (k : Int) p = true) (hq : okP (k : Int) q = true) (hpq : p ≠ q) (s n g bs : Int) (hs : 2 ≤ s ∧ s < 1002) (hn : 1 ≤ n ∧ n ≤ 300) (hg : -5 ≤ g ∧ g < 15) (hbs : bs = s + secV n + g) :
    (pBind (pBind (m_dir_New (k : Int) [(p, (s, (n, 1))), (q, (bs, (20, 2)))] : Option ((Int × Unit) ⊕ (Int × ((List ((Int × (Int × Int)) × (Int × (Int × Int)))) × (Int × Unit))))) fun d492 => pCase d492 (fun d493 => some (.inl (d493.1, ()))) (fun d494 => some (.inr (d494.1, (d494.2.1, (d494.2.2.1, ()))))) : Option ((Int × Unit) ⊕ (Int × ((List ((Int × (Int × Int)) × (Int × (Int × Int)))) × (Int × Unit))))) fun d495 => pCase d495 (fun d496 => pBind (if pLe 0 g then some (true, ()) else some (pLe (pAdd .i64 bs 1) s, ())) fun d497 => if pLt bs 2 then pBind (if pEq d496.1 1 then pBind (m_wainscotlaw12_awake) fun d498 => some (d498.1, ()) else some (false, ())) fun d499 => some d499.1 else if pNot d497.1 then pBind (if pEq d496.1 1 then pBind (m_wainscotlaw12_awake) fun d500 => some (d500.1, ()) else some (false, ())) fun d501 => some d501.1 else if pNot (pEq d496.1 0) then some false else some false) (fun d502 => pBind (if pLe 0 g then some (true, ()) else some (pLe (pAdd .i64 bs 1) s, ())) fun d503 => if pLt bs 2 then pBind (if pEq d502.1 1 then pBind (m_wainscotlaw12_awake) fun d504 => some (d504.1, ()) else some (false, ())) fun d505 => some d505.1 else if pNot d503.1 then pBind (if pEq d502.1 1 then some (false, ()) else some (false, ())) fun d506 => some d506.1 else if pNot (pEq d502.1 0) then some false else pBind (pBind (m_dir_Dir_With [(p, (pAdd .i64 s 200, (n, 1)))] d502.2.1 d502.2.2.1 : Option ((Int × Unit) ⊕ (Int × ((List ((Int × (Int × Int)) × (Int × (Int × Int)))) × (Int × Unit))))) fun d507 => pCase d507 (fun d508 => some (.inl (d508.1, ()))) (fun d509 => some (.inr (d509.1, (d509.2.1, (d509.2.2.1, ()))))) : Option ((Int × Unit) ⊕ (Int × ((List ((Int × (Int × Int)) × (Int × (Int × Int)))) × (Int × Unit))))) fun d510 => pCase d510 (fun d511 => if pNot (pEq d511.1 0) then pBind (m_wainscotlaw12_awake) fun d512 => some d512.1 else some false) (fun d513 => if pNot (pEq d513.1 0) then some false else pBind (pBind (m_dir_Dir_With [(q, (s, (pMin n 20, 3)))] d513.2.1 d513.2.2.1 : Option ((Int × Unit) ⊕ (Int × ((List ((Int × (Int × Int)) × (Int × (Int × Int)))) × (Int × Unit))))) fun d514 => pCase d514 (fun d515 => some (.inl (d515.1, ()))) (fun d516 => some (.inr (d516.1, (d516.2.1, (d516.2.2.1, ()))))) : Option ((Int × Unit) ⊕ (Int × ((List ((Int × (Int × Int)) × (Int × (Int × Int)))) × (Int × Unit))))) fun d517 => pCase d517 (fun d518 => pBind (if pEq d518.1 0 then some (false, ()) else some (false, ())) fun d519 => some d519.1) (fun d520 => pBind (if pEq d520.1 0 then pBind (m_dir_Dir_Len d520.2.1) fun d521 => if pEq d521.1 2 then pBind (m_dir_Dir_Len d502.2.1) fun d522 => if pEq d522.1 2 then pBind (m_wainscotlaw12_awake) fun d523 => some (d523.1, ()) else some (false, ()) else some (false, ()) else some (false, ())) fun d524 => some d524.1))) : Option Bool) = some true := by
  have hsec : 1 ≤ secV n ∧ secV n ≤ 10 := by
    unfold secV
    rw [if_neg (by omega)]
    omega
  have s20 : secV 20 = 1 := by decide
  have h11 : pEq 1 1 = true := by decide
  have h10 : pEq 1 0 = false := by decide
  have h00 : pEq 0 0 = true := by decide
  have h22 : pEq 2 2 = true := by decide
  have nt : pNot true = false := rfl
  have nf : pNot false = true := rfl
  have e1 : pAdd .i64 bs 1 = bs + 1 := add64 (by omega) (by omega)
  have e2 : pAdd .i64 s 200 = s + 200 := add64 (by omega) (by omega)
  have oka : okE (k : Int) (p, (s, (n, 1))) = true := okE_iff.2 ⟨hp, by show 2 ≤ s; omega, by show s < 2048; omega, by show 1 ≤ n; omega, by show n ≤ 4096; omega, by show s + secV n ≤ 2048; omega⟩
  -- what is told of their places
  have good : (pBind (if pLe 0 g then some (true, ()) else some (pLe (pAdd .i64 bs 1) s, ())) fun d => some d.1) = some (decide (0 ≤ g ∨ bs + 1 ≤ s)) := by
    rw [e1]
    by_cases h : 0 ≤ g
    · simp [pLe, h, pBind]
    · simp [pLe, h, pBind]
  have goodT : (0 ≤ g ∨ bs + 1 ≤ s) → (if pLe 0 g then some (true, ()) else some (pLe (pAdd .i64 bs 1) s, ()) : Option (Bool × Unit)) = some (true, ()) := by
    intro hh
    rw [e1]
    by_cases h : 0 ≤ g
    · simp [pLe, h]
    · have : bs + 1 ≤ s := by omega
      simp [pLe, h, this]
  have goodF : ¬ (0 ≤ g ∨ bs + 1 ≤ s) → (if pLe 0 g then some (true, ()) else some (pLe (pAdd .i64 bs 1) s, ()) : Option (Bool × Unit)) = some (false, ()) := by
    intro hh
    rw [e1]
    have h : ¬ 0 ≤ g := by omega
    have : ¬ bs + 1 ≤ s := by omega
    simp [pLe, h, this]
  by_cases hb2 : bs < 2
  · -- it begins ahead of the first sector
    have hbad : okE (k : Int) (q, (bs, (20, 2))) = false := by
      cases h : okE (k : Int) (q, (bs, (20, 2))) with
      | false => rfl
      | true => have := (okE_iff.1 h).2.1; exact absurd (show 2 ≤ bs from this) (by omega)
    have hN : m_dir_New (k : Int) [(p, (s, (n, 1))), (q, (bs, (20, 2)))] = some (.inl (1, ())) := new_bad (j := 1) (by simp) (by simp) (fun i hi => by rw [show i = 0 by omega]; exact oka) hbad
    have l2 : pLt bs 2 = true := decide_eq_true hb2
    by_cases hgd : 0 ≤ g ∨ bs + 1 ≤ s
    · simp only [hN, goodT hgd, l2, h11, awake_ok, pBind, Option.bind_some, pCase, if_true]
    · simp only [hN, goodF hgd, l2, h11, awake_ok, pBind, Option.bind_some, pCase, if_true]
  · have l2 : pLt bs 2 = false := decide_eq_false hb2
    have okb : okE (k : Int) (q, (bs, (20, 2))) = true := okE_iff.2 ⟨hq, by show 2 ≤ bs; omega, by show bs < 2048; omega, by show (1 : Int) ≤ 20; decide, by show (20 : Int) ≤ 4096; decide, by show bs + secV 20 ≤ 2048; omega⟩
    obtain ⟨L, hL, _, hN⟩ := new_two oka okb
    have hap : apart (p, (s, (n, 1))) (q, (bs, (20, 2))) ↔ (0 ≤ g ∨ bs + 1 ≤ s) := by
      unfold apart
      show s + secV n ≤ bs ∨ bs + secV 20 ≤ s ↔ _
      rw [s20]
      omega
    by_cases hgd : 0 ≤ g ∨ bs + 1 ≤ s
    · rw [if_pos ⟨hap.2 hgd, hpq⟩] at hN
      -- the first one moves
      have okc : okE (k : Int) (p, (s + 200, (n, 1))) = true := okE_iff.2 ⟨hp, by show 2 ≤ s + 200; omega, by show s + 200 < 2048; omega, by show 1 ≤ n; omega, by show n ≤ 4096; omega, by show s + 200 + secV n ≤ 2048; omega⟩
      have hW : m_dir_Dir_With [(p, (s + 200, (n, 1)))] L (k : Int) = m_dir_New (k : Int) [(p, (s + 200, (n, 1))), (q, (bs, (20, 2)))] := by
        rcases hL with rfl | rfl
        · rw [with_two (k : Int) (p, (s + 200, (n, 1))) (p, (s, (n, 1))) (q, (bs, (20, 2))) (.inl ⟨rfl, fun h => hpq h.symm⟩), if_pos rfl]
        · rw [with_two (k : Int) (p, (s + 200, (n, 1))) (q, (bs, (20, 2))) (p, (s, (n, 1))) (.inr ⟨fun h => hpq h.symm, rfl⟩), if_neg (fun h => hpq h.symm)]
      have hlL : m_dir_Dir_Len L = some (2, ()) := by rcases hL with rfl | rfl <;> rfl
      obtain ⟨L2, hL2, _, hN2⟩ := new_two okc okb
      by_cases hap2 : apart (p, (s + 200, (n, 1))) (q, (bs, (20, 2)))
      · rw [if_pos ⟨hap2, hpq⟩] at hN2
        -- the other one comes to its old place
        have m1 : pMin n 20 ≤ 20 ∧ 1 ≤ pMin n 20 := by simp only [pMin]; split <;> omega
        have sm : secV (pMin n 20) = 1 := by unfold secV; rw [if_neg (by omega)]; omega
        have oke : okE (k : Int) (q, (s, (pMin n 20, 3))) = true := okE_iff.2 ⟨hq, by show 2 ≤ s; omega, by show s < 2048; omega, by show 1 ≤ pMin n 20; omega, by show pMin n 20 ≤ 4096; omega, by show s + secV (pMin n 20) ≤ 2048; omega⟩
        have hW2 : m_dir_Dir_With [(q, (s, (pMin n 20, 3)))] L2 (k : Int) = m_dir_New (k : Int) [(q, (s, (pMin n 20, 3))), (p, (s + 200, (n, 1)))] := by
          rcases hL2 with rfl | rfl
          · rw [with_two (k : Int) (q, (s, (pMin n 20, 3))) (p, (s + 200, (n, 1))) (q, (bs, (20, 2))) (.inr ⟨hpq, rfl⟩), if_neg hpq]
          · rw [with_two (k : Int) (q, (s, (pMin n 20, 3))) (q, (bs, (20, 2))) (p, (s + 200, (n, 1))) (.inl ⟨rfl, hpq⟩), if_pos rfl]
        obtain ⟨L3, hL3, _, hN3⟩ := new_two oke okc
        have hap3 : apart (q, (s, (pMin n 20, 3))) (p, (s + 200, (n, 1))) := by
          left
          show s + secV (pMin n 20) ≤ s + 200
          omega
        rw [if_pos ⟨hap3, fun h => hpq h.symm⟩] at hN3
        have hl3 : m_dir_Dir_Len L3 = some (2, ()) := by rcases hL3 with rfl | rfl <;> rfl
        simp only [hN, goodT hgd, l2, e2, hW, hN2, hW2, hN3, hlL, hl3, h00, h22, nt, awake_ok, pBind, Option.bind_some, pCase, Bool.false_eq_true, if_true, if_false]
      · rw [if_neg (fun h => hap2 h.1)] at hN2
        simp only [hN, goodT hgd, l2, e2, hW, hN2, h00, h10, nt, nf, awake_ok, pBind, Option.bind_some, pCase, Bool.false_eq_true, if_true, if_false]
    · rw [if_neg (fun h => hgd (hap.1 h.1))] at hN
      simp only [hN, goodF hgd, l2, h11, nt, nf, awake_ok, pBind, Option.bind_some, pCase, Bool.false_eq_true, if_true, if_false]
theorem lawDirApart (a0 a1 a2 a3 a4 a5 : Int) : DirApart_m a0 a1 a2 a3 a4 a5 = some true := by
  unfold DirApart_m
  obtain ⟨k, hk, hk4⟩ := round_ok (x := a0) (n := 4) (by omega) (by omega)
  have hk3 : k ≤ 3 := by omega
  have hg := good_pages hk3
  simp only [goodPages, Bool.and_eq_true, decide_eq_true_eq] at hg
  obtain ⟨⟨⟨hall, hnd⟩, hhead⟩, hlen⟩ := hg
  simp only [hk, pages_eq hk3, pBind, Option.bind_some]
  generalize hP : pagesV k = P at *
  by_cases h0 : k = 0
  · have e : pLt (pLen P) 2 = true := by
      rw [if_pos h0] at hlen
      exact decide_eq_true (by simp only [pLen]; omega)
    simp only [e, if_true, awake_ok, Option.bind_some]
  · have hl : 5 ≤ P.length ∧ P.length ≤ 85 := by
      rw [if_neg h0] at hlen
      split at hlen
      · omega
      · split at hlen <;> omega
    have e : pLt (pLen P) 2 = false := decide_eq_false (by simp only [pLen]; omega)
    obtain ⟨i, hi, hil⟩ := round_ok (x := a1) (n := pLen P) (by simp only [pLen]; omega) (by simp only [pLen]; omega)
    have es : pSub .i64 (pLen P) 1 = (P.length : Int) - 1 := sub64 (by simp only [pLen]; omega) (by simp only [pLen]; omega)
    obtain ⟨j, hj, hjl⟩ := round_ok (x := a2) (n := (P.length : Int) - 1) (by omega) (by omega)
    have ez : pNot (pEq (pLen P) 0) = true := by
      have : pEq (pLen P) 0 = false := decide_eq_false (by simp only [pLen]; omega)
      rw [this]
      rfl
    obtain ⟨x, hx, hxl⟩ := round_ok (x := a3) (n := 1000) (by omega) (by omega)
    obtain ⟨y, hy, hyl⟩ := round_ok (x := a4) (n := 300) (by omega) (by omega)
    obtain ⟨w, hw, hwl⟩ := round_ok (x := a5) (n := 20) (by omega) (by omega)
    have hil : i < P.length := by simp only [pLen] at hil; omega
    have ein : pIn (i : Int) (pLen P) = true := in_nat hil
    have hidx : pRem (pAdd .i64 (pAdd .i64 (i : Int) 1) (j : Int)) (pLen P) = (((i + 1 + j) % P.length : Nat) : Int) := by
      have a1 : pAdd .i64 (i : Int) 1 = (i : Int) + 1 := add64 (by omega) (by omega)
      have a2 : pAdd .i64 ((i : Int) + 1) (j : Int) = (i : Int) + 1 + j := add64 (by omega) (by omega)
      rw [a1, a2]
      show Int.tmod ((i : Int) + 1 + j) (P.length : Int) = _
      rw [show (i : Int) + 1 + j = ((i + 1 + j : Nat) : Int) by omega]
      rfl
    have hml : (i + 1 + j) % P.length < P.length := Nat.mod_lt _ (by omega)
    have hne : (i + 1 + j) % P.length ≠ i := by
      rcases Nat.lt_or_ge (i + 1 + j) P.length with h | h
      · rw [Nat.mod_eq_of_lt h]; omega
      · rw [Nat.mod_eq_sub_mod h, Nat.mod_eq_of_lt (by omega)]; omega
    generalize (i + 1 + j) % P.length = i2 at *
    have ein2 : pIn (i2 : Int) (pLen P) = true := in_nat hml
    have e00 : pIn 0 (pLen P) = true := in_nat (i := 0) (by omega)
    have g0 : (pGet ((0, (0, 0)) : PG) P 0).1 = (k : Int) := by
      cases P with
      | nil => simp at hl
      | cons z r =>
        simp only [List.head?_cons, Option.some.injEq] at hhead
        subst hhead
        rfl
    have gp : ∀ v : Nat, v < P.length → pGet ((0, (0, 0)) : PG) P (v : Int) = P.getD v (0, (0, 0)) := fun v _ => get_nat _ _ _
    have hmem : ∀ v : Nat, (hv : v < P.length) → P.getD v (0, (0, 0)) = P[v] := fun v hv => by simp [List.getD_eq_getElem?_getD, hv]
    have okv : ∀ v : Nat, v < P.length → okP (k : Int) (pGet ((0, (0, 0)) : PG) P (v : Int)) = true := by
      intro v hv
      rw [gp v hv, hmem v hv]
      exact List.all_eq_true.1 hall _ (List.getElem_mem hv)
    have hpq : pGet ((0, (0, 0)) : PG) P (i : Int) ≠ pGet ((0, (0, 0)) : PG) P (i2 : Int) := by
      rw [gp i hil, gp i2 hml, hmem i hil, hmem i2 hml]
      intro h
      exact hne ((List.getElem_inj hnd).1 h).symm
    have n1 : pAdd .i64 2 (x : Int) = 2 + x := add64 (by omega) (by omega)
    have n2 : pAdd .i64 1 (y : Int) = 1 + y := add64 (by omega) (by omega)
    have n3 : pSub .i64 (w : Int) 5 = w - 5 := sub64 (by omega) (by omega)
    have hsec := secV_le (n := 1 + (y : Int)) (by omega)
    have n4 : pAdd .i64 (2 + (x : Int)) (secV (1 + y)) = 2 + x + secV (1 + y) := add64 (by omega) (by omega)
    have n5 : pAdd .i64 (2 + (x : Int) + secV (1 + y)) (w - 5) = 2 + x + secV (1 + y) + (w - 5) := add64 (by omega) (by omega)
    have hrs := refSec_eq (n := 1 + (y : Int)) (by omega)
    simp only [e, Bool.false_eq_true, if_false, hi, es, hj, ez, if_true, hx, hy, hw, ein, hidx, ein2, e00, n1, n2, n3, n4, n5, hrs, g0, pAmb_self, Option.bind_some]
    exact apart_tail k _ _ (okv i hil) (okv i2 hml) hpq _ _ _ _ (by omega) (by omega) (by omega) rfl
end Go.Xr.Try
