import Derived.Test.YtkooincefcodcaaActsE
set_option linter.unusedVariables false
set_option linter.unusedSimpArgs false
set_option maxRecDepth 100000
set_option maxHeartbeats 3200000
namespace Go.Xr.Try
open Go Go.Xr
theorem DR_more {l h dn fu left mask wr H f n} (D : DR l h dn fu left mask wr H f n) : DR l h dn fu left mask wr H f (n + 1) := ⟨D.nd, D.rng, D.fe, D.ris, D.r32, D.h32, D.fz, D.df, by have := D.cnt; omega⟩
theorem turn_any (a1 : List (Int × (Int × Int))) (i : Nat) (hi : i < a1.length) (hl : a1.length ≤ 60) (l : List (List Int)) (h : List (Int × List Int)) (dn fu : Bool) (left mask wr : Int) (H : List (Int × List Int)) (f : Int) (n : Nat) (D : DR l h dn fu left mask wr H f n) (hn : n ≤ 79) :
    ∃ l' h' dn' fu' left' mask' wr' H' f', s_DiskActs_0 a1 ((i : Int), (H, (l, (f, (mask, (dn, (wr, (l, (h, (dn, (fu, (left, (mask, (wr, ())))))))))))))) = some (.inl (((i + 1 : Nat) : Int), (H', (l', (f', (mask', (dn', (wr', (l', (h', (dn', (fu', (left', (mask', (wr', ()))))))))))))))) ∧ l'.length = l.length ∧ DR l' h' dn' fu' left' mask' wr' H' f' (n + 1) := by
  obtain ⟨kd, at', nn, hp⟩ : ∃ kd at' nn, pGet (0, (0, 0)) a1 (i : Int) = (kd, (at', nn)) := ⟨_, _, _, rfl⟩
  by_cases k1 : kd = 1
  · subst k1; exact turn_write a1 i at' nn hi hl hp l h dn fu left mask wr H f n D hn
  by_cases k2 : kd = 2
  · subst k2
    obtain ⟨l2, h2, d2, u2, t2, m2, w2, H2, f2, q1, q2, q3⟩ := turn_flush a1 i at' nn hi hl hp l h dn fu left mask wr H f n D hn
    exact ⟨l2, h2, d2, u2, t2, m2, w2, H2, f2, q1, q2, DR_more q3⟩
  by_cases k3 : kd = 3
  · subst k3
    obtain ⟨l2, h2, d2, u2, t2, m2, w2, H2, f2, q1, q2, q3⟩ := turn_fuse a1 i at' nn hi hl hp l h dn fu left mask wr H f n D hn
    exact ⟨l2, h2, d2, u2, t2, m2, w2, H2, f2, q1, q2, DR_more q3⟩
  by_cases k4 : kd = 4
  · subst k4
    obtain ⟨l2, h2, d2, u2, t2, m2, w2, H2, f2, q1, q2, q3⟩ := turn_corrupt a1 i at' nn hi hl hp l h dn fu left mask wr H f n D hn
    exact ⟨l2, h2, d2, u2, t2, m2, w2, H2, f2, q1, q2, DR_more q3⟩
  by_cases k5 : kd = 5
  · subst k5
    obtain ⟨l2, h2, d2, u2, t2, m2, w2, H2, f2, q1, q2, q3⟩ := turn_up a1 i at' nn hi hl hp l h dn fu left mask wr H f n D hn
    exact ⟨l2, h2, d2, u2, t2, m2, w2, H2, f2, q1, q2, DR_more q3⟩
  exact ⟨l, h, dn, fu, left, mask, wr, H, f, turn_none a1 i kd at' nn hi hl hp l h dn fu left mask wr H f n D hn k1 k2 k3 k4 k5, rfl, DR_more D⟩
theorem acts_loop (a1 : List (Int × (Int × Int))) (hl : a1.length ≤ 60) : ∀ (m i : Nat) (l : List (List Int)) (h : List (Int × List Int)) (dn fu : Bool) (left mask wr : Int) (H : List (Int × List Int)) (f : Int), i + m = a1.length → DR l h dn fu left mask wr H f i →
    ∃ x l' h' dn' fu' left' mask' wr' H' f', pIter (s_DiskActs_0 a1) ((i : Int), (H, (l, (f, (mask, (dn, (wr, (l, (h, (dn, (fu, (left, (mask, (wr, ())))))))))))))) = some (.inr (x, (H', (l', (f', (mask', (dn', (wr', (l', (h', (dn', (fu', (left', (mask', (wr', ()))))))))))))))) ∧ DR l' h' dn' fu' left' mask' wr' H' f' 60
  | 0, i, l, h, dn, fu, left, mask, wr, H, f, hi, D => by
    refine ⟨(i : Int), l, h, dn, fu, left, mask, wr, H, f, pIter_inr ?_, ⟨D.nd, D.rng, D.fe, D.ris, D.r32, D.h32, D.fz, D.df, by have := D.cnt; omega⟩⟩
    unfold s_DiskActs_0
    have e1 : pLt (i : Int) (pLen a1) = false := by simp [pLt, pLen]; omega
    simp only [e1, Bool.false_eq_true, if_false]
  | m + 1, i, l, h, dn, fu, left, mask, wr, H, f, hi, D => by
    obtain ⟨l2, h2, d2, u2, t2, m2, w2, H2, f2, q1, q2, q3⟩ := turn_any a1 i (by omega) hl l h dn fu left mask wr H f i D (by omega)
    rw [pIter_inl q1]
    exact acts_loop a1 hl m (i + 1) l2 h2 d2 u2 t2 m2 w2 H2 f2 (by omega) q3
theorem lawDiskActs (a0 : Int) (a1 : List (Int × (Int × Int))) : DiskActs_m a0 a1 = some true := by
  unfold DiskActs_m
  rw [awake_ok]
  simp only [pBind, Option.bind_some]
  by_cases c1 : pLt 60 (pLen a1) = true
  · rw [if_pos c1]
  rw [if_neg c1]
  simp only [pLt, pLen, decide_eq_true_eq, Int.not_lt] at c1
  have b11 : pEq 1 1 = true := by decide
  have b00 : pNot (pEq 0 0) = false := by decide
  by_cases hb : a0 < 1 ∨ 2048 < a0
  · obtain ⟨n1, n2⟩ := rnew_bad hb
    rw [n2, n1]
    simp only [Option.bind_some, pCase, b11, if_true]
  · have n1 := rnew_ok (n := a0) (by omega) (by omega)
    have n2 := new_ok (n := a0) (by omega) (by omega)
    rw [n2, n1]
    simp only [Option.bind_some, pCase, b00, Bool.false_eq_true, if_false]
    obtain ⟨x, l, h, dn, fu, left, mask, wr, H, f, hh, D⟩ := acts_loop a1 (by omega) a1.length 0 _ _ _ _ _ _ _ _ _ (by omega) (DR_new a0 (by omega))
    have hh' : pIter (s_DiskActs_0 a1) (0, ([], (List.replicate a0.toNat zero32, (-1, (0, (false, (0, (List.replicate a0.toNat zero32, ([], (false, (false, (0, (0, (0, ())))))))))))))) = _ := hh
    rw [hh']
    obtain ⟨out, l2, h2, fu2, H2, f2, c1', c2', c4, c3, D2⟩ := act_up2 D (by omega)
    obtain ⟨y, hy⟩ := acts_last a0 l2 h2 false fu2 left mask wr H2 f2 60 D2 (by omega) (by omega) (by omega)
    simp only [Option.bind_some, c1', c2']
    rw [hy]
    rfl
end Go.Xr.Try
