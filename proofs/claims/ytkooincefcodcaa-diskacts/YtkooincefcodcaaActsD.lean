import Derived.Test.YtkooincefcodcaaActsC
set_option linter.unusedVariables false
set_option linter.unusedSimpArgs false
set_option maxRecDepth 100000
set_option maxHeartbeats 3200000
namespace Go.Xr.Try
open Go Go.Xr
theorem upF_out (H : List (Int × List Int)) (mask : Int) : ∀ (ks : List Int) (i : Nat) (l : List (List Int)) (o : List Int), (upF H mask i ks l o).2.length ≤ o.length + ks.length
  | [], i, l, o => by simp [upF]
  | k :: ks, i, l, o => by
    rw [upF]
    split
    · have := upF_out H mask ks (i + 1) (l.set k.toNat (pMGet eqI zero32 H k)) (o ++ [k])
      simp only [List.length_append, List.length_cons, List.length_nil] at this ⊢
      omega
    · have := upF_out H mask ks (i + 1) l o
      simp only [List.length_cons]
      omega
theorem ints_ok (a : List Int) (ha : a.length ≤ 1000) : m_q35 a a = some (true, ()) := by
  have : pIter (s_q35_0 a a) (0, ()) = some (.inr ((a.length : Int), ())) := by
    refine pIter_count (F := fun j => ((j : Int), ())) (n := a.length) (fun j hj => ?_) ?_ a.length 0 (by omega)
    · unfold s_q35_0
      have e1 : pLt (j : Int) (pLen a) = true := by simp [pLt, pLen]; exact hj
      have e2 : pIn (j : Int) (pLen a) = true := by simp [pIn, pLen]; omega
      have e3 : pAdd .i64 (j : Int) 1 = ((j + 1 : Nat) : Int) := by rw [add64 (by omega) (by omega)]; omega
      have e4 : ∀ v : Int, pNot (pEq v v) = false := fun v => by simp [pNot, pEq]
      simp only [e1, e2, e3, e4, if_true, Bool.false_eq_true, if_false]
    · unfold s_q35_0
      have e1 : pLt (a.length : Int) (pLen a) = false := by simp [pLt, pLen]
      simp only [e1, Bool.false_eq_true, if_false]
  unfold m_q35
  have e : pNot (pEq (pLen a) (pLen a)) = false := by simp [pNot, pEq]
  simp only [e, Bool.false_eq_true, if_false, this, pBind, Option.bind_some, pCase]
theorem act_up2 {l : List (List Int)} {h : List (Int × List Int)} {dn fu : Bool} {left mask wr : Int} {H : List (Int × List Int)} {f : Int} {n : Nat} (D : DR l h dn fu left mask wr H f n) (hn : n ≤ 80) :
    ∃ out l' h' fu' H' f', m_q13 l h dn fu left mask wr = some (l', (h', (false, (fu', (left, (mask, (wr, (out, ())))))))) ∧ m_q43 H l f mask dn wr = some (H', (l', (f', (mask, (false, (wr, (out, ()))))))) ∧ out.length ≤ 80 ∧ l'.length = l.length ∧ DR l' h' false fu' left mask wr H' f' n := by
  have hc := D.cnt
  cases dn with
  | false => exact ⟨[], l, h, fu, H, f, up_up, rup_up, by simp, rfl, D⟩
  | true =>
    have hfu := D.df rfl
    subst hfu
    obtain ⟨L, u1, u2, u3⟩ := up_ok2 (l := l) (h := h) (fuse := true) (left := left) (mask := mask) (writes := wr) (by omega) D.rng
    have hkr : ∀ e ∈ H, 0 ≤ e.1 ∧ e.1 < (l.length : Int) := fun e he => D.rng e.1 ((fe_mem D.nd D.ris D.fe e.1).1 (List.mem_map_of_mem (f := (·.1)) he))
    have hL : L = H.map (·.1) := by
      refine sorted_one (u1.trans ((List.perm_ext_iff_of_nodup D.nd (rising_nodup D.ris)).2 fun a => (fe_mem D.nd D.ris D.fe a).symm)) u2 ?_
      exact List.Pairwise.map (R := fun a b : Int × List Int => a.1 < b.1) _ (fun a b hab => by omega) D.ris
    subst hL
    rw [upF_same D.fe] at u3
    have hrows := upF_rows (H := H) (fun k => by
      rw [get_find]
      cases hv : findE H k with
      | none => simp
      | some v => exact D.h32 _ ((find_mem (rising_nodup D.ris)).1 hv)) mask (H.map (·.1)) 0 l [] D.r32
    refine ⟨_, _, [], false, [], -1, u3, rup_ok (by omega) (rising_nodup D.ris) hkr, (by have := upF_out H mask (H.map (·.1)) 0 l []; simp at this; omega), hrows.2, ⟨by simp, by simp, fun q => rfl, List.Pairwise.nil, hrows.1, by simp, ⟨(fun hh => by cases hh), fun _ => rfl⟩, (fun hh => by cases hh), by simp⟩⟩
theorem turn_up (a1 : List (Int × (Int × Int))) (i : Nat) (at' nn : Int) (hi : i < a1.length) (hl : a1.length ≤ 60) (hp : pGet (0, (0, 0)) a1 (i : Int) = (5, (at', nn))) (l : List (List Int)) (h : List (Int × List Int)) (dn fu : Bool) (left mask wr : Int) (H : List (Int × List Int)) (f : Int) (n : Nat) (D : DR l h dn fu left mask wr H f n) (hn : n ≤ 79) :
    ∃ l' h' dn' fu' left' mask' wr' H' f', s_DiskActs_0 a1 ((i : Int), (H, (l, (f, (mask, (dn, (wr, (l, (h, (dn, (fu, (left, (mask, (wr, ())))))))))))))) = some (.inl (((i + 1 : Nat) : Int), (H', (l', (f', (mask', (dn', (wr', (l', (h', (dn', (fu', (left', (mask', (wr', ()))))))))))))))) ∧ l'.length = l.length ∧ DR l' h' dn' fu' left' mask' wr' H' f' n := by
  obtain ⟨out, l2, h2, fu2, H2, f2, c1, c2, c4, c3, D2⟩ := act_up2 D (by omega)
  have ci := ints_ok out (by omega)
  have bt : pNot true = false := rfl
  obtain ⟨re, v, r1, r2⟩ := act_read (i := at') D2 (by omega)
  have e1 : pLt (i : Int) (pLen a1) = true := by simp [pLt, pLen]; omega
  have e2 : pIn (i : Int) (pLen a1) = true := by simp [pIn, pLen]; omega
  have e3 : pAdd .i64 (i : Int) 1 = ((i + 1 : Nat) : Int) := by rw [add64 (by omega) (by omega)]; omega
  have es : pNot (pEqS v v) = false := by simp [pEqS, pNot]
  have ee : ∀ e : Int, pNot (pEq e e) = false := fun e => by simp [pEq, pNot]
  have eb : pNot (pEqB false false) = false := rfl
  have hd : ∀ (l : List (List Int)) (h : List (Int × List Int)) (d f : Bool) (x y z : Int), m_q6 l h d f x y z = some (d, (l, (h, (d, (f, (x, (y, (z, ())))))))) := fun _ _ _ _ _ _ _ => rfl
  have hw : ∀ (l : List (List Int)) (h : List (Int × List Int)) (d f : Bool) (x y z : Int), m_q15 l h d f x y z = some (z, (l, (h, (d, (f, (x, (y, (z, ())))))))) := fun _ _ _ _ _ _ _ => rfl
  have hL : ∀ (l : List (List Int)) (h : List (Int × List Int)) (d f : Bool) (x y z : Int), m_q10 l h d f x y z = some (pLen l, (l, (h, (d, (f, (x, (y, (z, ())))))))) := fun _ _ _ _ _ _ _ => rfl
  have z1 : pEq (5 : Int) 1 = false := by decide
  have z2 : pEq (5 : Int) 2 = false := by decide
  have z3 : pEq (5 : Int) 3 = false := by decide
  have z4 : pEq (5 : Int) 4 = false := by decide
  have z5 : pEq (5 : Int) 5 = true := by decide
  refine ⟨l2, h2, false, fu2, left, mask, wr, H2, f2, ?_, c3, D2⟩
  unfold s_DiskActs_0
  simp only [e1, e2, e3, hp, z1, z2, z3, z4, z5, if_true, Bool.false_eq_true, if_false, pBind, Option.bind_some, pCase, c1, c2, ci, bt, r1, r2, pAmb_self, es, ee, eb, hd, hw, hL]
end Go.Xr.Try
