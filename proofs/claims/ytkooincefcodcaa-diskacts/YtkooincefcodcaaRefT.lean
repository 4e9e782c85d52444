import Derived.Test.YtkooincefcodcaaRefS
set_option linter.unusedVariables false
set_option linter.unusedSimpArgs false
set_option maxRecDepth 100000
set_option maxHeartbeats 1600000
namespace Go.Xr.Try
open Go Go.Xr
theorem read_bad {i e : Int} {l : List (List Int)} {h : List (Int × List Int)} {dn fuse : Bool} {left mask writes : Int} (he : e ≠ 0) (ha : m_q16 i l h dn fuse left mask writes = some (e, (l, (h, (dn, (fuse, (left, (mask, (writes, ())))))))) ) :
    m_q11 i l h dn fuse left mask writes = some (e, (l, (h, (dn, (fuse, (left, (mask, (writes, ([], ()))))))))) := by
  unfold m_q11
  rw [ha]
  have e1 : pNot (pEq e 0) = true := by simp [pNot, pEq, he]
  simp only [pBind, Option.bind_some, e1, if_true]
theorem act_read {i : Int} {l : List (List Int)} {h : List (Int × List Int)} {dn fu : Bool} {left mask wr : Int} {H : List (Int × List Int)} {f : Int} {n : Nat} (D : DR l h dn fu left mask wr H f n) (hn : n ≤ 80) :
    ∃ e v, m_q11 i l h dn fu left mask wr = some (e, (l, (h, (dn, (fu, (left, (mask, (wr, (v, ()))))))))) ∧ m_q41 i H l f mask dn wr = some (e, (H, (l, (f, (mask, (dn, (wr, (v, ())))))))) := by
  have hc := D.cnt
  cases dn with
  | true => exact ⟨7, [], read_bad (by decide) at_down, rread_down⟩
  | false =>
    by_cases ho : i < 0 ∨ (l.length : Int) ≤ i
    · exact ⟨1, [], read_bad (by decide) (at_out ho), rread_out ho⟩
    · refine ⟨0, rdv l h i, read_ok (by omega) (by omega), ?_⟩
      rw [rread_ok (by omega) (by omega) (by omega) D.r32 D.h32]
      have : rdv l H i = rdv l h i := by unfold rdv; rw [D.fe]
      rw [this]
theorem act_flush {l : List (List Int)} {h : List (Int × List Int)} {dn fu : Bool} {left mask wr : Int} {H : List (Int × List Int)} {f : Int} {n : Nat} (D : DR l h dn fu left mask wr H f n) (hn : n ≤ 80) :
    ∃ e l' h' H', m_q8 l h dn fu left mask wr = some (e, (l', (h', (dn, (fu, (left, (mask, (wr, ())))))))) ∧ m_q40 H l f mask dn wr = some (e, (H', (l', (f, (mask, (dn, (wr, ()))))))) ∧ l'.length = l.length ∧ DR l' h' dn fu left mask wr H' f n := by
  have hc := D.cnt
  cases dn with
  | true =>
    refine ⟨7, l, h, H, ?_, ?_, rfl, D⟩
    · unfold m_q8
      simp only [if_true]
    · unfold m_q40
      simp only [if_true]
  | false =>
    have hkr : ∀ e ∈ H, 0 ≤ e.1 ∧ e.1 < (l.length : Int) := fun e he => D.rng e.1 ((fe_mem D.nd D.ris D.fe e.1).1 (List.mem_map_of_mem (f := (·.1)) he))
    have hp : putAll H l = flushL l h := putAll_flush (rising_nodup D.ris) (fun e he => (hkr e he).1) D.fe
    refine ⟨0, flushL l h, [], [], flush_ok D.nd D.rng, ?_, flushL_len, ⟨by simp, by simp, fun q => rfl, List.Pairwise.nil, fun r hr => ?_, by simp, D.fz, D.df, by simp⟩⟩
    · rw [rflush_ok (by omega) hkr, hp]
    · simp only [flushL, List.mem_mapIdx] at hr
      obtain ⟨j, hj, rfl⟩ := hr
      cases hv : findE h (j : Int) with
      | none => exact D.r32 _ (List.getElem_mem hj)
      | some v =>
        rw [D.fe] at hv
        exact D.h32 _ ((find_mem (rising_nodup D.ris)).1 hv)
theorem act_fuse {a b : Int} {l : List (List Int)} {h : List (Int × List Int)} {dn fu : Bool} {left mask wr : Int} {H : List (Int × List Int)} {f : Int} {n : Nat} (D : DR l h dn fu left mask wr H f n) :
    ∃ e fu' left' mask' f', m_q9 a b l h dn fu left mask wr = some (e, (l, (h, (dn, (fu', (left', (mask', (wr, ())))))))) ∧ m_q42 a b H l f mask dn wr = some (e, (H, (l, (f', (mask', (dn, (wr, ()))))))) ∧ DR l h dn fu' left' mask' wr H f' n := by
  cases dn with
  | true =>
    refine ⟨7, fu, left, mask, f, ?_, ?_, D⟩
    · unfold m_q9
      simp only [if_true]
    · unfold m_q42
      simp only [if_true]
  | false =>
    by_cases ho : a < 0 ∨ 1048576 < a
    · refine ⟨1, fu, left, mask, f, ?_, ?_, D⟩
      · unfold m_q9
        simp only [Bool.false_eq_true, if_false]
        by_cases h0 : a < 0
        · have e1 : pLt a 0 = true := by simp [pLt]; exact h0
          rw [if_pos e1]
        · have e1 : ¬ pLt a 0 = true := by simp [pLt]; omega
          have e2 : pLt 1048576 a = true := by simp [pLt]; omega
          rw [if_neg e1, if_pos e2]
      · rw [set_ok, if_pos ho]
    · refine ⟨0, true, a, b, a, fuse_ok (by omega) (by omega), ?_, ⟨D.nd, D.rng, D.fe, D.ris, D.r32, D.h32, ⟨fun _ => ⟨by omega, by omega, rfl⟩, (fun hh => by cases hh)⟩, (fun hh => by cases hh), D.cnt⟩⟩
      rw [set_ok, if_neg ho]
end Go.Xr.Try
