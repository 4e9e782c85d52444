import Derived.Test.YtkooincefcodcaaRefT
set_option linter.unusedVariables false
set_option linter.unusedSimpArgs false
set_option maxRecDepth 100000
set_option maxHeartbeats 1600000
namespace Go.Xr.Try
open Go Go.Xr
theorem corrupt_bad {i bit e : Int} {l : List (List Int)} {h : List (Int × List Int)} {dn fuse : Bool} {left mask writes : Int} (he : e ≠ 0) (ha : m_q16 i l h dn fuse left mask writes = some (e, (l, (h, (dn, (fuse, (left, (mask, (writes, ())))))))) ) :
    m_q5 i bit l h dn fuse left mask writes = some (e, (l, (h, (dn, (fuse, (left, (mask, (writes, ())))))))) := by
  unfold m_q5
  rw [ha]
  have e1 : pNot (pEq e 0) = true := by simp [pNot, pEq, he]
  simp only [pBind, Option.bind_some, e1, if_true]
theorem act_corrupt {i bit : Int} {l : List (List Int)} {h : List (Int × List Int)} {dn fu : Bool} {left mask wr : Int} {H : List (Int × List Int)} {f : Int} {n : Nat} (D : DR l h dn fu left mask wr H f n) (hn : n ≤ 80) :
    ∃ e l' h' H', m_q5 i bit l h dn fu left mask wr = some (e, (l', (h', (dn, (fu, (left, (mask, (wr, ())))))))) ∧ m_q39 i bit H l f mask dn wr = some (e, (H', (l', (f, (mask, (dn, (wr, ()))))))) ∧ l'.length = l.length ∧ DR l' h' dn fu left mask wr H' f n := by
  have hc := D.cnt
  cases dn with
  | true =>
    refine ⟨7, l, h, H, corrupt_bad (by decide) at_down, ?_, rfl, D⟩
    unfold m_q39
    simp only [if_true]
  | false =>
    by_cases ho : i < 0 ∨ (l.length : Int) ≤ i
    · refine ⟨1, l, h, H, corrupt_bad (by decide) (at_out ho), ?_, rfl, D⟩
      unfold m_q39
      simp only [Bool.false_eq_true, if_false]
      by_cases h0 : i < 0
      · have e1 : pLt i 0 = true := by simp [pLt]; exact h0
        rw [if_pos e1]
      · have e1 : ¬ pLt i 0 = true := by simp [pLt]; omega
        have e2 : pLe (pLen l) i = true := by simp [pLe, pLen]; omega
        rw [if_neg e1, if_pos e2]
    · have h0 : 0 ≤ i := by omega
      have h1 : i < (l.length : Int) := by omega
      by_cases hbit : bit < 0 ∨ 256 ≤ bit
      · refine ⟨1, l, h, H, corrupt_bit h0 h1 hbit, ?_, rfl, D⟩
        unfold m_q39
        have e1 : ¬ pLt i 0 = true := by simp [pLt]; omega
        have e2 : ¬ pLe (pLen l) i = true := by simp [pLe, pLen]; omega
        simp only [Bool.false_eq_true, if_false]
        rw [if_neg e1, if_neg e2]
        by_cases h2 : bit < 0
        · have e3 : pLt bit 0 = true := by simp [pLt]; exact h2
          rw [if_pos e3]
        · have e3 : ¬ pLt bit 0 = true := by simp [pLt]; omega
          have e4 : pLt 255 bit = true := by simp [pLt]; omega
          rw [if_neg e3, if_pos e4]
      · obtain ⟨bt, rfl⟩ := Int.eq_ofNat_of_zero_le (show 0 ≤ bit by omega)
        have hr := corrupt_ok (i := i) (bit := bt) (q := bt / 8) (r := bt % 8) (l := l) (h := h) (fuse := fu) (left := left) (mask := mask) (writes := wr) h0 h1 (by omega) rfl rfl
        have hi : i.toNat < l.length := by omega
        have hlen : (pSet l i (flip (pGet zero32 l i) ((bt / 8 : Nat) : Int) ((bt % 8 : Nat) : Int))).length = l.length := by simp [pSet]
        have hr32 : ∀ r ∈ pSet l i (flip (pGet zero32 l i) ((bt / 8 : Nat) : Int) ((bt % 8 : Nat) : Int)), r.length = 32 := by
          intro r hr
          rcases List.mem_or_eq_of_mem_set hr with hr | hr
          · exact D.r32 r hr
          · rw [hr, flip_len]
            simp [pGet, List.getD_eq_getElem?_getD, hi]
            exact D.r32 _ (List.getElem_mem hi)
        rcases rcorrupt_ok (i := i) (bit := bt) (q := bt / 8) (r := bt % 8) (H := H) (B := l) (f := f) (m := mask) (N := wr) (by omega) h0 h1 (by omega) rfl rfl D.r32 D.h32 with ⟨g1, g2⟩ | ⟨j, v, g1, g2, g3⟩
        · have hno : ¬ pMHas eqI h i = true := by rw [has_find, D.fe, g1]; simp
          rw [if_neg hno] at hr
          exact ⟨0, _, h, H, hr, g2, hlen, ⟨D.nd, fun k hk => by rw [hlen]; exact D.rng k hk, D.fe, D.ris, hr32, D.h32, D.fz, D.df, D.cnt⟩⟩
        · have hyes : pMHas eqI h i = true := by rw [has_find, D.fe, g2]; rfl
          have hget : pMGet eqI zero32 h i = v := by rw [get_find, D.fe, g2]; rfl
          rw [if_pos hyes, hget] at hr
          have hmem : i ∈ h.map (·.1) := (fe_mem D.nd D.ris D.fe i).1 (List.mem_map_of_mem (f := (·.1)) (List.mem_of_getElem? g1))
          have hplen : (pMPut eqI h i (flip v ((bt / 8 : Nat) : Int) ((bt % 8 : Nat) : Int))).length = h.length := by
            have p1 := put_nodup h i (flip v ((bt / 8 : Nat) : Int) ((bt % 8 : Nat) : Int)) D.nd
            have hp : ((pMPut eqI h i (flip v ((bt / 8 : Nat) : Int) ((bt % 8 : Nat) : Int))).map (·.1)).Perm (h.map (·.1)) := (List.perm_ext_iff_of_nodup p1 D.nd).2 fun a => by
              rw [put_keys]
              constructor
              · rintro (rfl | ha)
                · exact hmem
                · exact ha
              · exact .inr
            have := hp.length_eq
            simpa using this
          refine ⟨0, _, _, _, hr, g3, hlen, ⟨put_nodup _ _ _ D.nd, fun k hk => ?_, fun q => ?_, rising_set D.ris g1, hr32, fun e he => ?_, D.fz, D.df, by rw [hplen, List.length_set]; exact D.cnt⟩⟩
          · rw [hlen]
            rcases (put_keys _ _ _ _).1 hk with hk | hk
            · omega
            · exact D.rng k hk
          · rw [find_put, findE_set H j i v _ q D.ris g1, D.fe]
          · rcases List.mem_or_eq_of_mem_set he with he | he
            · exact D.h32 e he
            · rw [he]
              show (flip v _ _).length = 32
              rw [flip_len]
              exact D.h32 _ (List.mem_of_getElem? g1)
theorem upF_same {h H : List (Int × List Int)} (hf : ∀ q, findE h q = findE H q) (mask : Int) : ∀ (ks : List Int) (i : Nat) (l : List (List Int)) (o : List Int), upF h mask i ks l o = upF H mask i ks l o
  | [], i, l, o => rfl
  | k :: ks, i, l, o => by
    have : pMGet eqI zero32 h k = pMGet eqI zero32 H k := by rw [get_find, get_find, hf]
    simp only [upF, this, upF_same hf mask ks]
theorem upF_rows {H : List (Int × List Int)} (hH : ∀ k, (pMGet eqI zero32 H k).length = 32) (mask : Int) : ∀ (ks : List Int) (i : Nat) (l : List (List Int)) (o : List Int), (∀ r ∈ l, r.length = 32) → (∀ r ∈ (upF H mask i ks l o).1, r.length = 32) ∧ (upF H mask i ks l o).1.length = l.length
  | [], i, l, o, hl => ⟨hl, rfl⟩
  | k :: ks, i, l, o, hl => by
    rw [upF]
    split
    · have := upF_rows hH mask ks (i + 1) (l.set k.toNat (pMGet eqI zero32 H k)) (o ++ [k]) (fun r hr => by
        rcases List.mem_or_eq_of_mem_set hr with hr | hr
        · exact hl r hr
        · rw [hr]; exact hH k)
      exact ⟨this.1, by rw [this.2, List.length_set]⟩
    · exact upF_rows hH mask ks (i + 1) l o hl
theorem act_up {l : List (List Int)} {h : List (Int × List Int)} {dn fu : Bool} {left mask wr : Int} {H : List (Int × List Int)} {f : Int} {n : Nat} (D : DR l h dn fu left mask wr H f n) (hn : n ≤ 80) :
    ∃ out l' h' fu' H' f', m_q13 l h dn fu left mask wr = some (l', (h', (false, (fu', (left, (mask, (wr, (out, ())))))))) ∧ m_q43 H l f mask dn wr = some (H', (l', (f', (mask, (false, (wr, (out, ()))))))) ∧ l'.length = l.length ∧ DR l' h' false fu' left mask wr H' f' n := by
  have hc := D.cnt
  cases dn with
  | false => exact ⟨[], l, h, fu, H, f, up_up, rup_up, rfl, D⟩
  | true =>
    have hfu := D.df rfl
    subst hfu
    obtain ⟨L, u1, u2, u3⟩ := up_ok2 (l := l) (h := h) (fuse := true) (left := left) (mask := mask) (writes := wr) (by omega) D.rng
    have hkr : ∀ e ∈ H, 0 ≤ e.1 ∧ e.1 < (l.length : Int) := fun e he => D.rng e.1 ((fe_mem D.nd D.ris D.fe e.1).1 (List.mem_map_of_mem (f := (·.1)) he))
    have hL : L = H.map (·.1) := by
      refine sorted_one (u1.trans ((List.perm_ext_iff_of_nodup D.nd (rising_nodup D.ris)).2 fun a => (fe_mem D.nd D.ris D.fe a).symm)) u2 ?_
      exact List.Pairwise.map (R := fun a b : Int × List Int => a.1 < b.1) _ (fun a b hab => by omega) D.ris
    subst hL
    rw [upF_same D.fe] at u3
    have hrows := upF_rows (H := H) (fun k => by
      rw [get_find]
      cases hv : findE H k with
      | none => simp
      | some v => exact D.h32 _ ((find_mem (rising_nodup D.ris)).1 hv)) mask (H.map (·.1)) 0 l [] D.r32
    refine ⟨_, _, [], false, [], -1, u3, rup_ok (by omega) (rising_nodup D.ris) hkr, hrows.2, ⟨by simp, by simp, fun q => rfl, List.Pairwise.nil, hrows.1, by simp, ⟨(fun hh => by cases hh), fun _ => rfl⟩, (fun hh => by cases hh), by simp⟩⟩
end Go.Xr.Try
