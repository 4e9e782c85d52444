import Derived.Test.YtkooincefcodcaaRefC
set_option linter.unusedVariables false
set_option linter.unusedSimpArgs false
set_option maxRecDepth 100000
set_option maxHeartbeats 1600000
namespace Go.Xr.Try
open Go Go.Xr
/-- the disk, and the reference's -/
structure DR (l : List (List Int)) (h : List (Int × List Int)) (dn fu : Bool) (left mask wr : Int) (H : List (Int × List Int)) (f : Int) (n : Nat) : Prop where
  nd : (h.map (·.1)).Nodup
  rng : ∀ k ∈ h.map (·.1), 0 ≤ k ∧ k < (l.length : Int)
  fe : ∀ q, findE h q = findE H q
  ris : Rising H
  r32 : ∀ r ∈ l, r.length = 32
  h32 : ∀ e ∈ H, e.2.length = 32
  fz : (fu = true → 0 ≤ left ∧ left ≤ 1048576 ∧ f = left) ∧ (fu = false → f = -1)
  df : dn = true → fu = true
  cnt : h.length ≤ n ∧ H.length ≤ n
theorem at_out {i : Int} {l : List (List Int)} {h : List (Int × List Int)} {fuse : Bool} {left mask writes : Int} (ho : i < 0 ∨ (l.length : Int) ≤ i) :
    m_q16 i l h false fuse left mask writes = some (1, l, h, false, fuse, left, mask, writes, ()) := by
  unfold m_q16
  by_cases h0 : i < 0
  · have e1 : pLt i 0 = true := by simp [pLt]; exact h0
    simp only [e1, Bool.false_eq_true, if_false, if_true]
  · have e1 : pLt i 0 = false := by simp [pLt]; omega
    have e2 : pLe (pLen l) i = true := by simp [pLe, pLen]; omega
    simp only [e1, e2, Bool.false_eq_true, if_false, if_true]
theorem write_bad {i e : Int} {b : List Int} {l : List (List Int)} {h : List (Int × List Int)} {dn fuse : Bool} {left mask writes : Int} (he : e ≠ 0) (ha : m_q16 i l h dn fuse left mask writes = some (e, l, h, dn, fuse, left, mask, writes, ()) ) :
    m_q14 i b l h dn fuse left mask writes = some (e, l, h, dn, fuse, left, mask, writes, ()) := by
  unfold m_q14
  rw [ha]
  have e1 : pNot (pEq e 0) = true := by simp [pNot, pEq, he]
  simp only [pBind, Option.bind_some, e1, if_true]
theorem write_len {i : Int} {b : List Int} {l : List (List Int)} {h : List (Int × List Int)} {fuse : Bool} {left mask writes : Int} (h0 : 0 ≤ i) (h1 : i < (l.length : Int)) (hb : b.length ≠ 32) :
    m_q14 i b l h false fuse left mask writes = some (1, l, h, false, fuse, left, mask, writes, ()) := by
  unfold m_q14
  rw [at_ok h0 h1]
  have e1 : pNot (pEq 0 0) = false := by decide
  have e2 : pNot (pEq (pLen b) 32) = true := by simp [pNot, pEq, pLen]; omega
  simp only [pBind, Option.bind_some, e1, e2, Bool.false_eq_true, if_false, if_true]
theorem fe_mem {h H : List (Int × List Int)} (hn : (h.map (·.1)).Nodup) (hr : Rising H) (hf : ∀ q, findE h q = findE H q) (k : Int) : k ∈ H.map (·.1) ↔ k ∈ h.map (·.1) := by
  constructor
  · intro hk
    cases hc : findE h k with
    | none => rw [hf] at hc; exact absurd hk (find_none.1 hc)
    | some v => exact List.mem_map_of_mem (f := (·.1)) ((find_mem hn).1 hc)
  · intro hk
    cases hc : findE H k with
    | none => rw [← hf] at hc; exact absurd hk (find_none.1 hc)
    | some v => exact List.mem_map_of_mem (f := (·.1)) ((find_mem (rising_nodup hr)).1 hc)
theorem act_write {i : Int} {b : List Int} {l : List (List Int)} {h : List (Int × List Int)} {dn fu : Bool} {left mask wr : Int} {H : List (Int × List Int)} {f : Int} {n : Nat} (D : DR l h dn fu left mask wr H f n) (hn : n ≤ 79) :
    ∃ e h' dn' left' wr' H' f', m_q14 i b l h dn fu left mask wr = some (e, l, h', dn', fu, left', mask, wr', ()) ∧
      (m_q44 i b H l f mask dn wr = some (.inl (e, H', l, f', mask, dn', wr', ()) ) ∨ ∃ X, m_q44 i b H l f mask dn wr = some (.inr (e, X, l, f', mask, dn', wr', H', ()))) ∧ DR l h' dn' fu left' mask wr' H' f' (n + 1) := by
  have D1 : DR l h dn fu left mask wr H f (n + 1) := ⟨D.nd, D.rng, D.fe, D.ris, D.r32, D.h32, D.fz, D.df, by have := D.cnt; omega⟩
  have hc := D.cnt
  cases dn with
  | true =>
    refine ⟨7, h, true, left, wr, H, f, write_bad (by decide) at_down, .inl ?_, D1⟩
    unfold m_q44
    simp only [if_true]
  | false =>
    by_cases ho : i < 0 ∨ (l.length : Int) ≤ i
    · refine ⟨1, h, false, left, wr, H, f, write_bad (by decide) (at_out ho), .inl ?_, D1⟩
      unfold m_q44
      simp only [Bool.false_eq_true, if_false]
      by_cases h0 : i < 0
      · have e1 : pLt i 0 = true := by simp [pLt]; exact h0
        simp only [e1, if_true]
      · have e1 : pLt i 0 = false := by simp [pLt]; omega
        have e2 : pLe (pLen l) i = true := by simp [pLe, pLen]; omega
        simp only [e1, e2, if_true, Bool.false_eq_true, if_false]
    · have h0 : 0 ≤ i := by omega
      have h1 : i < (l.length : Int) := by omega
      have e1 : pLt i 0 = false := by simp [pLt]; exact h0
      have e2 : pLe (pLen l) i = false := by simp [pLe, pLen]; exact h1
      by_cases hb : b.length = 32
      · by_cases hz : fu = true ∧ left = 0
        · obtain ⟨hfu, hl0⟩ := hz
          subst hfu; subst hl0
          have hf0 := (D.fz.1 rfl).2.2
          subst hf0
          refine ⟨7, h, true, 0, wr, H, 0, write_blown h0 h1 hb, .inl ?_, ⟨D.nd, D.rng, D.fe, D.ris, D.r32, D.h32, D.fz, fun _ => rfl, by omega⟩⟩
          unfold m_q44
          have e3 : pNot (pEq (pLen b) 32) = false := by simp [pNot, pEq, pLen, hb]
          have e4 : pEq 0 0 = true := by decide
          simp only [e1, e2, e3, e4, Bool.false_eq_true, if_false, if_true]
        · have hcase : fu = false ∨ left ≠ 0 := by
            cases fu with
            | false => exact .inl rfl
            | true => exact .inr fun hl => hz ⟨rfl, hl⟩
          have hf0 : f ≠ 0 := by
            cases fu with
            | false => rw [D.fz.2 rfl]; decide
            | true =>
              have := D.fz.1 rfl
              rcases hcase with hc | hc
              · cases hc
              · rw [this.2.2]; exact hc
          have hw := write_ok (i := i) (b := b) (l := l) (h := h) (fuse := fu) (left := left) (mask := mask) (writes := wr) h0 h1 hb hcase
          have hfz : (fu = true → 0 ≤ pSub .i64 left 1 ∧ pSub .i64 left 1 ≤ 1048576 ∧ (if 0 < f then pSub .i64 f 1 else f) = pSub .i64 left 1) ∧ (fu = false → (if 0 < f then pSub .i64 f 1 else f) = -1) := by
            constructor
            · intro hfu
              have := D.fz.1 hfu
              rcases hcase with hc | hc
              · rw [hc] at hfu; cases hfu
              · rw [this.2.2, if_pos (by omega), sub64 (by omega) (by omega)]
                exact ⟨by omega, by omega, rfl⟩
            · intro hfu
              rw [D.fz.2 hfu]
              rfl
          have hlen := put_len h i b
          have hrng : ∀ k ∈ (pMPut eqI h i b).map (·.1), 0 ≤ k ∧ k < (l.length : Int) := by
            intro k hk
            rcases (put_keys _ _ _ _).1 hk with hk | hk
            · omega
            · exact D.rng k hk
          rcases rwrite_ok (i := i) (b := b) (H := H) (B := l) (f := f) (m := mask) (N := wr) (by omega) h0 h1 hb hf0 with ⟨j, v, g1, g2⟩ | ⟨g1, k, k1, k2, k3, g2⟩
          · refine ⟨0, pMPut eqI h i b, false, pSub .i64 left 1, pAdd .i64 wr 1, H.set j (i, b), _, hw, .inl g2, ⟨put_nodup _ _ _ D.nd, hrng, fun q => ?_, rising_set D.ris g1, D.r32, fun e he => ?_, hfz, (fun hh => by cases hh), ?_⟩⟩
            · rw [find_put, findE_set H j i v b q D.ris g1, D.fe]
            · rcases List.mem_or_eq_of_mem_set he with he | he
              · exact D.h32 e he
              · rw [he]; exact hb
            · rw [List.length_set]; omega
          · refine ⟨0, pMPut eqI h i b, false, pSub .i64 left 1, pAdd .i64 wr 1, H.take k ++ (i, b) :: H.drop k, _, hw, .inr ⟨_, g2⟩, ⟨put_nodup _ _ _ D.nd, hrng, fun q => ?_, rising_ins D.ris g1 k1 k2 k3, D.r32, fun e he => ?_, hfz, (fun hh => by cases hh), ?_⟩⟩
            · rw [find_put, findE_ins H k i b q g1, D.fe]
            · rcases List.mem_append.1 he with he | he
              · exact D.h32 e (List.mem_of_mem_take he)
              · rcases List.mem_cons.1 he with he | he
                · rw [he]; exact hb
                · exact D.h32 e (List.mem_of_mem_drop he)
            · simp only [List.length_append, List.length_take, List.length_cons, List.length_drop]; omega
      · refine ⟨1, h, false, left, wr, H, f, write_len h0 h1 hb, .inl ?_, D1⟩
        unfold m_q44
        have e3 : pNot (pEq (pLen b) 32) = true := by simp [pNot, pEq, pLen]; omega
        simp only [e1, e2, e3, Bool.false_eq_true, if_false, if_true]
end Go.Xr.Try
