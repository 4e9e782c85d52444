import Derived.Test.YtkooincefcodcaaM
import Derived.Test.YtkooincefcodcaaX5
set_option linter.unusedVariables false
set_option linter.unusedSimpArgs false
set_option maxRecDepth 100000
namespace Go.Xr.Try
open Go Go.Xr

/-! loops that count -/
theorem pIter_count {D X : Type} {step : D → PO (PSum D X)} {F : Nat → D} {n : Nat} {x : X} (h : ∀ i, i < n → step (F i) = some (.inl (F (i + 1)))) (hx : step (F n) = some (.inr x)) : ∀ j i, i + j = n → pIter step (F i) = some x
  | 0, i, e => by rw [show i = n by omega]; exact pIter_inr hx
  | j + 1, i, e => by rw [pIter_inl (h i (by omega))]; exact pIter_count h hx j (i + 1) (by omega)
theorem pAny_eq {D α : Type} {p : D → Prop} {g : D → Option α} {r : α} (d0 : D) (h0 : p d0) (h : ∀ d, p d → g d = some r) : pAny p g = some r := by
  unfold pAny
  have hh : ∃ r, ∀ d, p d → g d = some r := ⟨r, h⟩
  rw [dif_pos hh]
  have := hh.choose_spec d0 h0
  rw [h d0 h0] at this
  cases this
  rfl
/-! a map's entries -/
abbrev eqI : Int → Int → Bool := fun u v => pEq u v
def findE {β : Type} : List (Int × β) → Int → Option β
  | [], _ => none | p :: r, k => if p.1 = k then some p.2 else findE r k
theorem has_find {β : Type} : ∀ (l : List (Int × β)) (k : Int), pMHas eqI l k = (findE l k).isSome
  | [], k => rfl
  | p :: r, k => by
    simp only [pMHas, findE, eqI, pEq, has_find r k]
    by_cases h : p.1 = k
    · simp [h]
    · simp [h, Ne.symm h]
theorem get_find {β : Type} (d : β) : ∀ (l : List (Int × β)) (k : Int), pMGet eqI d l k = (findE l k).getD d
  | [], k => rfl
  | p :: r, k => by
    simp only [pMGet, findE, eqI, pEq, get_find d r k]
    by_cases h : p.1 = k
    · simp [h]
    · simp [h, Ne.symm h]
theorem find_put {β : Type} : ∀ (l : List (Int × β)) (k : Int) (v : β) (j : Int), findE (pMPut eqI l k v) j = if j = k then some v else findE l j
  | [], k, v, j => by
    simp only [pMPut, findE]
    by_cases h : k = j
    · simp [h]
    · simp [h, Ne.symm h]
  | p :: r, k, v, j => by
    simp only [pMPut, eqI, pEq]
    by_cases h : p.1 = k
    · subst h
      simp only [decide_true, if_true, findE]
      by_cases hj : p.1 = j
      · simp [hj]
      · simp [hj, Ne.symm hj]
    · have h' : ¬ k = p.1 := fun e => h e.symm
      simp only [h', decide_false, Bool.false_eq_true, if_false, findE, find_put r k v j]
      by_cases hj : p.1 = j
      · subst hj; simp [h]
      · simp [hj]
theorem put_keys {β : Type} : ∀ (l : List (Int × β)) (k : Int) (v : β) (j : Int), j ∈ (pMPut eqI l k v).map (·.1) ↔ j = k ∨ j ∈ l.map (·.1)
  | [], k, v, j => by simp [pMPut]
  | p :: r, k, v, j => by
    simp only [pMPut, eqI, pEq]
    by_cases h : k = p.1
    · subst h; simp
    · simp only [h, decide_false, Bool.false_eq_true, if_false, List.map_cons, List.mem_cons]
      rw [put_keys r k v j]
      constructor
      · rintro (h | h | h) <;> simp [h]
      · rintro (h | h | h) <;> simp [h]
theorem put_nodup {β : Type} : ∀ (l : List (Int × β)) (k : Int) (v : β), (l.map (·.1)).Nodup → ((pMPut eqI l k v).map (·.1)).Nodup
  | [], k, v, h => by simp [pMPut]
  | p :: r, k, v, h => by
    rw [List.map_cons, List.nodup_cons] at h
    simp only [pMPut, eqI, pEq]
    by_cases e : k = p.1
    · subst e; simpa using h
    · simp only [e, decide_false, Bool.false_eq_true, if_false, List.map_cons, List.nodup_cons]
      refine ⟨fun hm => ?_, put_nodup r k v h.2⟩
      rcases (put_keys r k v p.1).1 hm with h1 | h1
      · exact e h1.symm
      · exact h.1 h1
theorem put_len {β : Type} : ∀ (l : List (Int × β)) (k : Int) (v : β), (pMPut eqI l k v).length ≤ l.length + 1
  | [], k, v => by simp [pMPut]
  | p :: r, k, v => by
    simp only [pMPut, eqI, pEq]
    split
    · simp
    · simp only [List.length_cons]
      have := put_len r k v
      omega
theorem find_mem {β : Type} : ∀ {l : List (Int × β)} {k : Int} {v : β}, (l.map (·.1)).Nodup → (findE l k = some v ↔ (k, v) ∈ l)
  | [], k, v, h => by simp [findE]
  | p :: r, k, v, h => by
    rw [List.map_cons, List.nodup_cons] at h
    simp only [findE, List.mem_cons]
    by_cases e : p.1 = k
    · subst e
      simp only [if_true, Option.some.injEq]
      constructor
      · rintro rfl; exact .inl rfl
      · rintro (h1 | h1)
        · rw [← h1]
        · exact (h.1 (List.mem_map.2 ⟨_, h1, rfl⟩)).elim
    · rw [if_neg e, find_mem h.2]
      constructor
      · exact .inr
      · rintro (h1 | h1)
        · rw [← h1] at e; exact (e rfl).elim
        · exact h1
theorem find_none {β : Type} : ∀ {l : List (Int × β)} {k : Int}, findE l k = none ↔ k ∉ l.map (·.1)
  | [], k => by simp [findE]
  | p :: r, k => by
    simp only [findE, List.map_cons, List.mem_cons]
    by_cases e : p.1 = k
    · subst e; simp
    · rw [if_neg e, find_none]
      constructor
      · rintro h (h1 | h1)
        · exact e h1.symm
        · exact h h1
      · intro h h1; exact h (.inr h1)
theorem find_perm {β : Type} {l m : List (Int × β)} (h : (l.map (·.1)).Nodup) (hp : l.Perm m) (k : Int) : findE l k = findE m k := by
  have hm : (m.map (·.1)).Nodup := (hp.map (·.1)).nodup_iff.1 h
  cases hl : findE l k with
  | none =>
    have h1 := find_none.1 hl
    have h2 : k ∉ m.map (·.1) := fun h3 => h1 ((hp.map (·.1)).mem_iff.2 h3)
    rw [find_none.2 h2]
  | some v =>
    have h1 := (find_mem h).1 hl
    rw [(find_mem hm).2 (hp.mem_iff.1 h1)]
/-! sectors -/
abbrev zero32 : List Int := List.replicate 32 0
def sec (v : Int) : List Int := (List.range 32).map fun (i : Nat) => pWrap .u8 (pAdd .i64 (pMul .i64 v 7) (i : Int))
theorem sec_len (v : Int) : (sec v).length = 32 := by simp [sec]
theorem fill_set {α : Type} {L : List α} {z x : α} {i n : Nat} (hn : L.length = n) (h : i < n) (hx : L[i]? = some x) : (L.take i ++ List.replicate (n - i) z).set i x = L.take (i + 1) ++ List.replicate (n - (i + 1)) z := by
  subst hn
  rw [List.getElem?_eq_getElem h] at hx
  cases hx
  have e : L.length - i = (L.length - (i + 1)) + 1 := by omega
  rw [e, List.replicate_succ]
  have hl : (L.take i).length = i := by simp; omega
  rw [List.set_append, if_neg (by omega), hl, Nat.sub_self, List.set_cons_zero, List.take_succ_eq_append_getElem h, List.append_assoc]
  rfl
theorem sector_eq (v : Int) : m_q38 v = some (sec v, ()) := by
  unfold m_q38
  rw [if_pos (by decide)]
  have h : pIter (s_q38_0 v) (0, (pRep 32 0, ())) = some ((32 : Int), (sec v, ())) := by
    refine pIter_count (F := fun i => ((i : Int), ((sec v).take i ++ List.replicate (32 - i) 0, ()))) (n := 32) ?_ ?_ 32 0 rfl
    · intro i hi
      have hl : ((sec v).take i ++ List.replicate (32 - i) (0 : Int)).length = 32 := by simp [sec_len]; omega
      have e1 : pLt (i : Int) 32 = true := by simp [pLt]; omega
      have e2 : pIn (i : Int) (pLen ((sec v).take i ++ List.replicate (32 - i) (0 : Int))) = true := by simp only [pIn, pLen, hl]; simp; omega
      have e3 : pAdd .i64 (i : Int) 1 = ((i + 1 : Nat) : Int) := by rw [add64 (by omega) (by omega)]; omega
      have hs := fill_set (L := sec v) (z := (0 : Int)) (x := pWrap .u8 (pAdd .i64 (pMul .i64 v 7) (i : Int))) (sec_len v) hi (by simp [sec, hi])
      unfold s_q38_0
      simp only [e1, e2, e3, if_true, pSet, Int.toNat_natCast]
      exact congrArg some (congrArg Sum.inl (Prod.ext rfl (Prod.ext hs rfl)))
    · unfold s_q38_0
      have : (sec v).take 32 = sec v := List.take_of_length_le (by rw [sec_len]; exact Nat.le_refl _)
      simp [pLt, this]
  rw [h]
  rfl
/-! the disk -/
theorem at_ok {i : Int} {l : List (List Int)} {h : List (Int × List Int)} {fuse : Bool} {left mask writes : Int} (h0 : 0 ≤ i) (h1 : i < (l.length : Int)) :
    m_q16 i l h false fuse left mask writes = some (0, (l, (h, (false, (fuse, (left, (mask, (writes, ())))))))) := by
  unfold m_q16
  have e1 : pLt i 0 = false := by simp [pLt]; exact h0
  have e2 : pLe (pLen l) i = false := by simp [pLe, pLen]; exact h1
  simp only [e1, e2, Bool.false_eq_true, if_false]
theorem at_down {i : Int} {l : List (List Int)} {h : List (Int × List Int)} {fuse : Bool} {left mask writes : Int} :
    m_q16 i l h true fuse left mask writes = some (7, (l, (h, (true, (fuse, (left, (mask, (writes, ())))))))) := by
  unfold m_q16
  simp only [if_true]
/-- what stands in a sector -/
def rdv (l : List (List Int)) (h : List (Int × List Int)) (i : Int) : List Int := (findE h i).getD (l.getD i.toNat zero32)
theorem read_ok {i : Int} {l : List (List Int)} {h : List (Int × List Int)} {fuse : Bool} {left mask writes : Int} (h0 : 0 ≤ i) (h1 : i < (l.length : Int)) :
    m_q11 i l h false fuse left mask writes = some (0, (l, (h, (false, (fuse, (left, (mask, (writes, (rdv l h i, ()))))))))) := by
  unfold m_q11
  rw [at_ok h0 h1]
  have e1 : pNot (pEq 0 0) = false := by decide
  have e2 : pIn i (pLen l) = true := by simp [pIn, pLen]; omega
  simp only [pBind, Option.bind_some, e1, e2, Bool.false_eq_true, if_false, if_true]
  rw [show (fun u v => pEq u v) = eqI from rfl, has_find, get_find]
  cases hf : findE h i with
  | none => simp only [Option.isSome_none, pNot, Bool.not_false, if_true, pGet, rdv, hf, Option.getD_none, Option.bind_some]
  | some v => simp only [Option.isSome_some, pNot, Bool.not_true, Bool.false_eq_true, if_false, rdv, hf, Option.getD_some, Option.bind_some]
theorem read_down {i : Int} {l : List (List Int)} {h : List (Int × List Int)} {fuse : Bool} {left mask writes : Int} :
    m_q11 i l h true fuse left mask writes = some (7, (l, (h, (true, (fuse, (left, (mask, (writes, ([], ()))))))))) := by
  unfold m_q11
  rw [at_down]
  have e1 : pNot (pEq 7 0) = true := by decide
  simp only [pBind, Option.bind_some, e1, if_true]
theorem write_ok {i : Int} {b : List Int} {l : List (List Int)} {h : List (Int × List Int)} {fuse : Bool} {left mask writes : Int} (h0 : 0 ≤ i) (h1 : i < (l.length : Int)) (hb : b.length = 32) (hf : fuse = false ∨ left ≠ 0) :
    m_q14 i b l h false fuse left mask writes = some (0, (l, (pMPut eqI h i b, (false, (fuse, (pSub .i64 left 1, (mask, (pAdd .i64 writes 1, ())))))))) := by
  unfold m_q14
  rw [at_ok h0 h1]
  have e1 : pNot (pEq 0 0) = false := by decide
  have e2 : pNot (pEq (pLen b) 32) = false := by simp [pNot, pEq, pLen, hb]
  have e3 : pLe 32 (pLen b) = true := by simp [pLe, pLen, hb]
  have e4 : pCut b 0 32 = b := by simp [pCut, ← hb]
  have e5 : (if fuse = true then if pEq left 0 = true then some (Sum.inl (7, (true, (fuse, (left, (mask, (writes, ()))))))) else some (Sum.inr ()) else some (Sum.inr ()) : Option ((Int × (Bool × (Bool × (Int × (Int × (Int × Unit)))))) ⊕ Unit)) = some (.inr ()) := by
    cases fuse with
    | false => rfl
    | true =>
      have : left ≠ 0 := by rcases hf with h | h; cases h; exact h
      simp [pEq, this]
  simp only [pBind, Option.bind_some, e1, e2, e3, e4, e5, Bool.false_eq_true, if_false, if_true, pCase, pAmb_self]
theorem write_blown {i : Int} {b : List Int} {l : List (List Int)} {h : List (Int × List Int)} {mask writes : Int} (h0 : 0 ≤ i) (h1 : i < (l.length : Int)) (hb : b.length = 32) :
    m_q14 i b l h false true 0 mask writes = some (7, (l, (h, (true, (true, (0, (mask, (writes, ())))))))) := by
  unfold m_q14
  rw [at_ok h0 h1]
  have e1 : pNot (pEq 0 0) = false := by decide
  have e2 : pNot (pEq (pLen b) 32) = false := by simp [pNot, pEq, pLen, hb]
  simp only [pBind, Option.bind_some, e1, e2, Bool.false_eq_true, if_false]
  simp only [show pEq (0 : Int) 0 = true from by decide, if_true, pCase, Option.bind_some]
/-- what is there for good, behind a flush -/
def flushL (l : List (List Int)) (h : List (Int × List Int)) : List (List Int) := l.mapIdx fun j x => (findE h (j : Int)).getD x
theorem flushL_len {l : List (List Int)} {h : List (Int × List Int)} : (flushL l h).length = l.length := by simp [flushL]
theorem flush_fold : ∀ (es : List (Int × List Int)) (l : List (List Int)), (es.map (·.1)).Nodup → (∀ k ∈ es.map (·.1), 0 ≤ k ∧ k < (l.length : Int)) →
    pFold s_q8_0 es (l, ([], ())) = some (.inl (flushL l es, ([], ())))
  | [], l, _, _ => by
    have : flushL l [] = l := by
      unfold flushL
      apply List.ext_getElem
      · simp
      · intro i h1 h2; simp [findE]
    simp only [pFold, this]
  | e :: es, l, hn, hk => by
    rw [List.map_cons, List.nodup_cons] at hn
    obtain ⟨k1, k2⟩ := hk e.1 (by simp)
    have e1 : pIn e.1 (pLen l) = true := by simp [pIn, pLen]; omega
    have hst : s_q8_0 e (l, ([], ())) = some (.inl (pSet l e.1 e.2, ([], ()))) := by
      unfold s_q8_0
      simp only [e1, if_true]
    simp only [pFold, hst]
    rw [flush_fold es _ hn.2 (fun k h => by have := hk k (by simp [h]); simpa [pSet] using this)]
    congr 3
    unfold flushL
    apply List.ext_getElem
    · simp [pSet]
    · intro i h1 h2
      simp only [List.getElem_mapIdx, pSet, findE]
      by_cases hi : e.1 = (i : Int)
      · have : e.1.toNat = i := by omega
        simp only [hi, if_true, Option.getD_some]
        rw [find_none.2 (by rw [← hi]; exact hn.1)]
        simp [this, hi]
      · have : ¬ e.1.toNat = i := by omega
        rw [if_neg hi]
        simp [List.getElem_set, this]
theorem flush_ok {l : List (List Int)} {h : List (Int × List Int)} {fuse : Bool} {left mask writes : Int} (hn : (h.map (·.1)).Nodup) (hk : ∀ k ∈ h.map (·.1), 0 ≤ k ∧ k < (l.length : Int)) :
    m_q8 l h false fuse left mask writes = some (0, (flushL l h, ([], (false, (fuse, (left, (mask, (writes, ())))))))) := by
  unfold m_q8
  simp only [Bool.false_eq_true, if_false]
  refine pAny_eq h (List.Perm.refl h) fun d hd => ?_
  have hd' : d.Perm h := hd
  have hn' : (d.map (·.1)).Nodup := (hd'.map (·.1)).nodup_iff.2 hn
  rw [flush_fold d l hn' (fun k hk' => hk k ((hd'.map (·.1)).mem_iff.1 hk'))]
  have : flushL l d = flushL l h := by
    unfold flushL
    congr 1
    funext j x
    rw [find_perm hn' hd']
  simp only [pBind, Option.bind_some, pCase, this]
theorem rdv_flush {l : List (List Int)} {h : List (Int × List Int)} {i : Int} (h0 : 0 ≤ i) (h1 : i < (l.length : Int)) : rdv (flushL l h) [] i = rdv l h i := by
  have hi : i.toNat < l.length := by omega
  have e : ((i.toNat : Nat) : Int) = i := by omega
  simp [rdv, findE, flushL, List.getD_eq_getElem?_getD, hi, e]
theorem rdv_put {l : List (List Int)} {h : List (Int × List Int)} {k i : Int} {b : List Int} : rdv l (pMPut eqI h k b) i = if i = k then b else rdv l h i := by
  unfold rdv
  rw [find_put]
  by_cases e : i = k
  · simp [e]
  · simp [e]
theorem up_up {l : List (List Int)} {h : List (Int × List Int)} {fuse : Bool} {left mask writes : Int} :
    m_q13 l h false fuse left mask writes = some (l, (h, (false, (fuse, (left, (mask, (writes, ([], ())))))))) := by
  unfold m_q13 m_q6
  simp [pBind, pNot]
theorem round_ok {x n : Int} (h0 : 0 < n) (h1 : n < 2 ^ 31) : ∃ k : Nat, m_q36 x n = some ((k : Int), ()) ∧ (k : Int) < n := by
  unfold m_q36
  have e : pNot (pEq n 0) = true := by simp [pNot, pEq]; omega
  simp only [e, if_true]
  have ha : -n < Int.tmod x n ∧ Int.tmod x n < n := by
    constructor
    · rcases Int.le_total 0 x with hx | hx
      · have := Int.tmod_nonneg n hx; omega
      · have h1 : Int.tmod x n = - Int.tmod (-x) n := by rw [Int.neg_tmod, Int.neg_neg]
        have h2 := Int.tmod_lt_of_pos (-x) h0
        omega
    · exact Int.tmod_lt_of_pos x h0
  have e2 : pAdd .i64 (pRem x n) n = Int.tmod x n + n := add64 (by simp only [pRem]; omega) (by simp only [pRem]; omega)
  rw [e2]
  have h2 : 0 ≤ Int.tmod (Int.tmod x n + n) n := Int.tmod_nonneg _ (by omega)
  have h3 : Int.tmod (Int.tmod x n + n) n < n := Int.tmod_lt_of_pos _ h0
  refine ⟨(Int.tmod (Int.tmod x n + n) n).toNat, ?_, by omega⟩
  simp only [pRem]
  congr 2
  omega
end Go.Xr.Try
