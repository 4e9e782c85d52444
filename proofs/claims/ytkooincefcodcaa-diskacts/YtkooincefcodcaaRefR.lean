import Derived.Test.YtkooincefcodcaaRefW
set_option linter.unusedVariables false
set_option linter.unusedSimpArgs false
set_option maxRecDepth 100000
namespace Go.Xr.Try
open Go Go.Xr
abbrev Rising (H : List (Int × List Int)) : Prop := H.Pairwise fun a b => a.1 < b.1
theorem rising_nodup {H : List (Int × List Int)} (h : Rising H) : (H.map (·.1)).Nodup := by
  refine List.Pairwise.map (R := fun a b : Int × List Int => a.1 < b.1) _ (fun a b hab => by omega) h
theorem findE_set : ∀ (H : List (Int × List Int)) (j : Nat) (i : Int) (v b : List Int) (q : Int), Rising H → H[j]? = some (i, v) → findE (H.set j (i, b)) q = if q = i then some b else findE H q
  | [], j, i, v, b, q, hr, h => by simp at h
  | p :: r, 0, i, v, b, q, hr, h => by
    simp at h
    subst h
    by_cases hq : i = q
    · simp [findE, hq]
    · simp [findE, hq, Ne.symm hq]
  | p :: r, j + 1, i, v, b, q, hr, h => by
    have h' : r[j]? = some (i, v) := by simpa using h
    have hlt : p.1 < i := (List.pairwise_cons.1 hr).1 _ (List.mem_of_getElem? h')
    have ih := findE_set r j i v b q (List.pairwise_cons.1 hr).2 h'
    simp only [List.set_cons_succ, findE, ih]
    by_cases hq : p.1 = q
    · have : ¬ q = i := by omega
      simp [hq, this]
    · simp [hq]
theorem rising_set {H : List (Int × List Int)} {j : Nat} {i : Int} {v b : List Int} (hr : Rising H) (h : H[j]? = some (i, v)) : Rising (H.set j (i, b)) := by
  have hm : (H.set j (i, b)).map (·.1) = H.map (·.1) := by
    rw [List.map_set]
    refine List.ext_getElem? fun n => ?_
    rw [List.getElem?_set]
    by_cases hn : j = n
    · subst hn
      have hj : j < H.length := (List.getElem?_eq_some_iff.1 h).1
      have hij : H[j] = (i, v) := (List.getElem?_eq_some_iff.1 h).2
      simp [hj, hij]
    · simp [hn]
  have h1 : (H.map (·.1)).Pairwise (· < ·) := List.Pairwise.map (R := fun a b : Int × List Int => a.1 < b.1) _ (fun a b hab => hab) hr
  rw [← hm] at h1
  exact (List.pairwise_map.1 h1)
theorem findE_app : ∀ (A C : List (Int × List Int)) (q : Int), findE (A ++ C) q = (findE A q).or (findE C q)
  | [], C, q => by simp [findE]
  | p :: r, C, q => by
    simp only [List.cons_append, findE, findE_app r C q]
    by_cases hq : p.1 = q <;> simp [hq]
theorem findE_ins (H : List (Int × List Int)) (k : Nat) (i : Int) (b : List Int) (q : Int) (hn : findE H i = none) : findE (H.take k ++ (i, b) :: H.drop k) q = if q = i then some b else findE H q := by
  have h1 : findE H q = (findE (H.take k) q).or (findE (H.drop k) q) := by rw [← findE_app, List.take_append_drop]
  have h2 : findE H i = (findE (H.take k) i).or (findE (H.drop k) i) := by rw [← findE_app, List.take_append_drop]
  rw [findE_app]
  by_cases hq : q = i
  · subst hq
    rw [hn] at h2
    have : findE (H.take k) q = none := by
      cases h : findE (H.take k) q with
      | none => rfl
      | some x => rw [h] at h2; simp at h2
    simp [this, findE]
  · rw [if_neg hq, h1]
    simp [findE, Ne.symm hq]
theorem rising_ins {H : List (Int × List Int)} {k : Nat} {i : Int} {b : List Int} (hr : Rising H) (hn : findE H i = none) (hk : k ≤ H.length) (h1 : ∀ e ∈ H.drop k, i < e.1) (h2 : ∀ p, 0 < k → H[k - 1]? = some p → p.1 ≤ i) : Rising (H.take k ++ (i, b) :: H.drop k) := by
  refine List.pairwise_append.2 ⟨hr.sublist (List.take_sublist _ _), List.pairwise_cons.2 ⟨fun e he => h1 e he, hr.sublist (List.drop_sublist _ _)⟩, fun e he e' he' => ?_⟩
  have hle : e.1 < i := by
    obtain ⟨n, hn1, hn2⟩ := List.getElem_of_mem he
    have hnk : n < k ∧ n < H.length := by simp at hn1; omega
    have hen : H[n]? = some e := by
      rw [List.getElem_take] at hn2
      rw [List.getElem?_eq_getElem hnk.2, hn2]
    have hne : e.1 ≠ i := by
      intro hc
      have := find_none.1 hn
      exact this (hc ▸ List.mem_map_of_mem (List.mem_of_getElem? hen))
    have hk1 : k - 1 < H.length := by omega
    have hlast := h2 H[k - 1] (by omega) (List.getElem?_eq_getElem hk1)
    have hnle : e.1 ≤ H[k - 1].1 := by
      by_cases hnk' : n = k - 1
      · subst hnk'
        rw [List.getElem?_eq_getElem hk1] at hen
        cases hen
        exact Int.le_refl _
      · have := List.pairwise_iff_getElem.1 hr n (k - 1) hnk.2 hk1 (by omega)
        rw [List.getElem?_eq_getElem hnk.2] at hen
        cases hen
        omega
    omega
  rcases List.mem_cons.1 he' with rfl | he'
  · exact hle
  · have := h1 e' he'
    omega
theorem putAll_get : ∀ (es : List (Int × List Int)) (B : List (List Int)), (es.map (·.1)).Nodup → (∀ e ∈ es, 0 ≤ e.1) → ∀ j : Nat, (putAll es B)[j]? = (B[j]?).map fun x => (findE es (j : Int)).getD x
  | [], B, hn, h0, j => by simp [putAll, findE]
  | e :: r, B, hn, h0, j => by
    simp only [List.map_cons, List.nodup_cons] at hn
    have he := h0 e (by simp)
    rw [putAll, putAll_get r _ hn.2 (fun e' he' => h0 e' (by simp [he'])) j, List.getElem?_set]
    by_cases hj : e.1.toNat = j
    · have hj' : e.1 = (j : Int) := by omega
      have hno : findE r (j : Int) = none := find_none.2 (by rw [← hj']; exact hn.1)
      rw [if_pos hj]
      simp only [findE, hj', if_true, hno]
      by_cases hl : j < B.length
      · simp [hj, hl]
      · simp [hj, hl]
    · have hj' : ¬ e.1 = (j : Int) := by omega
      rw [if_neg hj]
      simp only [findE, hj', if_false]
theorem putAll_flush {H h : List (Int × List Int)} {B : List (List Int)} (hn : (H.map (·.1)).Nodup) (h0 : ∀ e ∈ H, 0 ≤ e.1) (hf : ∀ q, findE h q = findE H q) : putAll H B = flushL B h := by
  refine List.ext_getElem? fun j => ?_
  rw [putAll_get H B hn h0 j, flushL, List.getElem?_mapIdx]
  simp [hf]
end Go.Xr.Try
