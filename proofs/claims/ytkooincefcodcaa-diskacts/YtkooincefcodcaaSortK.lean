import Derived.Test.YtkooincefcodcaaSortI
set_option linter.unusedVariables false
set_option linter.unusedSimpArgs false
set_option maxRecDepth 100000
namespace Go.Xr.Try
open Go Go.Xr
theorem room_le {n : Int} (h : n ≤ 100) : pRoom n = true := decide_eq_true (Int.le_trans h (by decide))
theorem pFold_map {E A D X : Type} {step : E → D → Option (Sum D X)} {g : A → D} {f : E → A → A} {P : A → Nat → Prop} (h : ∀ e a n, P a (n + 1) → step e (g a) = some (.inl (g (f e a))) ∧ P (f e a) n) :
    ∀ (es : List E) (a : A), P a es.length → pFold step es (g a) = some (.inl (g (es.foldl (fun a e => f e a) a)))
  | [], a, _ => rfl
  | e :: es, a, ha => by
    have h1 := h e a es.length ha
    unfold pFold
    rw [h1.1]
    exact pFold_map h es _ h1.2
theorem keys_step (e : Int × List Int) (acc : List Int) (u w : List Unit) (h : acc.length < 13) : s_q21_0 e (acc, (u, (w, ()))) = some (.inl (acc ++ [e.1], ([], (w, ())))) := by
  have hr : pRoom (pIAdd (pLen acc) (pLen [e.1])) = true := room_le (by simp only [pIAdd, pLen, List.length_cons, List.length_nil]; omega)
  unfold s_q21_0
  exact if_pos hr
theorem foldl_keys : ∀ (es : List (Int × List Int)) (acc : List Int), es.foldl (fun a e => a ++ [e.1]) acc = acc ++ es.map (·.1)
  | [], acc => by simp
  | e :: es, acc => by rw [List.foldl_cons, foldl_keys es]; simp
theorem keys_fold (es : List (Int × List Int)) (acc : List Int) (ha : acc.length + es.length ≤ 12) : pFold s_q21_0 es (acc, ([], ([], ()))) = some (.inl (acc ++ es.map (·.1), ([], ([], ())))) := by
  have := pFold_map (step := s_q21_0) (g := fun acc => (acc, ([], ([], ())))) (f := fun e a => a ++ [e.1]) (P := fun a n => a.length + n ≤ 12) (fun e a n hP => ⟨keys_step e a [] [] (by omega), by rw [List.length_append, List.length_singleton]; omega⟩) es acc ha
  rw [foldl_keys] at this
  exact this
end Go.Xr.Try
