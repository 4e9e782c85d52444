import Derived.Test.YtkooincefcodcaaSortD
set_option linter.unusedVariables false
set_option linter.unusedSimpArgs false
set_option maxRecDepth 100000
set_option maxHeartbeats 1600000
namespace Go.Xr.Try
open Go Go.Xr Go.Sort
/-! a function that calls itself: more depth gives no other answer -/
def OLe {α : Type} (x y : Option α) : Prop := ∀ v, x = some v → y = some v
theorem ole_refl {α : Type} (x : Option α) : OLe x x := fun _ h => h
theorem ole_bind {α β : Type} {x y : Option α} {f g : α → Option β} (h : OLe x y) (hf : ∀ a, OLe (f a) (g a)) : OLe (pBind x f) (pBind y g) := by
  intro v hv
  cases x with
  | none => cases hv
  | some a => rw [h a rfl]; exact hf a v hv
theorem ole_ite {α : Type} {c : Prop} [Decidable c] {x x' y y' : Option α} (h : OLe x x') (h2 : OLe y y') : OLe (if c then x else y) (if c then x' else y') := by
  split
  · exact h
  · exact h2
theorem ole_case {α β γ : Type} {s : α ⊕ β} {f f' : α → Option γ} {g g' : β → Option γ} (h : ∀ a, OLe (f a) (f' a)) (h2 : ∀ b, OLe (g b) (g' b)) : OLe (pCase s f g) (pCase s f' g') := by
  cases s with
  | inl a => exact h a
  | inr b => exact h2 b
theorem ole_iter {D X : Type} {s t : D → Option (D ⊕ X)} (h : ∀ d, OLe (s d) (t d)) (d : D) : OLe (pIter s d) (pIter t d) := by
  intro v hv
  obtain ⟨n, hn⟩ := pIter_iff.1 hv
  refine pIter_iff.2 ⟨n, ?_⟩
  induction n generalizing d with
  | zero => simp [iterN] at hn
  | succ n ih =>
    simp only [iterN] at hn ⊢
    cases hs : s d with
    | none => rw [hs] at hn; cases hn
    | some r =>
      rw [hs] at hn
      rw [h d r hs]
      cases r with
      | inl d' => exact ih d' (pIter_iff.2 ⟨n, hn⟩) hn
      | inr x => exact hn
theorem s0_mono {f g : (Int × (Int × (Int × ((List Int) × Unit)))) → Option ((List Int) × Unit)} (h : ∀ d, OLe (f d) (g d)) (d : (Int × (Int × (Int × (Bool × (Bool × ((List Int) × Unit))))))) : OLe (s_slices_pdqsortOrdered_int__0 f d) (s_slices_pdqsortOrdered_int__0 g d) := by
  unfold s_slices_pdqsortOrdered_int__0
  repeat' (first | (with_reducible exact ole_refl _) | exact h _ | refine ole_ite ?_ ?_ | refine ole_bind ?_ (fun _ => ?_) | refine ole_case (fun _ => ?_) (fun _ => ?_))
theorem b_mono {f g : (Int × (Int × (Int × ((List Int) × Unit)))) → Option ((List Int) × Unit)} (h : ∀ d, OLe (f d) (g d)) (d : (Int × (Int × (Int × ((List Int) × Unit))))) : OLe (b_slices_pdqsortOrdered_int_ f d) (b_slices_pdqsortOrdered_int_ g d) := by
  unfold b_slices_pdqsortOrdered_int_
  exact ole_bind (ole_iter (s0_mono h) _) fun _ => ole_refl _
theorem rec_step {D X : Type} {B : (D → Option X) → D → Option X} (hB : ∀ f g, (∀ d, OLe (f d) (g d)) → ∀ d, OLe (B f d) (B g d)) : ∀ (n : Nat) (d : D), OLe (recN B n d) (recN B (n + 1) d)
  | 0, d => fun v hv => by simp [recN] at hv
  | n + 1, d => hB _ _ (rec_step hB n) d
theorem rec_le {D X : Type} {B : (D → Option X) → D → Option X} (hB : ∀ f g, (∀ d, OLe (f d) (g d)) → ∀ d, OLe (B f d) (B g d)) (n : Nat) (d : D) : ∀ k, OLe (recN B n d) (recN B (n + k) d)
  | 0 => ole_refl _
  | k + 1 => fun v hv => rec_step hB _ _ v (rec_le hB n d k v hv)
theorem pRec_val {D X : Type} {B : (D → Option X) → D → Option X} (hB : ∀ f g, (∀ d, OLe (f d) (g d)) → ∀ d, OLe (B f d) (B g d)) {d : D} {x : X} {n : Nat} (h : recN B n d = some x) : pRec B d = some x := by
  unfold pRec
  have hh : ∃ n, (recN B n d).isSome := ⟨n, by rw [h]; rfl⟩
  rw [dif_pos hh]
  have hs := hh.choose_spec
  generalize hh.choose = m at *
  cases hm : recN B m d with
  | none => rw [hm] at hs; cases hs
  | some y =>
    have h1 := rec_le hB n d m x h
    have h2 := rec_le hB m d n y hm
    rw [Nat.add_comm] at h2
    rw [h1] at h2
    exact h2.symm
/-- the library's sort -/
theorem sort_eq (xs : List Int) (hl : xs.length < 256) : ∃ L, m_q20 xs = some (L, ()) ∧ L.Perm xs ∧ L.Pairwise (· ≤ ·) := by
  obtain ⟨N, hN⟩ := pdq_run xs.toArray 0 xs.toArray.size (bitsLen xs.length) true true (Nat.zero_le _) (Nat.le_refl _) (by simpa using hl) (by
    have := (bitsLen_le_iff xs.length 8).2 (by omega)
    omega) (.inl rfl)
  have h1 := hN N (Nat.le_refl _)
  have h2 : recN b_slices_pdqsortOrdered_int_ (N + 1) (0, ((xs.length : Int), ((bitsLen xs.length : Int), (xs, ())))) = some ((pdq ltInt xs.toArray 0 xs.toArray.size (bitsLen xs.length) true true).toList, ()) := by
    show (pIter (s_slices_pdqsortOrdered_int__0 (recN b_slices_pdqsortOrdered_int_ N)) (((0 : Nat) : Int), ((xs.toArray.size : Int), ((bitsLen xs.length : Int), (true, (true, (xs.toArray.toList, ()))))))).bind (fun d136 => some (d136.1, ())) = _
    rw [h1]
    rfl
  have h3 := pRec_val (fun f g h d => b_mono h d) h2
  refine ⟨xs.mergeSort (fun x y => decide (x ≤ y)), ?_, List.mergeSort_perm _ _, ?_⟩
  · unfold m_q20
    have hs : (pdq ltInt xs.toArray 0 xs.toArray.size (bitsLen xs.length) true true).toList = xs.mergeSort (fun x y => decide (x ≤ y)) := by
      have := sortInt xs
      simpa [sort] using this
    rw [show pLen xs = (xs.length : Int) from rfl, len_eq hl]
    simp only [pBind, Option.bind_some]
    rw [h3, hs]
    rfl
  · have := List.pairwise_mergeSort (le := fun x y : Int => decide (x ≤ y)) (fun a b c hab hbc => by simp at *; omega) (fun a b => by simp; omega) xs
    exact this.imp (fun h => by simpa using h)
end Go.Xr.Try
