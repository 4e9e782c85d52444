import Derived.Test.YtkooincefcodcaaSortH
set_option linter.unusedVariables false
set_option linter.unusedSimpArgs false
set_option maxRecDepth 100000
namespace Go.Xr.Try
open Go Go.Xr Go.Sort
theorem up_gen {f : Int × Unit → Option ((Int × Unit) ⊕ (Int × Unit))} {p : Int → Bool} {d : Array Int} {j : Nat}
    (h1 : ∀ i : Nat, i ≤ j → f ((i : Int), ()) = if p d[i]! then some (.inl (((i + 1 : Nat) : Int), ())) else some (.inr ((i : Int), ())))
    (h2 : ∀ i : Nat, j < i → f ((i : Int), ()) = some (.inr ((i : Int), ()))) :
    ∀ (n i : Nat), j + 1 - i = n → pIter f ((i : Int), ()) = some ((scanUp p d j i : Int), ()) := by
  intro n
  induction n with
  | zero =>
    intro i hn
    rw [scanUp.eq_def, if_neg (by simp; omega)]
    exact pIter_inr (h2 i (by omega))
  | succ n ih =>
    intro i hn
    have h := h1 i (by omega)
    cases hp : p d[i]! with
    | true =>
      rw [hp, if_pos rfl] at h
      rw [pIter_inl h, ih (i + 1) (by omega)]
      have : scanUp p d j i = scanUp p d j (i + 1) := by
        rw [scanUp.eq_def p d j i, if_pos (by simp [hp]; omega)]
      rw [this]
    | false =>
      rw [hp, if_neg (by simp)] at h
      have : scanUp p d j i = i := by
        rw [scanUp.eq_def p d j i, if_neg (by simp [hp])]
      rw [this]
      exact pIter_inr h
theorem down_gen {f : Int × Unit → Option ((Int × Unit) ⊕ (Int × Unit))} {p : Int → Bool} {d : Array Int} {i J : Nat} (hi : 1 ≤ i)
    (h1 : ∀ j : Nat, i ≤ j + 1 → j + 1 ≤ J → f (((j + 1 : Nat) : Int), ()) = if p d[j + 1]! then some (.inl ((j : Int), ())) else some (.inr (((j + 1 : Nat) : Int), ())))
    (h2 : ∀ j : Nat, j < i → f ((j : Int), ()) = some (.inr ((j : Int), ()))) :
    ∀ (j : Nat), j ≤ J → pIter f ((j : Int), ()) = some ((scanDown p d i j : Int), ())
  | 0, hj => pIter_inr (h2 0 (by omega))
  | j + 1, hj => by
    by_cases hij : i ≤ j + 1
    · have h := h1 j hij hj
      cases hp : p d[j + 1]! with
      | true =>
        rw [hp, if_pos rfl] at h
        rw [pIter_inl h, down_gen hi h1 h2 j (by omega)]
        have : scanDown p d i (j + 1) = scanDown p d i j := by
          rw [scanDown, if_pos (by simp [hp]; omega)]
        rw [this]
      | false =>
        rw [hp, if_neg (by simp)] at h
        have : scanDown p d i (j + 1) = j + 1 := by
          rw [scanDown, if_neg (by simp [hp])]
        rw [this]
        exact pIter_inr h
    · have : scanDown p d i (j + 1) = j + 1 := by
        rw [scanDown, if_neg (by simp; omega)]
      rw [this]
      exact pIter_inr (h2 _ (by omega))
/-! partition -/
theorem part_up (a i j : Nat) (d : Array Int) (ha : a < d.size) (hj : j < d.size) (hd : d.size < 2 ^ 59) :
    pIter (s_q32_2 ((i : Int), ((j : Int), (d.toList, ()))) (a : Int)) ((i : Int), ()) = some ((scanUp (fun x => ltInt x d[a]!) d j i : Int), ()) := by
  refine up_gen (p := fun x => ltInt x d[a]!) (fun k hk => ?_) (fun k hk => ?_) _ i rfl
  · unfold s_q32_2
    have e : pLe (k : Int) (j : Int) = true := by rw [leN]; simp; omega
    simp only [e, inE (d := d) (i := k) (by omega), inE ha, getE, lessE, if_true, pBind, Option.bind_some, add1 (n := k) (by omega)]
  · unfold s_q32_2
    have e : pLe (k : Int) (j : Int) = false := by rw [leN]; simp; omega
    simp only [e, Bool.false_eq_true, if_false, pBind, Option.bind_some]
theorem part_down (a i i2 j : Nat) (d : Array Int) (x : Int) (hi : 1 ≤ i2) (ha : a < d.size) (hj : j < d.size) (hd : d.size < 2 ^ 59) :
    pIter (s_q32_3 ((i2 : Int), ()) (x, ((j : Int), (d.toList, ()))) (a : Int)) ((j : Int), ()) = some ((scanDown (fun x => !ltInt x d[a]!) d i2 j : Int), ()) := by
  refine down_gen (p := fun x => !ltInt x d[a]!) (J := j) hi (fun k hk hk2 => ?_) (fun k hk => ?_) j (Nat.le_refl _)
  · unfold s_q32_3
    have e : pLe (i2 : Int) ((k + 1 : Nat) : Int) = true := by rw [leN]; simp; omega
    simp only [e, inE (d := d) (i := k + 1) (by omega), inE ha, getE, lessE, if_true, pBind, Option.bind_some, sub1 (n := k) (by omega), pNot]
  · unfold s_q32_3
    have e : pLe (i2 : Int) (k : Int) = false := by rw [leN]; simp; omega
    simp only [e, Bool.false_eq_true, if_false, pBind, Option.bind_some]
theorem part_loop (a : Nat) : ∀ (n i j : Nat) (d : Array Int), j + 1 - i ≤ n → a < d.size → 1 ≤ i → j < d.size → d.size < 2 ^ 59 →
    (∃ k, pIter (s_q32_4 (a : Int)) ((i : Int), ((j : Int), (d.toList, ()))) = some (k, (((partLoop ltInt a i j d).1 : Int), ((partLoop ltInt a i j d).2.toList, ())))) ∧ (partLoop ltInt a i j d).1 ≤ j ∧ (partLoop ltInt a i j d).2.size = d.size := by
  intro n
  induction n with
  | zero =>
    intro i j d hn ha hi hj hd
    have hu := part_up a i j d ha hj hd
    have hge := scanUp_ge (fun x => ltInt x d[a]!) d j i
    have hdn := part_down a i (scanUp (fun x => ltInt x d[a]!) d j i) j d (i : Int) (by omega) ha hj hd
    have hle := scanDown_le (fun x => !ltInt x d[a]!) d (scanUp (fun x => ltInt x d[a]!) d j i) j
    rw [partLoop_eq]
    generalize scanUp (fun x => ltInt x d[a]!) d j i = i2 at *
    generalize scanDown (fun x => !ltInt x d[a]!) d i2 j = j2 at *
    have hc : i2 > j2 := by omega
    rw [if_pos hc]
    refine ⟨⟨(i2 : Int), pIter_inr ?_⟩, hle, rfl⟩
    unfold s_q32_4
    have e : pLt (j2 : Int) (i2 : Int) = true := by rw [ltN]; simp; omega
    simp only [hu, hdn, e, pBind, Option.bind_some, if_true]
  | succ n ih =>
    intro i j d hn ha hi hj hd
    have hu := part_up a i j d ha hj hd
    have hge := scanUp_ge (fun x => ltInt x d[a]!) d j i
    have hdn := part_down a i (scanUp (fun x => ltInt x d[a]!) d j i) j d (i : Int) (by omega) ha hj hd
    have hle := scanDown_le (fun x => !ltInt x d[a]!) d (scanUp (fun x => ltInt x d[a]!) d j i) j
    rw [partLoop_eq]
    generalize scanUp (fun x => ltInt x d[a]!) d j i = i2 at *
    generalize scanDown (fun x => !ltInt x d[a]!) d i2 j = j2 at *
    by_cases hc : i2 > j2
    · rw [if_pos hc]
      refine ⟨⟨(i2 : Int), pIter_inr ?_⟩, hle, rfl⟩
      unfold s_q32_4
      have e : pLt (j2 : Int) (i2 : Int) = true := by rw [ltN]; simp; omega
      simp only [hu, hdn, e, pBind, Option.bind_some, if_true]
    · rw [if_neg hc]
      obtain ⟨j3, rfl⟩ : ∃ j3, j2 = j3 + 1 := ⟨j2 - 1, by omega⟩
      obtain ⟨⟨k, hk⟩, h1, h2⟩ := ih (i2 + 1) j3 (swp d i2 (j3 + 1)) (by omega) (by rw [swS]; exact ha) (by omega) (by rw [swS]; omega) (by rw [swS]; exact hd)
      have e : pLt ((j3 + 1 : Nat) : Int) (i2 : Int) = false := by rw [ltN]; simp; omega
      have hs : s_q32_4 (a : Int) ((i : Int), ((j : Int), (d.toList, ()))) = some (.inl (((i2 + 1 : Nat) : Int), ((j3 : Int), ((swp d i2 (j3 + 1)).toList, ())))) := by
        unfold s_q32_4
        simp only [hu, hdn, e, inE (d := d) (i := j3 + 1) (by omega), inE (d := d) (i := i2) (by omega), inS (d := d) (i := j3 + 1) (j := i2) (x := d[j3 + 1]!) (by omega), getE, swE, pBind, Option.bind_some, if_true, Bool.false_eq_true, if_false, add1 (n := i2) (by omega), sub1 (n := j3) (by omega)]
      rw [show j3 + 1 - 1 = j3 from rfl]
      rw [swS] at h2
      exact ⟨⟨k, by rw [pIter_inl hs, hk]⟩, by omega, h2⟩
theorem part0_up (a b pivot : Nat) (d : Array Int) (hab : a < b) (hb : b ≤ d.size) (hp : pivot < d.size) (hd : d.size < 2 ^ 59) :
    pIter (s_q32_0 (b : Int) d.toList (a : Int) (pivot : Int)) (((a + 1 : Nat) : Int), ()) = some ((scanUp (fun x => ltInt x (swp d a pivot)[a]!) (swp d a pivot) (b - 1) (a + 1) : Int), ()) := by
  have es : pSub .i64 (b : Int) 1 = ((b - 1 : Nat) : Int) := by obtain ⟨b', rfl⟩ : ∃ b', b = b' + 1 := ⟨b - 1, by omega⟩; rw [sub1 (by omega)]; rfl
  refine up_gen (p := fun x => ltInt x (swp d a pivot)[a]!) (fun k hk => ?_) (fun k hk => ?_) _ (a + 1) rfl
  · unfold s_q32_0
    have e : pLe (k : Int) ((b - 1 : Nat) : Int) = true := by rw [leN]; simp; omega
    simp only [es, e, getE, swE, inE (d := swp d a pivot) (i := k) (by rw [swS]; omega), inE (d := swp d a pivot) (i := a) (by rw [swS]; omega), lessE, if_true, pBind, Option.bind_some, add1 (n := k) (by omega)]
  · unfold s_q32_0
    have e : pLe (k : Int) ((b - 1 : Nat) : Int) = false := by rw [leN]; simp; omega
    simp only [es, e, Bool.false_eq_true, if_false, pBind, Option.bind_some]
theorem part0_down (a b i2 pivot : Nat) (d : Array Int) (hi : 1 ≤ i2) (hab : a < b) (hb : b ≤ d.size) (hp : pivot < d.size) (hd : d.size < 2 ^ 59) :
    pIter (s_q32_1 ((i2 : Int), ()) d.toList (a : Int) (pivot : Int)) (((b - 1 : Nat) : Int), ()) = some ((scanDown (fun x => !ltInt x (swp d a pivot)[a]!) (swp d a pivot) i2 (b - 1) : Int), ()) := by
  refine down_gen (p := fun x => !ltInt x (swp d a pivot)[a]!) (J := b - 1) hi (fun k hk hk2 => ?_) (fun k hk => ?_) (b - 1) (Nat.le_refl _)
  · unfold s_q32_1
    have e : pLe (i2 : Int) ((k + 1 : Nat) : Int) = true := by rw [leN]; simp; omega
    simp only [e, getE, swE, inE (d := swp d a pivot) (i := k + 1) (by rw [swS]; omega), inE (d := swp d a pivot) (i := a) (by rw [swS]; omega), lessE, if_true, pBind, Option.bind_some, sub1 (n := k) (by omega), pNot]
  · unfold s_q32_1
    have e : pLe (i2 : Int) (k : Int) = false := by rw [leN]; simp; omega
    simp only [e, Bool.false_eq_true, if_false, pBind, Option.bind_some]
theorem partition_eq (a b pivot : Nat) (d : Array Int) (hap : a ≤ pivot) (hpb : pivot < b) (hb : b ≤ d.size) (hd : d.size < 2 ^ 59) :
    m_q32 (a : Int) (b : Int) (pivot : Int) d.toList = some (((partition ltInt d a b pivot).1 : Int), ((partition ltInt d a b pivot).2.1, ((partition ltInt d a b pivot).2.2.toList, ()))) := by
  have es : pSub .i64 (b : Int) 1 = ((b - 1 : Nat) : Int) := by obtain ⟨b', rfl⟩ : ∃ b', b = b' + 1 := ⟨b - 1, by omega⟩; rw [sub1 (by omega)]; rfl
  have hu := part0_up a b pivot d (by omega) hb (by omega) hd
  have hge := scanUp_ge (fun x => ltInt x (swp d a pivot)[a]!) (swp d a pivot) (b - 1) (a + 1)
  have hdn := part0_down a b (scanUp (fun x => ltInt x (swp d a pivot)[a]!) (swp d a pivot) (b - 1) (a + 1)) pivot d (by omega) (by omega) hb (by omega) hd
  have hle := scanDown_le (fun x => !ltInt x (swp d a pivot)[a]!) (swp d a pivot) (scanUp (fun x => ltInt x (swp d a pivot)[a]!) (swp d a pivot) (b - 1) (a + 1)) (b - 1)
  have hdef : partition ltInt d a b pivot = if scanUp (fun x => ltInt x (swp d a pivot)[a]!) (swp d a pivot) (b - 1) (a + 1) > scanDown (fun x => !ltInt x (swp d a pivot)[a]!) (swp d a pivot) (scanUp (fun x => ltInt x (swp d a pivot)[a]!) (swp d a pivot) (b - 1) (a + 1)) (b - 1) then (scanDown (fun x => !ltInt x (swp d a pivot)[a]!) (swp d a pivot) (scanUp (fun x => ltInt x (swp d a pivot)[a]!) (swp d a pivot) (b - 1) (a + 1)) (b - 1), true, swp (swp d a pivot) (scanDown (fun x => !ltInt x (swp d a pivot)[a]!) (swp d a pivot) (scanUp (fun x => ltInt x (swp d a pivot)[a]!) (swp d a pivot) (b - 1) (a + 1)) (b - 1)) a) else ((partLoop ltInt a (scanUp (fun x => ltInt x (swp d a pivot)[a]!) (swp d a pivot) (b - 1) (a + 1) + 1) (scanDown (fun x => !ltInt x (swp d a pivot)[a]!) (swp d a pivot) (scanUp (fun x => ltInt x (swp d a pivot)[a]!) (swp d a pivot) (b - 1) (a + 1)) (b - 1) - 1) (swp (swp d a pivot) (scanUp (fun x => ltInt x (swp d a pivot)[a]!) (swp d a pivot) (b - 1) (a + 1)) (scanDown (fun x => !ltInt x (swp d a pivot)[a]!) (swp d a pivot) (scanUp (fun x => ltInt x (swp d a pivot)[a]!) (swp d a pivot) (b - 1) (a + 1)) (b - 1)))).1, false, swp (partLoop ltInt a (scanUp (fun x => ltInt x (swp d a pivot)[a]!) (swp d a pivot) (b - 1) (a + 1) + 1) (scanDown (fun x => !ltInt x (swp d a pivot)[a]!) (swp d a pivot) (scanUp (fun x => ltInt x (swp d a pivot)[a]!) (swp d a pivot) (b - 1) (a + 1)) (b - 1) - 1) (swp (swp d a pivot) (scanUp (fun x => ltInt x (swp d a pivot)[a]!) (swp d a pivot) (b - 1) (a + 1)) (scanDown (fun x => !ltInt x (swp d a pivot)[a]!) (swp d a pivot) (scanUp (fun x => ltInt x (swp d a pivot)[a]!) (swp d a pivot) (b - 1) (a + 1)) (b - 1)))).2 (partLoop ltInt a (scanUp (fun x => ltInt x (swp d a pivot)[a]!) (swp d a pivot) (b - 1) (a + 1) + 1) (scanDown (fun x => !ltInt x (swp d a pivot)[a]!) (swp d a pivot) (scanUp (fun x => ltInt x (swp d a pivot)[a]!) (swp d a pivot) (b - 1) (a + 1)) (b - 1) - 1) (swp (swp d a pivot) (scanUp (fun x => ltInt x (swp d a pivot)[a]!) (swp d a pivot) (b - 1) (a + 1)) (scanDown (fun x => !ltInt x (swp d a pivot)[a]!) (swp d a pivot) (scanUp (fun x => ltInt x (swp d a pivot)[a]!) (swp d a pivot) (b - 1) (a + 1)) (b - 1)))).1 a) := rfl
  rw [hdef]
  generalize scanUp (fun x => ltInt x (swp d a pivot)[a]!) (swp d a pivot) (b - 1) (a + 1) = i at *
  generalize scanDown (fun x => !ltInt x (swp d a pivot)[a]!) (swp d a pivot) i (b - 1) = j at *
  have hz : (swp d a pivot).size = d.size := swS _ _ _
  have j1 := inE (d := d) (i := pivot) (by omega)
  have j2 := inE (d := d) (i := a) (by omega)
  have j3 := inS (d := d) (i := pivot) (j := a) (x := d[pivot]!) (by omega)
  unfold m_q32
  simp only [j1, j2, j3, getE, swE, if_true, add1 (n := a) (by omega), es, hu, hdn, pBind, Option.bind_some]
  by_cases hc : i > j
  · have e : pLt (j : Int) (i : Int) = true := by rw [ltN]; simp; omega
    rw [if_pos hc]
    simp only [e, if_true, inE (d := swp d a pivot) (i := a) (by omega), inE (d := swp d a pivot) (i := j) (by omega), inS (d := swp d a pivot) (i := a) (j := j) (x := (swp d a pivot)[a]!) (by omega), getE, swE]
  · have e : pLt (j : Int) (i : Int) = false := by rw [ltN]; simp; omega
    rw [if_neg hc]
    obtain ⟨j', rfl⟩ : ∃ j', j = j' + 1 := ⟨j - 1, by omega⟩
    obtain ⟨⟨k, hk⟩, h1, h2⟩ := part_loop a _ (i + 1) j' (swp (swp d a pivot) i (j' + 1)) (Nat.le_refl _) (by rw [swS, swS]; omega) (by omega) (by rw [swS, swS]; omega) (by rw [swS, swS]; exact hd)
    rw [swS, swS] at h2
    simp only [e, Bool.false_eq_true, if_false, if_true, inE (d := swp d a pivot) (i := j' + 1) (by omega), inE (d := swp d a pivot) (i := i) (by omega), inS (d := swp d a pivot) (i := j' + 1) (j := i) (x := (swp d a pivot)[j' + 1]!) (by omega), getE, swE, add1 (n := i) (by omega), sub1 (n := j') (by omega), hk, Option.bind_some, Nat.add_sub_cancel]
    generalize partLoop ltInt a (i + 1) j' (swp (swp d a pivot) i (j' + 1)) = r at *
    simp only [inE (d := r.2) (i := a) (by omega), inE (d := r.2) (i := r.1) (by omega), inS (d := r.2) (i := a) (j := r.1) (x := r.2[a]!) (by omega), getE, swE, if_true]
/-! partitionEqual -/
theorem eq_up (a i j : Nat) (d : Array Int) (ha : a < d.size) (hj : j < d.size) (hd : d.size < 2 ^ 59) :
    pIter (s_q31_0 ((i : Int), ((j : Int), (d.toList, ()))) (a : Int)) ((i : Int), ()) = some ((scanUp (fun x => !ltInt d[a]! x) d j i : Int), ()) := by
  refine up_gen (p := fun x => !ltInt d[a]! x) (fun k hk => ?_) (fun k hk => ?_) _ i rfl
  · unfold s_q31_0
    have e : pLe (k : Int) (j : Int) = true := by rw [leN]; simp; omega
    simp only [e, inE (d := d) (i := k) (by omega), inE ha, getE, lessE, if_true, pBind, Option.bind_some, add1 (n := k) (by omega), pNot]
  · unfold s_q31_0
    have e : pLe (k : Int) (j : Int) = false := by rw [leN]; simp; omega
    simp only [e, Bool.false_eq_true, if_false, pBind, Option.bind_some]
theorem eq_down (a i2 j : Nat) (d : Array Int) (x : Int) (hi : 1 ≤ i2) (ha : a < d.size) (hj : j < d.size) (hd : d.size < 2 ^ 59) :
    pIter (s_q31_1 ((i2 : Int), ()) (a : Int) (x, ((j : Int), (d.toList, ())))) ((j : Int), ()) = some ((scanDown (fun x => ltInt d[a]! x) d i2 j : Int), ()) := by
  refine down_gen (p := fun x => ltInt d[a]! x) (J := j) hi (fun k hk hk2 => ?_) (fun k hk => ?_) j (Nat.le_refl _)
  · unfold s_q31_1
    have e : pLe (i2 : Int) ((k + 1 : Nat) : Int) = true := by rw [leN]; simp; omega
    simp only [e, inE (d := d) (i := k + 1) (by omega), inE ha, getE, lessE, if_true, pBind, Option.bind_some, sub1 (n := k) (by omega)]
  · unfold s_q31_1
    have e : pLe (i2 : Int) (k : Int) = false := by rw [leN]; simp; omega
    simp only [e, Bool.false_eq_true, if_false, pBind, Option.bind_some]
theorem eq_loop (a : Nat) : ∀ (n i j : Nat) (d : Array Int), j + 1 - i ≤ n → a < d.size → 1 ≤ i → j < d.size → d.size < 2 ^ 59 →
    ∃ k, pIter (s_q31_2 (a : Int)) ((i : Int), ((j : Int), (d.toList, ()))) = some (((partEqLoop ltInt a i j d).1 : Int), (k, ((partEqLoop ltInt a i j d).2.toList, ()))) := by
  intro n
  induction n with
  | zero =>
    intro i j d hn ha hi hj hd
    have hu := eq_up a i j d ha hj hd
    have hge := scanUp_ge (fun x => !ltInt d[a]! x) d j i
    have hdn := eq_down a (scanUp (fun x => !ltInt d[a]! x) d j i) j d (i : Int) (by omega) ha hj hd
    have hle := scanDown_le (fun x => ltInt d[a]! x) d (scanUp (fun x => !ltInt d[a]! x) d j i) j
    rw [partEqLoop_eq]
    generalize scanUp (fun x => !ltInt d[a]! x) d j i = i2 at *
    generalize scanDown (fun x => ltInt d[a]! x) d i2 j = j2 at *
    have hc : i2 > j2 := by omega
    rw [if_pos hc]
    refine ⟨(j2 : Int), pIter_inr ?_⟩
    unfold s_q31_2
    have e : pLt (j2 : Int) (i2 : Int) = true := by rw [ltN]; simp; omega
    simp only [hu, hdn, e, pBind, Option.bind_some, if_true]
  | succ n ih =>
    intro i j d hn ha hi hj hd
    have hu := eq_up a i j d ha hj hd
    have hge := scanUp_ge (fun x => !ltInt d[a]! x) d j i
    have hdn := eq_down a (scanUp (fun x => !ltInt d[a]! x) d j i) j d (i : Int) (by omega) ha hj hd
    have hle := scanDown_le (fun x => ltInt d[a]! x) d (scanUp (fun x => !ltInt d[a]! x) d j i) j
    rw [partEqLoop_eq]
    generalize scanUp (fun x => !ltInt d[a]! x) d j i = i2 at *
    generalize scanDown (fun x => ltInt d[a]! x) d i2 j = j2 at *
    by_cases hc : i2 > j2
    · rw [if_pos hc]
      refine ⟨(j2 : Int), pIter_inr ?_⟩
      unfold s_q31_2
      have e : pLt (j2 : Int) (i2 : Int) = true := by rw [ltN]; simp; omega
      simp only [hu, hdn, e, pBind, Option.bind_some, if_true]
    · rw [if_neg hc]
      obtain ⟨j3, rfl⟩ : ∃ j3, j2 = j3 + 1 := ⟨j2 - 1, by omega⟩
      obtain ⟨k, hk⟩ := ih (i2 + 1) j3 (swp d i2 (j3 + 1)) (by omega) (by rw [swS]; exact ha) (by omega) (by rw [swS]; omega) (by rw [swS]; exact hd)
      have e : pLt ((j3 + 1 : Nat) : Int) (i2 : Int) = false := by rw [ltN]; simp; omega
      have hs : s_q31_2 (a : Int) ((i : Int), ((j : Int), (d.toList, ()))) = some (.inl (((i2 + 1 : Nat) : Int), ((j3 : Int), ((swp d i2 (j3 + 1)).toList, ())))) := by
        unfold s_q31_2
        simp only [hu, hdn, e, inE (d := d) (i := j3 + 1) (by omega), inE (d := d) (i := i2) (by omega), inS (d := d) (i := j3 + 1) (j := i2) (x := d[j3 + 1]!) (by omega), getE, swE, pBind, Option.bind_some, if_true, Bool.false_eq_true, if_false, add1 (n := i2) (by omega), sub1 (n := j3) (by omega)]
      rw [show j3 + 1 - 1 = j3 from rfl]
      exact ⟨k, by rw [pIter_inl hs, hk]⟩
theorem partitionEqual_eq (a b pivot : Nat) (d : Array Int) (hap : a ≤ pivot) (hpb : pivot < b) (hb : b ≤ d.size) (hd : d.size < 2 ^ 59) :
    m_q31 (a : Int) (b : Int) (pivot : Int) d.toList = some (((partitionEqual ltInt d a b pivot).1 : Int), ((partitionEqual ltInt d a b pivot).2.toList, ())) := by
  have es : pSub .i64 (b : Int) 1 = ((b - 1 : Nat) : Int) := by obtain ⟨b', rfl⟩ : ∃ b', b = b' + 1 := ⟨b - 1, by omega⟩; rw [sub1 (by omega)]; rfl
  have j1 := inE (d := d) (i := pivot) (by omega)
  have j2 := inE (d := d) (i := a) (by omega)
  have j3 := inS (d := d) (i := pivot) (j := a) (x := d[pivot]!) (by omega)
  obtain ⟨k, hk⟩ := eq_loop a _ (a + 1) (b - 1) (swp d a pivot) (Nat.le_refl _) (by rw [swS]; omega) (by omega) (by rw [swS]; omega) (by rw [swS]; exact hd)
  unfold m_q31
  simp only [j1, j2, j3, getE, swE, if_true, add1 (n := a) (by omega), es, hk, pBind, Option.bind_some]
  rfl
end Go.Xr.Try
