import Derived.Test.YtkooincefcodcaaX4
import Derived.Test.YtkooincefcodcaaM
set_option linter.unusedVariables false
set_option linter.unusedSimpArgs false
set_option maxRecDepth 100000
namespace Go.Xr.Try
open Go Go.Xr

/-! ### maps -/
theorem eq3_iff (x y : List Int) : (fun u v => pEqL (fun u v => pEq u v) u v) x y = true ↔ x = y := by
  have : ∀ l m : List Int, pEqL (fun u v => pEq u v) l m = true ↔ l = m := by
    intro l
    induction l with
    | nil => intro m; cases m <;> simp [pEqL]
    | cons a l ih => intro m; cases m <;> simp [pEqL, pEq, ih]
  exact this x y
theorem mhas_put {α β : Type} {eq : α → α → Bool} (he : ∀ x y, eq x y = true ↔ x = y) : ∀ (m : List (α × β)) (k : α) (v : β) (q : α), pMHas eq (pMPut eq m k v) q = (eq q k || pMHas eq m q)
  | [], k, v, q => by simp [pMPut, pMHas]
  | p :: m, k, v, q => by
    simp only [pMPut]
    split
    · rename_i h
      have := (he _ _).1 h
      subst this
      simp [pMHas]
    · simp only [pMHas, mhas_put he m k v q]
      cases eq q p.1 <;> cases eq q k <;> rfl
theorem mget_put {α β : Type} {eq : α → α → Bool} (he : ∀ x y, eq x y = true ↔ x = y) (d : β) : ∀ (m : List (α × β)) (k : α) (v : β) (q : α), pMGet eq d (pMPut eq m k v) q = if eq q k then v else pMGet eq d m q
  | [], k, v, q => by simp [pMPut, pMGet]
  | p :: m, k, v, q => by
    simp only [pMPut]
    split
    · rename_i h
      have := (he _ _).1 h
      subst this
      simp only [pMGet]
      split <;> rfl
    · rename_i h
      simp only [pMGet, mget_put he d m k v q]
      by_cases h1 : eq q p.1 = true
      · have h1' := (he _ _).1 h1
        have : eq q k = false := by
          cases hq : eq q k with
          | false => rfl
          | true =>
            have := (he _ _).1 hq
            subst this
            rw [← h1'] at h
            exact (h ((he q q).2 rfl)).elim
        simp [h1, this]
      · simp [h1]

/-! ### what stood there before -/
/-- the first bytes of a place -/
def key3 (b : List Int) (i : Nat) : List Int := (b.drop i).take 3
/-- the places ahead of k with this beginning, the last one first -/
def occ (b : List Int) (key : List Int) : Nat → List Nat
  | 0 => []
  | k + 1 => if key3 b k = key then k :: occ b key k else occ b key k
/-- the last of them; -1: none -/
def lastP (b : List Int) (key : List Int) : Nat → Int
  | 0 => -1
  | k + 1 => if key3 b k = key then (k : Int) else lastP b key k
theorem lastP_occ (b : List Int) (key : List Int) : ∀ k, (lastP b key k = -1 ∧ occ b key k = []) ∨ ∃ p : Nat, p < k ∧ lastP b key k = (p : Int) ∧ key3 b p = key ∧ occ b key k = p :: occ b key p
  | 0 => .inl ⟨rfl, rfl⟩
  | k + 1 => by
    by_cases h : key3 b k = key
    · exact .inr ⟨k, Nat.lt_succ_self k, by simp [lastP, h], h, by simp [occ, h]⟩
    · simp only [lastP, occ, if_neg h]
      rcases lastP_occ b key k with h1 | ⟨p, h1, h2, h3, h4⟩
      · exact .inl h1
      · exact .inr ⟨p, by omega, h2, h3, h4⟩
theorem lastP_ge (b : List Int) (key : List Int) (k : Nat) : lastP b key k = -1 ∨ (0 ≤ lastP b key k ∧ lastP b key k < k) := by
  rcases lastP_occ b key k with h | ⟨p, h1, h2, _⟩
  · exact .inl h.1
  · right; rw [h2]; omega
theorem occ_mem {b : List Int} {key : List Int} : ∀ {k p : Nat}, p ∈ occ b key k ↔ p < k ∧ key3 b p = key
  | 0, p => by simp [occ]
  | k + 1, p => by
    simp only [occ]
    split
    · rename_i h
      rw [List.mem_cons, occ_mem]
      constructor
      · rintro (rfl | ⟨h1, h2⟩)
        · exact ⟨by omega, h⟩
        · exact ⟨by omega, h2⟩
      · rintro ⟨h1, h2⟩
        by_cases e : p = k
        · exact .inl e
        · exact .inr ⟨by omega, h2⟩
    · rename_i h
      rw [occ_mem]
      constructor
      · rintro ⟨h1, h2⟩; exact ⟨by omega, h2⟩
      · rintro ⟨h1, h2⟩
        refine ⟨?_, h2⟩
        by_cases e : p = k
        · subst e; exact (h h2).elim
        · omega
/-- of each place the last one ahead of it -/
def prevs (b : List Int) (k : Nat) : List Int := (List.range k).map fun i => lastP b (key3 b i) i
theorem prevs_len (b : List Int) (k : Nat) : (prevs b k).length = k := by simp [prevs]
theorem prevs_succ (b : List Int) (k : Nat) : prevs b (k + 1) = prevs b k ++ [lastP b (key3 b k) k] := by simp [prevs, List.range_succ]
theorem prevs_get {b : List Int} {k i : Nat} (h : i < k) : (prevs b k).getD i 0 = lastP b (key3 b i) i := by simp [prevs, h]
/-- the map -/
def LastMap (b : List Int) (k : Nat) (m : List (List Int × Int)) : Prop := ∀ key, pMHas (fun u v => pEqL (fun u v => pEq u v) u v) m key = decide (lastP b key k ≠ -1) ∧ pMGet (fun u v => pEqL (fun u v => pEq u v) u v) 0 m key = if lastP b key k = -1 then 0 else lastP b key k
theorem cut3 {b : List Int} {k : Nat} (h : k + 3 ≤ b.length) : pCut (pCut b (k : Int) (pISub (pLen b) (k : Int))) 0 3 = key3 b k := by
  simp only [pCut, pISub, pLen, key3]
  have e : ((b.length : Int) - (k : Int)).toNat = b.length - k := by omega
  rw [e]
  simp only [Int.toNat_natCast, Int.toNat_zero, List.drop_zero]
  rw [List.take_take]
  congr 1
  show min 3 (b.length - k) = 3
  omega
theorem new_step {b : List Int} (hb : b.length ≤ 1000000) {k : Nat} (hk : k + 3 ≤ b.length) {m : List (List Int × Int)} (hm : LastMap b k m) :
    ∃ m', s_match_New_0 b ((k : Int), (prevs b k, (m, ()))) = some (.inl (((k + 1 : Nat) : Int), (prevs b (k + 1), (m', ())))) ∧ LastMap b (k + 1) m' := by
  have h1 : pLt (k : Int) (pAdd .i64 (pSub .i64 (pLen b) 3) 1) = true := by
    simp only [pLen]
    rw [sub64 (by omega) (by omega), add64 (by omega) (by omega)]
    simp [pLt]; omega
  have h2 : pPart (k : Int) (pLen b) (pLen b) = true := by simp [pPart, pLen]; omega
  have h3 : pLe 3 (pLen (pCut b (k : Int) (pISub (pLen b) (k : Int)))) = true := by
    simp [pLe, pLen, pCut, pISub]; omega
  have h4 : pRoom (pIAdd (pLen (prevs b k)) (pLen [(-1 : Int)])) = true := by simp [pRoom, pIAdd, pLen, prevs_len]; omega
  have h5 : pIn (k : Int) (pLen (pApp (prevs b k) [(-1)])) = true := by simp [pIn, pLen, pApp, prevs_len]; omega
  have h6 : pAdd .i64 (k : Int) 1 = ((k + 1 : Nat) : Int) := by rw [add64 (by omega) (by omega)]; omega
  obtain ⟨hm1, hm2⟩ := hm (key3 b k)
  refine ⟨pMPut (fun u v => pEqL (fun u v => pEq u v) u v) m (key3 b k) (k : Int), ?_, ?_⟩
  · unfold s_match_New_0
    simp only [h1, h2, h3, h4, h5, h6, cut3 hk, if_true, hm1, hm2]
    by_cases hl : lastP b (key3 b k) k = -1
    · simp only [hl, ne_eq, not_true_eq_false, decide_false, Bool.false_eq_true, if_false, pBind, Option.bind_some, pApp]
      rw [prevs_succ, hl]
    · have hset : pSet (pApp (prevs b k) [(-1)]) (k : Int) (lastP b (key3 b k) k) = prevs b (k + 1) := by
        rw [prevs_succ]
        simp only [pSet, pApp, Int.toNat_natCast]
        have := prevs_len b k
        rw [List.set_append_right _ _ (by omega)]
        simp [this]
      simp only [hl, ne_eq, not_false_eq_true, decide_true, if_true, if_false, pBind, Option.bind_some, hset]
  · intro key
    obtain ⟨g1, g2⟩ := hm key
    rw [mhas_put eq3_iff, mget_put eq3_iff, g1, g2]
    by_cases hk2 : key3 b k = key
    · have e1 : pEqL (fun u v => pEq u v) key (key3 b k) = true := (eq3_iff key (key3 b k)).2 hk2.symm
      simp only [lastP, if_pos hk2, e1, Bool.true_or, if_true]
      constructor
      · symm; apply decide_eq_true; omega
      · rw [if_neg (by omega)]
    · have e1 : pEqL (fun u v => pEq u v) key (key3 b k) = false := by
        cases h : pEqL (fun u v => pEq u v) key (key3 b k) with
        | false => rfl
        | true => exact (hk2 ((eq3_iff key (key3 b k)).1 h).symm).elim
      simp only [lastP, if_neg hk2, e1, Bool.false_or, Bool.false_eq_true, if_false, and_self]
theorem new_loop {b : List Int} (hb : b.length ≤ 1000000) : ∀ (j k : Nat) (m : List (List Int × Int)), k + j = b.length - 2 → LastMap b k m → ∃ r, pIter (s_match_New_0 b) ((k : Int), (prevs b k, (m, ()))) = some r ∧ r.2.1 = prevs b (b.length - 2)
  | 0, k, m, hk, hm => by
    refine ⟨_, pIter_inr (x := ((k : Int), (prevs b k, (m, ())))) ?_, ?_⟩
    · unfold s_match_New_0
      have h1 : pLt (k : Int) (pAdd .i64 (pSub .i64 (pLen b) 3) 1) = false := by
        simp only [pLen]
        rw [sub64 (by omega) (by omega), add64 (by omega) (by omega)]
        simp [pLt]; omega
      simp [h1]
    · have : k = b.length - 2 := by omega
      rw [this]
  | j + 1, k, m, hk, hm => by
    obtain ⟨m', h1, h2⟩ := new_step hb (k := k) (by omega) hm
    rw [pIter_inl h1]
    exact new_loop hb j (k + 1) m' (by omega) h2
theorem clone_ok {p : List Int} (h : p.length ≤ 4294967296) : m_slices_Clone_byte_byte_ p = some (p, ()) := by
  unfold m_slices_Clone_byte_byte_
  have hr : pRoom (pIAdd 0 (pLen p)) = true := by simp [pRoom, pIAdd, pLen]; omega
  have ha : pApp [] p = p := rfl
  rw [hr, ha]
  simp only [if_true]
  by_cases e : p = []
  · subst e
    simp only [pAmb_self, ite_self]
  · have : pEq (pLen p) 0 = false := by
      have : p.length ≠ 0 := fun h => e (List.length_eq_zero_iff.1 h)
      simp [pEq, pLen]; omega
    rw [this]
    rfl
/-- A finder. -/
theorem new_ok {b : List Int} (hb : b.length ≤ 1000000) : m_match_New b = some (b, (prevs b (b.length - 2), ())) := by
  obtain ⟨r, h1, h2⟩ := new_loop hb (b.length - 2) 0 [] (by omega) (fun key => by simp [pMHas, pMGet, lastP])
  unfold m_match_New
  rw [clone_ok (by omega)]
  simp only [pBind, Option.bind_some]
  have : prevs b 0 = [] := rfl
  rw [this] at h1
  have h1 : pIter (s_match_New_0 b) (0, ([], ([], ()))) = some r := h1
  rw [h1]
  simp [h2]

/-! ### how long a match is -/
/-- how many bytes are the same from here and there on -/
def runL (b : List Int) : Nat → Nat → Nat → Nat
  | 0, _, _ => 0
  | f + 1, i, j => if i < b.length ∧ b.getD i 0 = b.getD j 0 then runL b f (i + 1) (j + 1) + 1 else 0
theorem runL_le (b : List Int) : ∀ f i j, runL b f i j ≤ f
  | 0, _, _ => Nat.le_refl _
  | f + 1, i, j => by
    simp only [runL]
    split
    · have := runL_le b f (i + 1) (j + 1); omega
    · omega
theorem runL_end (b : List Int) : ∀ f i j, i ≤ b.length → i + runL b f i j ≤ b.length
  | 0, _, _, h => by simpa [runL] using h
  | f + 1, i, j, h => by
    simp only [runL]
    split
    · rename_i hc
      have := runL_end b f (i + 1) (j + 1) (by omega); omega
    · omega
theorem runL_same (b : List Int) : ∀ f i j x, x < runL b f i j → b.getD (i + x) 0 = b.getD (j + x) 0
  | 0, _, _, x, h => by simp [runL] at h
  | f + 1, i, j, x, h => by
    simp only [runL] at h
    split at h
    · rename_i hc
      cases x with
      | zero => exact hc.2
      | succ x =>
        have := runL_same b f (i + 1) (j + 1) x (by omega)
        rw [show i + (x + 1) = i + 1 + x by omega, show j + (x + 1) = j + 1 + x by omega]
        exact this
    · omega
theorem runL_stop (b : List Int) : ∀ f i j, runL b f i j < f → i + runL b f i j < b.length → b.getD (i + runL b f i j) 0 ≠ b.getD (j + runL b f i j) 0
  | 0, _, _, h, _ => by omega
  | f + 1, i, j, h, h2 => by
    simp only [runL] at h h2 ⊢
    split at h
    · rename_i hc
      rw [if_pos hc] at h2 ⊢
      have := runL_stop b f (i + 1) (j + 1) (by omega) (by omega)
      rw [show i + (runL b f (i + 1) (j + 1) + 1) = i + 1 + runL b f (i + 1) (j + 1) by omega, show j + (runL b f (i + 1) (j + 1) + 1) = j + 1 + runL b f (i + 1) (j + 1) by omega]
      exact this
    · rename_i hc
      rw [if_neg hc] at h2 ⊢
      intro e
      exact hc ⟨by omega, e⟩
/-- a match's length -/
def mlen (b : List Int) (i j : Nat) : Nat := runL b 258 i j
theorem key3_run {b : List Int} {i j : Nat} (hi : i + 3 ≤ b.length) (hj : j < i) (h : key3 b j = key3 b i) : 3 ≤ mlen b i j := by
  have hg : ∀ x, x < 3 → b.getD (i + x) 0 = b.getD (j + x) 0 := by
    intro x hx
    have h1 : (key3 b i)[x]? = (key3 b j)[x]? := by rw [h]
    simp only [key3, List.getElem?_take, if_pos hx, List.getElem?_drop] at h1
    rw [List.getD_eq_getElem?_getD, List.getD_eq_getElem?_getD, h1]
  have h0 := hg 0 (by omega)
  have h1 := hg 1 (by omega)
  have h2 := hg 2 (by omega)
  simp only [Nat.add_zero] at h0
  unfold mlen
  show 3 ≤ runL b (255 + 1 + 1 + 1) i j
  simp only [runL]
  rw [if_pos ⟨by omega, h0⟩, if_pos ⟨by omega, h1⟩, if_pos ⟨by omega, by simpa [Nat.add_assoc] using h2⟩]
  omega
theorem at_run {b pv : List Int} (hb : b.length ≤ 1000000) {i j : Nat} (hi : i < b.length) (hj : j < i) {x y : Int} {z : List Unit × Unit} :
    ∀ (f t : Nat), t + f = 258 → pIter (s_match_Finder_At_0 (i : Int) (b, (pv, ((i : Int), ()))) ((j : Int), (x, (y, z)))) ((t : Int), ()) = some (((t + runL b f (i + t) (j + t) : Nat) : Int), ())
  | 0, t, ht => by
    refine pIter_inr ?_
    have : t = 258 := by omega
    subst this
    unfold s_match_Finder_At_0
    simp [pLt, runL]
  | f + 1, t, ht => by
    have h1 : pLt (t : Int) 258 = true := by simp [pLt]; omega
    have h2 : pAdd .i64 (i : Int) (t : Int) = ((i + t : Nat) : Int) := by rw [add64 (by omega) (by omega)]; omega
    have h3 : pSub .i64 (i : Int) (j : Int) = ((i - j : Nat) : Int) := by rw [sub64 (by omega) (by omega)]; omega
    have h4 : pSub .i64 ((i + t : Nat) : Int) ((i - j : Nat) : Int) = ((j + t : Nat) : Int) := by rw [sub64 (by omega) (by omega)]; omega
    have h5 : pAdd .i64 (t : Int) 1 = ((t + 1 : Nat) : Int) := by rw [add64 (by omega) (by omega)]; omega
    by_cases hlt : i + t < b.length
    · have h6 : pLt ((i + t : Nat) : Int) (pLen b) = true := by simp [pLt, pLen]; omega
      have h7 : pIn ((i + t : Nat) : Int) (pLen b) = true := by simp [pIn, pLen]; omega
      have h8 : pIn ((j + t : Nat) : Int) (pLen b) = true := by simp [pIn, pLen]; omega
      have h9 : ∀ q : Nat, pGet 0 b ((q : Nat) : Int) = b.getD q 0 := fun q => by simp only [pGet, Int.toNat_natCast]
      by_cases he : b.getD (i + t) 0 = b.getD (j + t) 0
      · have hst : s_match_Finder_At_0 (i : Int) (b, (pv, ((i : Int), ()))) ((j : Int), (x, (y, z))) ((t : Int), ()) = some (.inl (((t + 1 : Nat) : Int), ())) := by
          unfold s_match_Finder_At_0
          simp only [h1, h2, h3, h4, h5, h6, h7, h8, h9, pEq, he, decide_true, if_true]
        rw [pIter_inl hst, at_run hb hi hj f (t + 1) (by omega)]
        simp only [runL, if_pos (And.intro hlt he)]
        congr 2
        rw [show i + (t + 1) = i + t + 1 by omega, show j + (t + 1) = j + t + 1 by omega]
        omega
      · refine pIter_inr ?_
        unfold s_match_Finder_At_0
        have : ¬ (i + t < b.length ∧ b.getD (i + t) 0 = b.getD (j + t) 0) := fun h => he h.2
        have hr : runL b (f + 1) (i + t) (j + t) = 0 := by simp only [runL]; rw [if_neg this]
        simp only [h1, h2, h3, h4, h5, h6, h7, h8, h9, pEq, he, decide_false, if_true, Bool.false_eq_true, if_false, hr, Nat.add_zero]
    · refine pIter_inr ?_
      unfold s_match_Finder_At_0
      have h6 : pLt ((i + t : Nat) : Int) (pLen b) = false := by simp [pLt, pLen]; omega
      have : ¬ (i + t < b.length ∧ b.getD (i + t) 0 = b.getD (j + t) 0) := fun h => hlt h.1
      simp only [h1, h2, h6, if_true, Bool.false_eq_true, if_false, runL, if_neg this, Nat.add_zero]

/-! ### the best match -/
/-- within reach -/
def near (i : Nat) (p : Nat) : Bool := decide (i - p ≤ 4096)
def best1 (b : List Int) (i : Nat) (s : Nat × Nat) (p : Nat) : Nat × Nat := if s.2 < mlen b i p then (i - p, mlen b i p) else s
def bestL (b : List Int) (i : Nat) (l : List Nat) (s : Nat × Nat) : Nat × Nat := l.foldl (best1 b i) s
theorem best_full (b : List Int) (i : Nat) : ∀ (l : List Nat) (s : Nat × Nat), s.2 = 258 → bestL b i l s = s
  | [], s, _ => rfl
  | p :: l, s, h => by
    have h1 : best1 b i s p = s := by
      unfold best1
      rw [if_neg]
      have := runL_le b 258 i p
      unfold mlen
      omega
    show bestL b i l (best1 b i s p) = s
    rw [h1]
    exact best_full b i l s h
/-- the distances of all matches -/
def placesL (b : List Int) (i : Nat) : List Nat := (occ b (key3 b i) i).takeWhile (near i)
def projAt : (Int × (Int × ((List Unit) × Unit))) ⊕ (Int × (Int × (Int × ((List Unit) × Unit)))) → Int × Int
  | .inl x => (x.1, x.2.1)
  | .inr x => (x.2.1, x.2.2.1)
theorem at_loop {b : List Int} (hb : b.length ≤ 1000000) {i : Nat} (hi : i + 3 ≤ b.length) : ∀ (k : Nat), k ≤ i → ∀ (s : Nat × Nat), s.1 ≤ 1000000 → s.2 ≤ 258 →
    ∃ r, pIter (s_match_Finder_At_1 (b, (prevs b (b.length - 2), ((i : Int), ()))) (i : Int)) (lastP b (key3 b i) k, ((s.1 : Int), ((s.2 : Int), ([], ())))) = some r ∧
      projAt r = (((bestL b i ((occ b (key3 b i) k).takeWhile (near i)) s).1 : Int), ((bestL b i ((occ b (key3 b i) k).takeWhile (near i)) s).2 : Int)) := by
  intro k
  induction k using Nat.strongRecOn with
  | _ k ih =>
    intro hk s hs1 hs2
    rcases lastP_occ b (key3 b i) k with ⟨h1, h2⟩ | ⟨p, hp, h1, hkey, h2⟩
    · refine ⟨_, pIter_inr (x := .inr (-1, ((s.1 : Int), ((s.2 : Int), ([], ()))))) ?_, ?_⟩
      · rw [h1]
        unfold s_match_Finder_At_1
        simp [pLe]
      · rw [h2]
        simp [projAt, bestL]
    · rw [h1, h2]
      have e1 : pLe 0 (p : Int) = true := by simp [pLe]
      have e2 : pSub .i64 (i : Int) (p : Int) = ((i - p : Nat) : Int) := by rw [sub64 (by omega) (by omega)]; omega
      by_cases hn : i - p ≤ 4096
      · have e3 : pLe ((i - p : Nat) : Int) 4096 = true := by simp [pLe]; omega
        have e4 := at_run (pv := prevs b (b.length - 2)) hb (i := i) (j := p) (by omega) (by omega) (x := (s.1 : Int)) (y := (s.2 : Int)) (z := ([], ())) 258 0 rfl
        simp only [Nat.add_zero, Nat.zero_add] at e4
        have e4 : pIter (s_match_Finder_At_0 (i : Int) (b, (prevs b (b.length - 2), ((i : Int), ()))) ((p : Int), ((s.1 : Int), ((s.2 : Int), ([], ()))))) (0, ()) = some ((mlen b i p : Int), ()) := e4
        have hml : mlen b i p ≤ 258 := runL_le b 258 i p
        have e5 : ∃ s' : Nat × Nat, s' = best1 b i s p ∧ (if pLt (s.2 : Int) ((mlen b i p : Nat) : Int) then some (((i - p : Nat) : Int), (((mlen b i p : Nat) : Int), ())) else some ((s.1 : Int), ((s.2 : Int), ()))) = some ((s'.1 : Int), ((s'.2 : Int), ())) := by
          refine ⟨_, rfl, ?_⟩
          unfold best1
          by_cases hc : s.2 < mlen b i p
          · have : pLt (s.2 : Int) ((mlen b i p : Nat) : Int) = true := by simp [pLt]; omega
            rw [this, if_pos hc]; rfl
          · have : pLt (s.2 : Int) ((mlen b i p : Nat) : Int) = false := by simp [pLt]; omega
            rw [this, if_neg hc]; rfl
        obtain ⟨s', hs', e5⟩ := e5
        have hs1' : s'.1 ≤ 1000000 ∧ s'.2 ≤ 258 := by
          rw [hs']
          unfold best1
          split
          · exact ⟨by simp; omega, hml⟩
          · exact ⟨hs1, hs2⟩
        have e6 : pIn (p : Int) (pLen (prevs b (b.length - 2))) = true := by simp [pIn, pLen, prevs_len]; omega
        have e7 : pGet 0 (prevs b (b.length - 2)) (p : Int) = lastP b (key3 b i) p := by
          simp only [pGet, Int.toNat_natCast]
          rw [prevs_get (by omega), hkey]
        have e8 : (p :: occ b (key3 b i) p).takeWhile (near i) = p :: (occ b (key3 b i) p).takeWhile (near i) := by
          rw [List.takeWhile_cons, if_pos (by simp [near]; omega)]
        rw [e8]
        show ∃ r, _ ∧ projAt r = (((bestL b i _ (best1 b i s p)).1 : Int), ((bestL b i _ (best1 b i s p)).2 : Int))
        rw [← hs']
        by_cases hf : s'.2 = 258
        · refine ⟨_, pIter_inr (x := .inl ((s'.1 : Int), ((s'.2 : Int), ([], ())))) ?_, ?_⟩
          · unfold s_match_Finder_At_1
            have : pEq (s'.2 : Int) 258 = true := by simp [pEq]; omega
            simp only [e1, e2, e3, e4, if_true, pBind, Option.bind_some]
            rw [e5]
            simp only [Option.bind_some, this, if_true]
          · rw [best_full b i _ s' hf]
            rfl
        · have hst : s_match_Finder_At_1 (b, (prevs b (b.length - 2), ((i : Int), ()))) (i : Int) ((p : Int), ((s.1 : Int), ((s.2 : Int), ([], ())))) = some (.inl (lastP b (key3 b i) p, ((s'.1 : Int), ((s'.2 : Int), ([], ()))))) := by
            unfold s_match_Finder_At_1
            have : pEq (s'.2 : Int) 258 = false := by simp [pEq]; omega
            simp only [e1, e2, e3, e4, if_true, pBind, Option.bind_some]
            rw [e5]
            simp only [Option.bind_some, this, Bool.false_eq_true, if_false, e6, e7, if_true]
          rw [pIter_inl hst]
          exact ih p hp (by omega) s' hs1'.1 hs1'.2
      · have e3 : pLe ((i - p : Nat) : Int) 4096 = false := by simp [pLe]; omega
        have e8 : (p :: occ b (key3 b i) p).takeWhile (near i) = [] := by
          rw [List.takeWhile_cons, if_neg (by simp [near]; omega)]
        refine ⟨_, pIter_inr (x := .inr ((p : Int), ((s.1 : Int), ((s.2 : Int), ([], ()))))) ?_, ?_⟩
        · unfold s_match_Finder_At_1
          simp only [e1, e2, e3, if_true, Bool.false_eq_true, if_false]
        · rw [e8]
          simp [projAt, bestL]
/-- what 'At' tells -/
def bestAt (b : List Int) (i : Nat) : Nat × Nat := if i + 3 ≤ b.length then bestL b i (placesL b i) (0, 0) else (0, 0)
theorem at_ok {b : List Int} (hb : b.length ≤ 1000000) {i : Nat} (hi : i ≤ 1000000) :
    m_match_Finder_At (i : Int) b (prevs b (b.length - 2)) = some (((bestAt b i).1 : Int), (((bestAt b i).2 : Int), (b, (prevs b (b.length - 2), ())))) := by
  unfold m_match_Finder_At m_match_Finder_Places
  simp only [pBind, Option.bind_some]
  have h1 : pLt (i : Int) 0 = false := by simp [pLt]
  simp only [h1, Bool.false_eq_true, if_false]
  by_cases h : i + 3 ≤ b.length
  · have h2 : pLe (pLen (prevs b (b.length - 2))) (i : Int) = false := by simp [pLe, pLen, prevs_len]; omega
    have h3 : pIn (i : Int) (pLen (prevs b (b.length - 2))) = true := by simp [pIn, pLen, prevs_len]; omega
    have h4 : pGet 0 (prevs b (b.length - 2)) (i : Int) = lastP b (key3 b i) i := by
      simp only [pGet, Int.toNat_natCast]
      exact prevs_get (by omega)
    obtain ⟨r, h5, h6⟩ := at_loop hb h i (Nat.le_refl i) (0, 0) (by omega) (by omega)
    have h5 : pIter (s_match_Finder_At_1 (b, (prevs b (b.length - 2), ((i : Int), ()))) (i : Int)) (lastP b (key3 b i) i, (0, (0, ([], ())))) = some r := h5
    simp only [h2, h3, h4, Bool.false_eq_true, if_false, if_true, h5, Option.bind_some, pAmb_self]
    unfold bestAt
    rw [if_pos h]
    unfold placesL
    cases r with
    | inl x => simp only [projAt, Prod.mk.injEq] at h6; simp only [pCase, h6]
    | inr x => simp only [projAt, Prod.mk.injEq] at h6; simp only [pCase, h6]
  · have h2 : pLe (pLen (prevs b (b.length - 2))) (i : Int) = true := by simp [pLe, pLen, prevs_len]; omega
    simp only [h2, if_true, pAmb_self]
    unfold bestAt
    rw [if_neg h]
    rfl
/-- What is told of the best match. -/
theorem best_spec {b : List Int} {i : Nat} : ∀ (l : List Nat) (s : Nat × Nat), (bestL b i l s = s ∧ ∀ p ∈ l, mlen b i p ≤ s.2) ∨ ∃ p ∈ l, bestL b i l s = (i - p, mlen b i p) ∧ s.2 < mlen b i p ∧ ∀ q ∈ l, mlen b i q ≤ mlen b i p
  | [], s => .inl ⟨rfl, by simp⟩
  | p :: l, s => by
    have hh : bestL b i (p :: l) s = bestL b i l (best1 b i s p) := rfl
    rw [hh]
    unfold best1
    by_cases hc : s.2 < mlen b i p
    · rw [if_pos hc]
      rcases best_spec l (i - p, mlen b i p) with ⟨h1, h2⟩ | ⟨q, h1, h2, h3, h4⟩
      · refine .inr ⟨p, by simp, h1, hc, fun q hq => ?_⟩
        rcases List.mem_cons.1 hq with rfl | hq
        · exact Nat.le_refl _
        · exact h2 q hq
      · refine .inr ⟨q, by simp [h1], h2, by simp at h3; omega, fun q' hq => ?_⟩
        rcases List.mem_cons.1 hq with rfl | hq
        · simp at h3; omega
        · exact h4 q' hq
    · rw [if_neg hc]
      rcases best_spec l s with ⟨h1, h2⟩ | ⟨q, h1, h2, h3, h4⟩
      · refine .inl ⟨h1, fun q hq => ?_⟩
        rcases List.mem_cons.1 hq with rfl | hq
        · omega
        · exact h2 q hq
      · refine .inr ⟨q, by simp [h1], h2, h3, fun q' hq => ?_⟩
        rcases List.mem_cons.1 hq with rfl | hq
        · omega
        · exact h4 q' hq
end Go.Xr.Try
