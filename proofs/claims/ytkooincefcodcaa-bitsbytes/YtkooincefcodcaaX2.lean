import Derived.Test.YtkooincefcodcaaX1
import Derived.Lib.AppendStr
import Derived.OrdersIn
import Derived.TacticsIn
set_option linter.unusedVariables false
set_option linter.unusedSimpArgs false
namespace Go.Xr
open Go

theorem lookup_set {α : Type} : ∀ (l : List (Nat × α)) (i j : Nat) (x : α), lookupN (setN l i x) j = if j = i then some x else lookupN l j
  | [], i, j, x => by
    simp only [setN, lookupN]
    by_cases e : j = i
    · subst e; simp
    · rw [if_neg e]; cases h : Nat.beq j i with
      | true => exact (e (Nat.eq_of_beq_eq_true h)).elim
      | false => rfl
  | (k, y) :: r, i, j, x => by
    simp only [setN]
    cases h : Nat.beq i k with
    | true =>
      have e := Nat.eq_of_beq_eq_true h
      subst e
      simp only [cond_true, lookupN]
      by_cases e : j = i
      · subst e; simp
      · cases h2 : Nat.beq j i with
        | true => exact (e (Nat.eq_of_beq_eq_true h2)).elim
        | false => simp [e]
    | false =>
      simp only [cond_false, lookupN]
      cases h2 : Nat.beq j k with
      | true =>
        have e2 := Nat.eq_of_beq_eq_true h2
        subst e2
        have : j ≠ i := by intro e; subst e; simp at h
        simp [this]
      | false => simpa using lookup_set r i j x
section
variable {F : Fence} {n : Nat} {P : Program} {K : Kit} {o : Oper} {a : Act} {w w' : World} {Qx : Exit → Act → World → Prop} {u : Value}
variable {b : Base} {us : List (Array Value)} {c : Cx} {s : AS} {Q : Ex → AS → Prop} {T : TypeId}
theorem box_put {i j : Nat} {bx : Bx} : (s.putBox i bx).box j = if j = i then some (s.rb bx) else s.box j := by
  unfold AS.box AS.putBox
  simp only [lookup_set]
  split <;> rfl
def NoName (s : AS) (i : Nat) : Prop :=
  (∀ k v, nth s.tm k = some v → (s.rv v).names i = false) ∧ (∀ l ∈ s.up, ∀ k v, nth l k = some v → (s.rv v).names i = false) ∧ ∀ j v, s.box j = some (.var v) → (s.rv v).names i = false
theorem VarC.mono {w w' : World} {E E' : Bool → Nat → Prop} {I I' : Nat → Option BI} (hE : ∀ b k, E b k → E' b k ∧ w'.heap[k]? = w.heap[k]?) {v : AV} {cs : List Value} (hI : ∀ i, v.names i = true → I' i = I i ∨ I' i = none) (h : VarC w E I v cs) : VarC w' E' I' v cs := by
  cases v with
  | undef => exact h
  | agg fs => exact AVCL.mono hE fs cs (fun i k => hI i (by simpa [AV.names] using k)) h
  | _ => exact AVC1.mono hE (fun u hu => AVR.mono hE _ u hI hu) h
theorem UpOK.mono {w w' : World} {E E' : Bool → Nat → Prop} {I I' : Nat → Option BI} {rv : AV → AV} (hE : ∀ b k, E b k → E' b k ∧ w'.heap[k]? = w.heap[k]?) : ∀ (up : List (List AV)) (us : List (Array Value)), (∀ l ∈ up, ∀ k v, nth l k = some v → ∀ i, (rv v).names i = true → I' i = I i ∨ I' i = none) → UpOK w E I rv up us → UpOK w' E' I' rv up us
  | [], _, _, _ => trivial
  | l :: r, us, hI, ⟨u, q, e, h1, h2⟩ => ⟨u, q, e, fun k v hv => ⟨(h1 k v hv).1, AVR.mono hE _ _ (hI l (by simp) k v hv) (h1 k v hv).2⟩, UpOK.mono hE r q (fun l' hl => hI l' (by simp [hl])) h2⟩

/-- A step that touches one box's memory. -/
structure Step1 (c c' : Cx) (s : AS) (i : Nat) : Prop where
  fz : c'.fz = c.fz
  bo : c'.bo = c.bo
  ρ : ∀ j, j ≠ i → c'.ρ j = c.ρ j
  sz : c.w.heap.size ≤ c'.w.heap.size
  os : c'.w.os = c.w.os
  tape : c'.w.tape = c.w.tape
  output : c'.w.output = c.w.output
  w : ∀ k, k < c.w.heap.size → c'.w.heap[k]? = c.w.heap[k]? ∨ (s.box i ≠ none ∧ ∃ base, c.ρ i = some (k, base))
  i : ∀ x, c'.ρ i = some x → x.1 < c'.w.heap.size ∧ (c.w.heap.size ≤ x.1 ∨ (s.box i ≠ none ∧ ∃ base, c.ρ i = some (x.1, base)))
section
variable {i : Nat} {c' : Cx}
theorem Step1.E (g : Step1 c c' s i) (h : St c us s a) : ∀ b k, c.E b k → c'.E b k ∧ c'.w.heap[k]? = c.w.heap[k]? := by
  intro b' k hk
  have hk' : c.fz k ∨ c.bo k := by
    rcases hk with hk | hk
    · exact .inl hk
    · exact .inr hk.2
  refine ⟨by unfold Cx.E at *; rw [g.fz, g.bo]; exact hk, ?_⟩
  rcases g.w k (h.lt k hk') with e | ⟨h1, base, h2⟩
  · exact e
  · have := h.own i _ h1 h2
    rcases hk' with hk' | hk'
    · exact (this.2.1 hk').elim
    · exact (this.2.2 hk').elim
theorem Step1.keep (g : Step1 c c' s i) (h : St c us s a) : ∀ j, j ≠ i → s.box j ≠ none → ∀ x, c.ρ j = some x → c'.w.heap[x.1]? = c.w.heap[x.1]? := by
  intro j hj hbj x hx
  rcases g.w x.1 (h.own j x hbj hx).1 with e | ⟨h1, base, h2⟩
  · exact e
  · exact (hj (h.inj j i x _ hbj h1 hx h2 rfl)).elim
theorem Step1.I (g : Step1 c c' s i) (h : St c us s a) {bx : Bx} : ∀ j, j ≠ i → c'.I (s.putBox i bx) j = c.I s j := by
  intro j hj
  have e1 : (s.putBox i bx).box j = s.box j := by rw [box_put, if_neg hj]
  show boxI c'.w (c'.ρ j) s.rv ((s.putBox i bx).box j) = boxI c.w (c.ρ j) s.rv (s.box j)
  rw [e1, g.ρ j hj]
  cases hbj : s.box j with
  | none => rfl
  | some bj =>
    cases bj with
    | var v => rfl
    | cst k => rfl
    | buf t xs =>
      simp only [boxI]
      cases hx : c.ρ j with
      | none => rfl
      | some x =>
        have := g.keep h j hj (by rw [hbj]; simp) x hx
        simp only [Option.map_some, roomOf, this]
/-- A box is set: nobody names it, or what is known of it stays. -/
theorem St.setBox (h : St c us s a) {bx : Bx} (g : Step1 c c' s i) (hn : NoName s i ∨ c'.I (s.putBox i bx) i = c.I s i)
    (hb : BoxOK c' (s.putBox i bx) i (s.rb bx)) : St c' us (s.putBox i bx) a := by
  have hE := g.E h
  have keep := g.keep h
  have hIj := g.I h (bx := bx)
  have hI : ∀ v : AV, v.names i = false ∨ c'.I (s.putBox i bx) i = c.I s i → ∀ j, v.names j = true → c'.I (s.putBox i bx) j = c.I s j ∨ c'.I (s.putBox i bx) j = none := by
    intro v hv j hj
    by_cases e : j = i
    · subst e
      rcases hv with hv | hv
      · rw [hv] at hj; cases hj
      · exact .inl hv
    · exact .inl (hIj j e)
  have nn : ∀ v : AV, (NoName s i → v.names i = false) → v.names i = false ∨ c'.I (s.putBox i bx) i = c.I s i := by
    intro v hv
    rcases hn with hn | hn
    · exact .inl (hv hn)
    · exact .inr hn
  refine ⟨?_, h.df, ?_, ?_, ?_, ?_, ?_⟩
  · intro k v hv
    obtain ⟨h1, h2⟩ := h.tm k v hv
    exact ⟨h1, AVR.mono hE _ _ (hI _ (nn _ fun hn => hn.1 k v hv)) h2⟩
  · exact UpOK.mono hE s.up us (fun l hl k v hv => hI _ (nn _ fun hn => hn.2.1 l hl k v hv)) h.up
  · intro j bj hj
    rw [box_put] at hj
    split at hj
    · rename_i e
      subst e
      cases hj
      exact hb
    · rename_i e
      have hok := h.bx j bj hj
      cases bj with
      | cst k => exact hok
      | var v =>
        obtain ⟨blk, cs, T, h1, h2, h3⟩ := hok
        refine ⟨blk, cs, T, by rw [g.ρ j e]; exact h1, by rw [keep j e (by rw [hj]; simp) _ h1]; exact h2, ?_⟩
        exact h3.mono hE (hI _ (nn _ fun hn => hn.2.2 j v hj))
      | buf t xs =>
        obtain ⟨hm, hbx⟩ := hok
        refine ⟨hm, ?_⟩
        rcases hbx with ⟨h1, h2⟩ | ⟨blk', base', arr, T, lo, hi, cs, h1, h2, h3, h4, h5, h6⟩
        · exact .inl ⟨by rw [g.ρ j e]; exact h1, h2⟩
        · exact .inr ⟨blk', base', arr, T, lo, hi, cs, by rw [g.ρ j e]; exact h1, by rw [keep j e (by rw [hj]; simp) _ h1]; exact h2, h3, h4.mono (fun x cs hx => hx.mono hE), h5, h6⟩
  · intro j k x y hj hk hx hy hxy
    rw [box_put] at hj hk
    by_cases e1 : j = i <;> by_cases e2 : k = i
    · rw [e1, e2]
    · subst e1
      rw [if_neg e2] at hk
      rw [g.ρ k e2] at hy
      rcases (g.i x hx).2 with hf | ⟨h1, base, h2⟩
      · have := (h.own k y hk hy).1
        omega
      · exact h.inj j k _ y h1 hk h2 hy hxy
    · subst e2
      rw [if_neg e1] at hj
      rw [g.ρ j e1] at hx
      rcases (g.i y hy).2 with hf | ⟨h1, base, h2⟩
      · have := (h.own j x hj hx).1
        omega
      · exact h.inj j k x _ hj h1 hx h2 hxy
    · rw [if_neg e1] at hj
      rw [if_neg e2] at hk
      rw [g.ρ j e1] at hx
      rw [g.ρ k e2] at hy
      exact h.inj j k x y hj hk hx hy hxy
  · intro j x hj hx
    rw [g.fz, g.bo]
    rw [box_put] at hj
    by_cases e : j = i
    · subst e
      obtain ⟨h1, h2⟩ := g.i x hx
      refine ⟨h1, ?_⟩
      rcases h2 with h2 | ⟨h2, base, h3⟩
      · exact ⟨fun k => by have := h.lt _ (.inl k); omega, fun k => by have := h.lt _ (.inr k); omega⟩
      · exact (h.own j _ h2 h3).2
    · rw [if_neg e] at hj
      rw [g.ρ j e] at hx
      obtain ⟨h1, h2⟩ := h.own j x hj hx
      have := g.sz
      exact ⟨by omega, h2⟩
  · intro k hk
    rw [g.fz, g.bo] at hk
    have := h.lt k hk
    have := g.sz
    omega
theorem Fr.setBox (hfr : Fr b c s) {bx : Bx} (g : Step1 c c' s i) : Fr b c' (s.putBox i bx) where
  os := g.os.trans hfr.os
  tape := g.tape.trans hfr.tape
  output := g.output.trans hfr.output
  size := Nat.le_trans hfr.size g.sz
  block := fun k hk hown => by
    rcases g.w k (Nat.lt_of_lt_of_le hk hfr.size) with e | ⟨h1, base, h2⟩
    · rw [e]; exact hfr.block k hk hown
    · rcases hfr.own i _ h1 h2 with h3 | h3
      · exact (hown h3).elim
      · simp at h3; omega
  own := fun j x hj hx => by
    rw [box_put] at hj
    by_cases e : j = i
    · subst e
      rcases (g.i x hx).2 with h2 | ⟨h2, base, h3⟩
      · right; have := hfr.size; omega
      · exact hfr.own j (x.1, base) h2 h3
    · rw [if_neg e] at hj
      rw [g.ρ j e] at hx
      exact hfr.own j x hj hx
  fz := by rw [g.fz]; exact hfr.fz
  fz' := by rw [g.fz]; exact hfr.fz'
  bo := by rw [g.bo]; exact hfr.bo
end

/-! forgetting a box -/
theorem names_part {i : Nat} : ∀ fs : List AV, namesL i (fs.map fun v => bif v.names i then .undef else v) = false
  | [] => rfl
  | v :: r => by
    simp only [List.map_cons, namesL, names_part r, Bool.or_false]
    cases h : v.names i <;> simp [AV.names, h]
theorem part_drop {w : World} {E : Bool → Nat → Prop} {I : Nat → Option BI} {i : Nat} {v : AV} {c1 : List Value} (h : AVC1 w E I v c1) : AVC1 w E I (bif v.names i then .undef else v) c1 := by
  cases hn : v.names i with
  | false => simpa using h
  | true =>
    simp only [cond_true, AVC1, partC] at h ⊢
    cases v <;> simp only [AV.names] at hn h <;> first | exact h.elim | (cases hn; done) | (obtain ⟨u, h1, h2, _⟩ := h; exact ⟨u, h1, h2, by simp only [AVR]⟩)
theorem AVCL_drop {w : World} {E : Bool → Nat → Prop} {I : Nat → Option BI} {i : Nat} : ∀ (fs : List AV) (cs : List Value), AVCL w E I fs cs → AVCL w E I (fs.map fun v => bif v.names i then .undef else v) cs
  | [], cs, h => h
  | v :: r, cs, h => by
    obtain ⟨c1, c2, e, h1, h2⟩ := AVCL_cons.1 h
    exact AVCL_cons.2 ⟨c1, c2, e, part_drop h1, AVCL_drop r c2 h2⟩
theorem drop_agg {i : Nat} {fs : List AV} : (AV.agg fs).drop i = .agg (fs.map fun v => bif v.names i then .undef else v) := by
  unfold AV.drop
  cases h : (AV.agg fs).names i with
  | true => rfl
  | false =>
    simp only [cond_false, AV.agg.injEq]
    simp only [AV.names] at h
    induction fs with
    | nil => rfl
    | cons v r ih =>
      simp only [namesL, Bool.or_eq_false_iff] at h
      simp only [List.map_cons, h.1, cond_false]
      rw [← ih h.2]
theorem drop_other {i : Nat} {v : AV} (h : ∀ fs, v ≠ .agg fs) : v.drop i = .undef ∨ v.drop i = v := by
  unfold AV.drop
  cases hn : v.names i with
  | false => exact .inr rfl
  | true =>
    left
    simp only [cond_true]
    cases v <;> first | exact (h _ rfl).elim | simp only [AV.forget, hn, cond_true]
theorem drop_names {i : Nat} {v : AV} : (v.drop i).names i = false := by
  by_cases h : ∃ fs, v = .agg fs
  · obtain ⟨fs, rfl⟩ := h
    rw [drop_agg]
    exact names_part fs
  · have h : ∀ fs, v ≠ .agg fs := fun fs e => h ⟨fs, e⟩
    cases hn : v.names i with
    | false => simp [AV.drop, hn]
    | true =>
      have : v.drop i = .undef := by
        unfold AV.drop
        simp only [hn, cond_true]
        cases v <;> first | exact (h _ rfl).elim | simp only [AV.forget, hn, cond_true]
      rw [this]
      rfl
theorem AVR_drop {w : World} {E : Bool → Nat → Prop} {I : Nat → Option BI} {i : Nat} {v : AV} (h : AVR w E I v u) : AVR w E I (v.drop i) u := by
  by_cases hv : ∃ fs, v = .agg fs
  · obtain ⟨fs, rfl⟩ := hv
    rw [drop_agg]
    simp only [AVR] at h ⊢
    obtain ⟨cs, h1, h2⟩ := h
    exact ⟨cs, h1, AVCL_drop fs cs h2⟩
  · rcases drop_other (i := i) (v := v) (fun fs e => hv ⟨fs, e⟩) with e | e
    · rw [e]; simp only [AVR]
    · rw [e]; exact h
theorem VarC_drop {w : World} {E : Bool → Nat → Prop} {I : Nat → Option BI} {i : Nat} {v : AV} {cs : List Value} (h : VarC w E I v cs) : VarC w E I (v.drop i) cs := by
  cases v with
  | agg fs => rw [drop_agg]; exact AVCL_drop fs cs h
  | undef => exact h
  | _ =>
    have := VarC.of_part (part_drop (i := i) (show AVC1 w E I _ cs from h))
    unfold AV.drop
    cases hn : AV.names i _ with
    | false => rw [hn] at this; exact this
    | true => rw [hn] at this; simp only [cond_true, AV.forget, hn] at this ⊢; exact this
theorem csz_drop {w : World} {E : Bool → Nat → Prop} {I : Nat → Option BI} {i : Nat} {v : AV} {c1 : List Value} (h : AVC1 w E I v c1) : (bif v.names i then AV.undef else v).csz = v.csz := by
  rw [← (part_drop (i := i) h).len, h.len]
theorem cszL_drop {w : World} {E : Bool → Nat → Prop} {I : Nat → Option BI} {i : Nat} : ∀ (fs : List AV) (cs : List Value) (n : Nat), AVCL w E I fs cs → cszL ((fs.map fun v => bif v.names i then .undef else v).take n) = cszL (fs.take n)
  | [], cs, n, h => by simp
  | v :: r, cs, 0, h => by simp
  | v :: r, cs, n + 1, h => by
    obtain ⟨c1, c2, e, h1, h2⟩ := AVCL_cons.1 h
    simp only [List.map_cons, List.take_succ_cons, cszL, csz_drop h1, cszL_drop r c2 n h2]
theorem getP_part {w : World} {E : Bool → Nat → Prop} {I : Nat → Option BI} {i : Nat} {v : AV} {c1 : List Value} (h : AVC1 w E I v c1) (hn : v.names i = true) (p : List Stp) :
    offA p AV.undef = offA p v ∧ (∀ n t x, AV.getP p v ≠ .pv (.arr n t) x) := by
  cases v <;> simp only [AV.names] at hn <;> first | (cases hn; done) | (simp only [AVC1, partC] at h; done) | skip
  all_goals
    cases p with
    | nil => exact ⟨rfl, fun n t x e => by simp [AV.getP] at e⟩
    | cons st r => cases st <;> exact ⟨rfl, fun n t x e => by simp [AV.getP] at e⟩
theorem arrA_none {p : List Stp} {v : AV} (h : ∀ n t x, AV.getP p v ≠ .pv (.arr n t) x) : arrA p v = none := by
  unfold arrA
  split
  · rename_i n t x e; exact (h _ _ _ e).elim
  · rfl
theorem getP_undef (p : List Stp) : AV.getP p .undef = .undef := by
  cases p with
  | nil => rfl
  | cons st r => cases st <;> rfl
theorem nthD_map {i : Nat} : ∀ (fs : List AV) (n : Nat), nthD .undef (fs.map fun v => bif v.names i then AV.undef else v) n = (bif (nthD .undef fs n).names i then AV.undef else nthD .undef fs n)
  | [], n => by simp [nthD, AV.names]
  | v :: r, 0 => rfl
  | v :: r, n + 1 => by simpa [nthD] using nthD_map r n
/-- A part forgotten: places stay as they are. -/
theorem off_drop {w : World} {E : Bool → Nat → Prop} {I : Nat → Option BI} {i : Nat} {v : AV} {cs : List Value} (h : VarC w E I v cs) (p : List Stp) : offA p (v.drop i) = offA p v ∧ arrA p (v.drop i) = arrA p v := by
  by_cases hv : ∃ fs, v = .agg fs
  · obtain ⟨fs, rfl⟩ := hv
    rw [drop_agg]
    match p with
    | [] => exact ⟨rfl, by rw [arrA_none (fun n t x e => by simp [AV.getP] at e), arrA_none (fun n t x e => by simp [AV.getP] at e)]⟩
    | .idx k :: q => exact ⟨rfl, by rw [arrA_none (fun n t x e => by simp [AV.getP] at e), arrA_none (fun n t x e => by simp [AV.getP] at e)]⟩
    | .fld n :: q =>
      by_cases hn : n < fs.length
      · obtain ⟨c1, _, k2⟩ := AVCL.sub fs cs n h hn
        simp only [offA, List.length_map, hn, if_true, cszL_drop fs cs n h, nthD_map, arrA, AV.getP]
        cases hna : (nthD .undef fs n).names i with
        | false => exact ⟨rfl, rfl⟩
        | true =>
          obtain ⟨e1, e2⟩ := getP_part k2 hna q
          refine ⟨by simp only [cond_true, e1], ?_⟩
          exact (arrA_none (p := q) (v := .undef) (fun n t x e => by rw [getP_undef] at e; cases e)).trans (arrA_none e2).symm
      · have e : nthD .undef fs n = .undef := by rw [nthD_eq, nth_eq, List.getElem?_eq_none (by omega)]; rfl
        simp only [offA, List.length_map, hn, if_false, arrA, AV.getP, nthD_map, e, AV.names, cond_false, and_self]
  · rcases drop_other (i := i) (v := v) (fun fs e => hv ⟨fs, e⟩) with e | e
    · cases hn : v.names i with
      | false => rw [show v.drop i = v by simp [AV.drop, hn]]; exact ⟨rfl, rfl⟩
      | true =>
        rw [e]
        have hc : AVC1 w E I v cs := by
          cases v with
          | agg fs => exact (hv ⟨fs, rfl⟩).elim
          | undef => simp [AV.names] at hn
          | _ => exact h
        obtain ⟨e1, e2⟩ := getP_part hc hn p
        exact ⟨e1, by rw [arrA_none e2, arrA_none (fun n t x e => by rw [getP_undef] at e; cases e)]⟩
    · rw [e]; exact ⟨rfl, rfl⟩
theorem nth_map {α β : Type} {f : α → β} : ∀ (l : List α) (k : Nat), nth (l.map f) k = (nth l k).map f
  | [], k => rfl
  | x :: r, 0 => rfl
  | x :: r, k + 1 => nth_map r k
theorem lookup_map {α : Type} {g : α → α} : ∀ (l : List (Nat × α)) (j : Nat), lookupN (l.map fun x => (x.1, g x.2)) j = (lookupN l j).map g
  | [], j => rfl
  | (k, x) :: r, j => by
    simp only [List.map_cons, lookupN]
    cases Nat.beq j k with
    | true => rfl
    | false => exact lookup_map r j
/-- what a value becomes -/
def AS.killV (s : AS) (i : Nat) (v : AV) : AV := bif (s.rv v).names i then (s.rv v).forget i else v
theorem rv_killV {i : Nat} {v : AV} (hv : ∀ n, s.rv v ≠ .cst n) : s.rv (s.killV i v) = (s.rv v).drop i := by
  unfold AS.killV AV.drop
  cases hn : (s.rv v).names i with
  | false => rfl
  | true =>
    simp only [cond_true]
    have : ∀ x : AV, (∀ n, x ≠ .cst n) → s.rv x = x := by
      intro x hx
      cases x <;> first | rfl | exact (hx _ rfl).elim
    apply this
    intro n e
    by_cases hag : ∃ fs, s.rv v = .agg fs
    · obtain ⟨fs, e2⟩ := hag
      rw [e2] at e
      cases e
    · have : (s.rv v).forget i = .undef := by
        generalize s.rv v = x at *
        cases x <;> first | exact (hag ⟨_, rfl⟩).elim | simp only [AV.forget, hn, cond_true]
      rw [this] at e
      cases e
def AS.killT (s : AS) (i : Nat) (v : AV) : AV := bif (s.rv v).names i then .undef else v
theorem killT_AVR {w : World} {E : Bool → Nat → Prop} {I : Nat → Option BI} {i : Nat} {v : AV} (h : AVR w E I (s.rv v) u) : AVR w E I (s.rv (s.killT i v)) u := by
  unfold AS.killT
  cases hn : (s.rv v).names i with
  | false => exact h
  | true => simp only [cond_true, AS.rv, AVR]
theorem killT_names {i : Nat} {v : AV} : (s.rv (s.killT i v)).names i = false := by
  unfold AS.killT
  cases hn : (s.rv v).names i with
  | false => exact hn
  | true => simp only [cond_true, AS.rv, AV.names]
def Bx.killB (s : AS) (i : Nat) (b : Bx) : Bx := match s.rb b with | .var v => bif (s.rv v).names i then .var ((s.rv v).forget i) else b | _ => b
theorem kill_eq {i : Nat} : s.kill i = { s with tm := s.tm.map (s.killT i), up := s.up.map fun l => l.map (s.killT i), bx := s.bx.map fun x => (x.1, x.2.killB s i) } := rfl
theorem box_kill {i j : Nat} : (s.kill i).box j = (s.box j).map fun b => match b with | .var v => .var (s.killV i v) | b => b := by
  unfold AS.box
  rw [kill_eq]
  simp only [lookup_map, Option.map_map]
  congr 1
  funext bx
  simp only [Function.comp_apply, Bx.killB]
  cases hb : s.rb bx with
  | var v =>
    simp only [AS.killV]
    cases hn : (s.rv v).names i with
    | true => rfl
    | false => simp only [cond_false]; exact hb
  | buf t xs => exact hb
  | cst k => exact hb
theorem St.notcst (h : St c us s a) {k : Nat} {v : AV} (hv : nth s.tm k = some v) : ∀ n, s.rv v ≠ .cst n := fun n e => by
  have := (h.tm k v hv).2
  rw [e] at this
  exact this.ne_cst
theorem VarC.ne_cst {w : World} {E : Bool → Nat → Prop} {I : Nat → Option BI} {v : AV} {cs : List Value} (h : VarC w E I v cs) : ∀ n, v ≠ .cst n := fun n e => by
  subst e
  simp only [VarC, AVC1, partC] at h
theorem kill_I (h : St c us s a) {i j : Nat} : c.I (s.kill i) j = c.I s j := by
  show boxI c.w (c.ρ j) (s.kill i).rv ((s.kill i).box j) = boxI c.w (c.ρ j) s.rv (s.box j)
  rw [box_kill]
  cases hb : s.box j with
  | none => rfl
  | some bx =>
    cases bx with
    | buf t xs => rfl
    | cst k => rfl
    | var v =>
      obtain ⟨blk, cs, T, h1, h2, h3⟩ := h.bx j _ hb
      simp only [Option.map_some, boxI, h1]
      have e : (s.kill i).rv (s.killV i v) = (s.rv v).drop i := rv_killV h3.ne_cst
      rw [e]
      congr 2
      · funext p; exact (off_drop h3 p).1
      · funext p; exact (off_drop h3 p).2
theorem UpOK.notcst {w : World} {E : Bool → Nat → Prop} {I : Nat → Option BI} {rv : AV → AV} : ∀ (up : List (List AV)) (us : List (Array Value)), UpOK w E I rv up us → ∀ l ∈ up, ∀ k v, nth l k = some v → ∀ n, rv v ≠ .cst n
  | l :: r, us, ⟨u, q, e, h1, h2⟩, l', hl, k, v, hv, n, hc => by
    rcases List.mem_cons.1 hl with rfl | hl
    · have := (h1 k v hv).2
      rw [hc] at this
      exact this.ne_cst
    · exact UpOK.notcst r q h2 l' hl k v hv n hc
theorem UpOK_drop {w : World} {E : Bool → Nat → Prop} {I : Nat → Option BI} {i : Nat} : ∀ (up : List (List AV)) (us : List (Array Value)), UpOK w E I s.rv up us → UpOK w E I s.rv (up.map fun l => l.map (s.killT i)) us
  | [], us, _ => trivial
  | l :: r, us, h@⟨u, q, e, h1, h2⟩ => by
    refine ⟨u, q, e, ?_, UpOK_drop r q h2⟩
    intro k v hv
    rw [nth_map] at hv
    cases hn : nth l k with
    | none => rw [hn] at hv; cases hv
    | some v0 =>
      rw [hn] at hv
      cases hv
      have h3 := h1 k v0 hn
      refine ⟨h3.1, ?_⟩
      exact killT_AVR h3.2
theorem St.kill (h : St c us s a) (i : Nat) : St c us (s.kill i) a ∧ NoName (s.kill i) i := by
  have hI : c.I (s.kill i) = c.I s := funext fun j => kill_I h
  have hrv : ∀ v, (s.kill i).rv v = s.rv v := fun v => rfl
  refine ⟨⟨?_, h.df, ?_, ?_, ?_, ?_, h.lt⟩, ?_, ?_, ?_⟩
  · intro k v hv
    rw [kill_eq] at hv
    simp only [nth_map] at hv
    cases hn : nth s.tm k with
    | none => rw [hn] at hv; cases hv
    | some v0 =>
      rw [hn] at hv
      cases hv
      obtain ⟨h1, h2⟩ := h.tm k v0 hn
      refine ⟨h1, ?_⟩
      rw [hI, hrv]
      exact killT_AVR h2
  · rw [hI]
    exact UpOK_drop s.up us h.up
  · intro j bx hj
    rw [box_kill] at hj
    cases hb : s.box j with
    | none => rw [hb] at hj; cases hj
    | some b0 =>
      rw [hb] at hj
      have hok := h.bx j b0 hb
      cases b0 with
      | buf t xs => cases hj; exact hok
      | cst k => exact hok.elim
      | var v =>
        cases hj
        obtain ⟨blk, cs, T, h1, h2, h3⟩ := hok
        refine ⟨blk, cs, T, h1, h2, ?_⟩
        rw [hI, hrv, rv_killV h3.ne_cst]
        exact VarC_drop h3
  · intro j k x y hj hk
    rw [box_kill] at hj hk
    exact h.inj j k x y (fun e => hj (by rw [e]; rfl)) (fun e => hk (by rw [e]; rfl))
  · intro j x hj
    rw [box_kill] at hj
    exact h.own j x (fun e => hj (by rw [e]; rfl))
  · intro k v hv
    rw [kill_eq] at hv
    simp only [nth_map] at hv
    cases hn : nth s.tm k with
    | none => rw [hn] at hv; cases hv
    | some v0 =>
      rw [hn] at hv
      cases hv
      rw [hrv]
      exact killT_names
  · intro l hl k v hv
    rw [kill_eq] at hl
    simp only [List.mem_map] at hl
    obtain ⟨l0, hl0, rfl⟩ := hl
    rw [nth_map] at hv
    cases hn : nth l0 k with
    | none => rw [hn] at hv; cases hv
    | some v0 =>
      rw [hn] at hv
      cases hv
      rw [hrv]
      exact killT_names
  · intro j v hj
    rw [box_kill] at hj
    cases hb : s.box j with
    | none => rw [hb] at hj; cases hj
    | some b0 =>
      rw [hb] at hj
      have hok := h.bx j b0 hb
      cases b0 with
      | buf t xs => cases hj
      | cst k => exact hok.elim
      | var v0 =>
        cases hj
        obtain ⟨blk, cs, T, h1, h2, h3⟩ := hok
        rw [hrv, rv_killV h3.ne_cst]
        exact drop_names
theorem box_kill_none {i j : Nat} : (s.kill i).box j ≠ none ↔ s.box j ≠ none := by
  rw [box_kill]
  cases s.box j <;> simp
theorem Fr.kill (hfr : Fr b c s) (i : Nat) : Fr b c (s.kill i) where
  os := hfr.os
  tape := hfr.tape
  output := hfr.output
  size := hfr.size
  block := hfr.block
  own := fun j x hj hx => hfr.own j x (box_kill_none.1 hj) hx
  fz := hfr.fz
  fz' := hfr.fz'
  bo := hfr.bo

/-! new boxes -/
theorem Step1.kill {i : Nat} {c' : Cx} (g : Step1 c c' s i) : Step1 c c' (s.kill i) i :=
  ⟨g.fz, g.bo, g.ρ, g.sz, g.os, g.tape, g.output, fun k hk => (g.w k hk).imp id fun ⟨x, y⟩ => ⟨box_kill_none.2 x, y⟩, fun x hx => ⟨(g.i x hx).1, (g.i x hx).2.imp id fun ⟨x, y⟩ => ⟨box_kill_none.2 x, y⟩⟩⟩
theorem St.newBox {i : Nat} {c' : Cx} {bx : Bx} (h : St c us s a) (g : Step1 c c' s i) (hb : BoxOK c' (s.newBox i bx) i (s.rb bx)) : St c' us (s.newBox i bx) a :=
  (h.kill i).1.setBox g.kill (.inl (h.kill i).2) hb
theorem Fr.newBox {i : Nat} {c' : Cx} {bx : Bx} (hfr : Fr b c s) (g : Step1 c c' s i) : Fr b c' (s.newBox i bx) := (hfr.kill i).setBox g.kill
theorem newBox_I {i : Nat} {c' : Cx} {bx : Bx} (h : St c us s a) (g : Step1 c c' s i) {j : Nat} (hj : j ≠ i) : c'.I (s.newBox i bx) j = c.I s j := by
  rw [← kill_I (i := i) h (j := j)]
  exact g.kill.I (h.kill i).1 j hj
theorem box_new {i j : Nat} {bx : Bx} : (s.newBox i bx).box j = if j = i then some (s.rb bx) else (s.kill i).box j := box_put
/-- a fresh block for a box -/
def Cx.push (c : Cx) (i : Nat) (obj : Obj) (d : Nat) : Cx := { c with w := { c.w with heap := c.w.heap.push obj, drawn := d }, ρ := fun j => if j = i then some (c.w.heap.size, 0) else c.ρ j }
theorem Cx.push_heap {i d k : Nat} {obj : Obj} : (c.push i obj d).w.heap[k]? = if k = c.w.heap.size then some obj else c.w.heap[k]? := by
  simp only [Cx.push, Array.getElem?_push]
theorem step_push {i d : Nat} {obj : Obj} : Step1 c (c.push i obj d) s i where
  fz := rfl
  bo := rfl
  ρ := fun j hj => by simp [Cx.push, hj]
  sz := by simp [Cx.push]
  os := rfl
  tape := rfl
  output := rfl
  w := fun k hk => .inl (by rw [Cx.push_heap, if_neg (by omega)])
  i := fun x hx => by
    simp only [Cx.push, if_true, Option.some.injEq] at hx
    subst hx
    exact ⟨by simp [Cx.push], .inl (Nat.le_refl _)⟩
def Cx.nilB (c : Cx) (i : Nat) : Cx := { c with ρ := fun j => if j = i then none else c.ρ j }
theorem step_nil {i : Nat} : Step1 c (c.nilB i) s i where
  fz := rfl
  bo := rfl
  ρ := fun j hj => by simp [Cx.nilB, hj]
  sz := Nat.le_refl _
  os := rfl
  tape := rfl
  output := rfl
  w := fun k hk => .inl rfl
  i := fun x hx => by simp [Cx.nilB] at hx
/-- A new variable. -/
theorem St.newVar (h : St c us s a) (hfr : Fr b c s) {i d : Nat} {v : AV} {cs : List Value} {T : TypeId} (hv : VarC c.w c.E (c.I s) v cs) :
    ∃ c' : Cx, c'.w = { c.w with heap := c.w.heap.push (.cells cs.toArray T (0, 0)), drawn := d } ∧ St c' us (s.newVar i v) a ∧ Fr b c' (s.newVar i v) ∧ AVR c'.w c'.E (c'.I (s.newVar i v)) (.ptr i []) (.pointer (some ⟨c.w.heap.size, 0, none⟩)) := by
  have g : Step1 c (c.push i (.cells cs.toArray T (0, 0)) d) s i := step_push
  have hvd : VarC c.w c.E (c.I s) (v.drop i) cs := VarC_drop hv
  have hrv : ∀ s' : AS, s'.rv (v.drop i) = v.drop i := by
    intro s'
    have := hvd.ne_cst
    cases hd : v.drop i <;> first | rfl | exact (this _ hd).elim
  have hbx : (s.newVar i v).box i = some (.var (v.drop i)) := by
    unfold AS.newVar
    rw [box_new, if_pos rfl]
    rfl
  have hρ : (c.push i (.cells cs.toArray T (0, 0)) d).ρ i = some (c.w.heap.size, 0) := by simp [Cx.push]
  have hb : BoxOK (c.push i (.cells cs.toArray T (0, 0)) d) (s.newBox i (.var (v.drop i))) i (.var (v.drop i)) := by
    refine ⟨c.w.heap.size, cs, T, hρ, by rw [Cx.push_heap, if_pos rfl], ?_⟩
    rw [hrv]
    refine hvd.mono (g.E h) ?_
    intro j hj
    by_cases e : j = i
    · subst e; rw [drop_names] at hj; cases hj
    · exact .inl (newBox_I h g e)
  refine ⟨c.push i (.cells cs.toArray T (0, 0)) d, rfl, h.newBox g hb, hfr.newBox g, ?_⟩
  have hI : (c.push i (.cells cs.toArray T (0, 0)) d).I (s.newVar i v) i = some (.var c.w.heap.size (fun p => offA p ((s.newVar i v).rv (v.drop i))) (fun p => arrA p ((s.newVar i v).rv (v.drop i)))) := by
    unfold Cx.I
    rw [hbx, hρ]
    rfl
  simp only [AVR, PtrAt, hI]
  exact ⟨0, rfl, rfl⟩
/-- A new row. -/
theorem St.newBuf (h : St c us s a) (hfr : Fr b c s) {i d : Nat} {t : Ty} {xs : List t.T} {cs rest : List Value} {T : TypeId} {lo hi cap : Nat} (hm : List.length xs ≤ maxL) (hv : RepL (RepC c.w c.E t) xs cs)
    (hf : (cs ++ rest).length ≤ lo ∨ hi ≤ lo) (hc : List.length xs ≤ cap) (hroom : cap * t.size ≤ (cs ++ rest).length) :
    ∃ c' : Cx, c'.w = { c.w with heap := c.w.heap.push (.cells (cs ++ rest).toArray T (lo, hi)), drawn := d } ∧ St c' us (s.newBox i (.buf t xs)) a ∧ Fr b c' (s.newBox i (.buf t xs)) ∧
      AVR c'.w c'.E (c'.I (s.newBox i (.buf t xs))) (.sl i) (.slice (some ⟨c.w.heap.size, 0, none⟩) (List.length xs) cap) := by
  have g : Step1 c (c.push i (.cells (cs ++ rest).toArray T (lo, hi)) d) s i := step_push
  have hbx : (s.newBox i (.buf t xs)).box i = some (.buf t xs) := by rw [box_new, if_pos rfl]; rfl
  have hρ : (c.push i (.cells (cs ++ rest).toArray T (lo, hi)) d).ρ i = some (c.w.heap.size, 0) := by simp [Cx.push]
  have hb : BoxOK (c.push i (.cells (cs ++ rest).toArray T (lo, hi)) d) (s.newBox i (.buf t xs)) i (.buf t xs) := by
    refine ⟨hm, .inr ⟨c.w.heap.size, 0, (cs ++ rest).toArray, T, lo, hi, cs, hρ, by rw [Cx.push_heap, if_pos rfl], by simpa using hf, hv.mono fun x cs hx => hx.mono (g.E h), by simp, ?_⟩⟩
    intro j v hj
    have := (List.getElem?_eq_some_iff.1 hj).1
    simp only [Nat.zero_add, List.getElem?_toArray]
    rw [List.getElem?_append_left this]
    exact hj
  refine ⟨c.push i (.cells (cs ++ rest).toArray T (lo, hi)) d, rfl, h.newBox g hb, hfr.newBox g, ?_⟩
  have hI : (c.push i (.cells (cs ++ rest).toArray T (lo, hi)) d).I (s.newBox i (.buf t xs)) i = some (.buf t (List.length xs) (some (c.w.heap.size, 0, (cs ++ rest).length))) := by
    unfold Cx.I
    rw [hbx, hρ]
    simp [boxI, roomOf, Cx.push_heap]
  simp only [AVR, SlAt, hI]
  exact ⟨cap, rfl, hc, hroom⟩
theorem St.nilBuf (h : St c us s a) (hfr : Fr b c s) {i : Nat} {t : Ty} :
    ∃ c' : Cx, c'.w = c.w ∧ St c' us (s.newBox i (.buf t [])) a ∧ Fr b c' (s.newBox i (.buf t [])) ∧ AVR c'.w c'.E (c'.I (s.newBox i (.buf t []))) (.sl i) (.slice none 0 0) ∧ Step1 c c' s i := by
  have g : Step1 c (c.nilB i) s i := step_nil
  have hbx : (s.newBox i (.buf t ([] : List t.T))).box i = some (.buf t ([] : List t.T)) := by rw [box_new, if_pos rfl]; rfl
  have hρ : (c.nilB i).ρ i = none := by simp [Cx.nilB]
  have hb : BoxOK (c.nilB i) (s.newBox i (.buf t ([] : List t.T))) i (.buf t ([] : List t.T)) := ⟨by simp [maxL], .inl ⟨hρ, rfl⟩⟩
  refine ⟨c.nilB i, rfl, h.newBox g hb, hfr.newBox g, ?_, g⟩
  have hI : (c.nilB i).I (s.newBox i (.buf t ([] : List t.T))) i = some (.buf t 0 none) := by
    unfold Cx.I
    rw [hbx, hρ]
    rfl
  simp only [AVR, SlAt, hI]
end
end Go.Xr

set_option linter.unusedVariables false
set_option linter.unusedSimpArgs false
namespace Go.Xr
open Go

section
variable {F : Fence} {n : Nat} {P : Program} {K : Kit} {o : Oper} {a : Act} {w w' : World} {Qx : Exit → Act → World → Prop} {u : Value}
variable {b : Base} {us : List (Array Value)} {c c' : Cx} {s s' : AS} {Q : Ex → AS → Prop} {T : TypeId} {call : Oper → AV → List AV → AS → Tree}
theorem mem_done (hF : HF F) (hd : ∀ c, o.op ≠ .defer c) {v : AV} (hq : (retT s' o v).sat Q) (hr : (execOp a.eval o).run P w = .ok (.value u) c'.w)
    (h : St c' us s' a) (hfr : Fr b c' s') (hv : AVR c'.w c'.E (c'.I s') v u) : o.wpIn F n P a w (Abs b us Q) Qx :=
  step_val hF hd hr ⟨c', _, rfl, hq, h.putO hv o.dst, hfr.putO o.dst v⟩
theorem one_cells (h : u.oneCell' = true) : u.cells.toList = [u] := by cases u <;> simp_all [Value.cells, Value.oneCell']
theorem AVR_VarC {w : World} {E : Bool → Nat → Prop} {I : Nat → Option BI} {v : AV} (hs : v.sz.isSome = true) (h : AVR w E I v u) : VarC w E I v u.cells.toList := by
  have one : u.oneCell' = true → (∀ t x, v ≠ .pv t x) → (∀ fs, v ≠ .agg fs) → (∀ fs, v ≠ .tup fs) → (∀ k, v ≠ .cst k) → v ≠ .undef → VarC w E I v u.cells.toList := by
    intro h1 e1 e2 e3 e4 e5
    rw [one_cells h1]
    cases v <;> first | exact (e1 _ _ rfl).elim | exact (e2 _ rfl).elim | exact (e3 _ rfl).elim | exact (e4 _ rfl).elim | exact (e5 rfl).elim | exact ⟨u, rfl, h1, h⟩
  cases v with
  | undef => simp [AV.sz] at hs
  | tup fs => simp [AV.sz] at hs
  | cst k => simp [AV.sz] at hs
  | pv t x =>
    simp only [AVR] at h
    obtain ⟨cs, h1, h2⟩ := h
    rw [isV_cells h2]
    · exact h1
    · intro hg
      unfold IsV at h2
      rw [hg] at h2
      simp at h2
      exact RepC.one t x cs h1 u (by rw [h2]; simp)
  | agg fs =>
    simp only [AVR] at h
    obtain ⟨cs, rfl, h2⟩ := h
    exact h2
  | lit b => exact one (by simp only [AVR] at h; rw [h]; rfl) (by simp) (by simp) (by simp) (by simp) (by simp)
  | nil k => exact one (by cases k <;> simp only [AVR] at h <;> rw [h] <;> rfl) (by simp) (by simp) (by simp) (by simp) (by simp)
  | ptr i p => exact one (by simp only [AVR] at h; obtain ⟨_, e⟩ := h.one; rw [e]; rfl) (by simp) (by simp) (by simp) (by simp) (by simp)
  | fad t x => exact one (by obtain ⟨_, _, _, _, e, _⟩ := AVR_fad.1 h; rw [e]; rfl) (by simp) (by simp) (by simp) (by simp) (by simp)
  | sl i => exact one (by simp only [AVR] at h; obtain ⟨_, _, _, e⟩ := h.one; rw [e]; rfl) (by simp) (by simp) (by simp) (by simp) (by simp)
  | slr i x y => exact one (by simp only [AVR] at h; obtain ⟨_, _, _, e⟩ := h.one; rw [e]; rfl) (by simp) (by simp) (by simp) (by simp) (by simp)
  | asl i p x y => exact one (by simp only [AVR] at h; obtain ⟨_, _, _, e⟩ := h.one; rw [e]; rfl) (by simp) (by simp) (by simp) (by simp) (by simp)
  | mp i => simp only [AVR] at h
  | yld l => simp only [AVR] at h
  | clo f cs => exact one (by simp only [AVR] at h; obtain ⟨vs, e, _⟩ := h; rw [e]; rfl) (by simp) (by simp) (by simp) (by simp) (by simp)
theorem run_newVar {e : TypeId} {v : Value} : (newVar e v).run P w = .ok ⟨w.heap.size, 0, none⟩ { w with heap := w.heap.push (.cells v.cells e (0, 0)) } := by
  rfl
theorem box_sound (hF : HF F) (h : St c us s a) (hfr : Fr b c s) {x : Operand} (ho : o.op = .box T x) (hs : (opT K call s o).sat Q) : o.wpIn F n P a c.w (Abs b us Q) Qx := by
  have hd : ∀ c, o.op ≠ .defer c := by intro c; rw [ho]; simp
  have hx := h.ev x
  unfold opT at hs
  rw [ho] at hs
  simp only at hs
  replace hs := sat_ok hs; obtain ⟨hk, hs⟩ := hs
  have hv := AVR_VarC hk hx
  obtain ⟨c', hw, h1, h2, h3⟩ := h.newVar hfr (i := siteT s o) (d := c.w.drawn) (T := T) hv
  refine mem_done hF hd hs ?_ h1 h2 h3
  simp only [execOp, ho, Instr.box, Sem.run_bind, run_newVar, Result.andThen_ok, Sem.run_pure, hw]
/-- a type's zero -/
theorem zeroB_rep {α : Type} {R : α → List Value → Prop} {f : List Value → Option (List Value)} {x : α} (hf : ∀ cs r, f cs = some r → ∃ c1, cs = c1 ++ r ∧ R x c1) : ∀ (n : Nat) (cs r : List Value), zeroB.rep n f cs = some r → ∃ c1, cs = c1 ++ r ∧ RepL R (List.replicate n x) c1
  | 0, cs, r, h => by simp only [zeroB.rep, Option.some.injEq] at h; exact ⟨[], by simpa using h, rfl⟩
  | n + 1, cs, r, h => by
    simp only [zeroB.rep] at h
    split at h
    · rename_i r1 h1
      obtain ⟨c1, e1, k1⟩ := hf cs r1 h1
      obtain ⟨c2, e2, k2⟩ := zeroB_rep hf n r1 r h
      exact ⟨c1 ++ c2, by rw [e1, e2, List.append_assoc], c1, c2, rfl, k1, k2⟩
    · cases h
theorem zeroB_spec {E : Bool → Nat → Prop} : ∀ (t : Ty) (cs r : List Value), zeroB t cs = some r → ∃ c1, cs = c1 ++ r ∧ RepC w E t t.dflt c1
  | .int k, .int k' n :: q, r, h => by
    simp only [zeroB] at h
    cases hb : keq k k' && decide (n = 0) with
    | false => rw [hb] at h; cases h
    | true =>
      rw [hb] at h
      simp only [Bool.and_eq_true, decide_eq_true_eq] at hb
      simp only [cond_true, Option.some.injEq] at h
      subst h
      exact ⟨[.int k' n], rfl, by rw [keq_eq hb.1, hb.2]; exact ⟨rfl, (has_zero k').1, (has_zero k').2⟩⟩
  | .bool, .bool b :: q, r, h => by
    simp only [zeroB] at h
    cases b with
    | true => cases h
    | false =>
      simp only [cond_false, Option.some.injEq] at h
      subst h
      exact ⟨[.bool false], rfl, rfl⟩
  | .str, .string z :: q, r, h => by
    simp only [zeroB] at h
    cases hb : Nat.beq z.size 0 with
    | false => rw [hb] at h; cases h
    | true =>
      rw [hb] at h
      simp only [cond_true, Option.some.injEq] at h
      subst h
      have h0 := Nat.eq_of_beq_eq_true hb
      refine ⟨[.string z], rfl, z, rfl, ?_, by rw [h0]; simp [maxL]⟩
      have : z.data.toList = [] := by
        apply List.eq_nil_of_length_eq_zero
        simpa using h0
      rw [this]
      rfl
  | .unit, cs, r, h => by simp only [zeroB, Option.some.injEq] at h; exact ⟨[], by simpa using h, rfl⟩
  | .pair a b, cs, r, h => by
    simp only [zeroB] at h
    split at h
    · rename_i r1 h1
      obtain ⟨c1, e1, k1⟩ := zeroB_spec a cs r1 h1
      obtain ⟨c2, e2, k2⟩ := zeroB_spec b r1 r h
      exact ⟨c1 ++ c2, by rw [e1, e2, List.append_assoc], c1, c2, rfl, k1, k2⟩
    · cases h
  | .st a, cs, r, h => by simp only [zeroB] at h; exact zeroB_spec a cs r h
  | .arr n a, cs, r, h => by
    simp only [zeroB] at h
    obtain ⟨c1, e1, k1⟩ := zeroB_rep (zeroB_spec a) n cs r h
    exact ⟨c1, e1, by simp [Ty.dflt, pZero], k1⟩
  | .sl b a, .slice none 0 0 :: q, r, h => by
    simp only [zeroB, Option.some.injEq] at h
    subst h
    exact ⟨[.slice none 0 0], rfl, none, 0, rfl, by simp [Ty.dflt, pNil], by simp [Ty.dflt, pNil], .inl rfl⟩
  | .sl b a, .slice none (_ + 1) _ :: q, r, h => by simp [zeroB] at h
  | .sl b a, .slice none 0 (_ + 1) :: q, r, h => by simp [zeroB] at h
  | .sl b a, .slice (some _) _ _ :: q, r, h => by simp [zeroB] at h
  | .int k, [], r, h | .bool, [], r, h | .str, [], r, h | .sl b a, [], r, h => by simp [zeroB] at h
  | .int k, .bool _ :: q, r, h | .int k, .float _ _ :: q, r, h | .int k, .complex _ _ _ :: q, r, h | .int k, .string _ :: q, r, h | .int k, .pointer _ :: q, r, h | .int k, .slice _ _ _ :: q, r, h | .int k, .map _ :: q, r, h | .int k, .chan _ :: q, r, h | .int k, .func _ _ _ :: q, r, h | .int k, .nilFunc :: q, r, h | .int k, .iface _ _ :: q, r, h | .int k, .nilIface :: q, r, h | .int k, .agg _ :: q, r, h | .int k, .tuple _ :: q, r, h => by simp [zeroB] at h
  | .bool, .int _ _ :: q, r, h | .bool, .float _ _ :: q, r, h | .bool, .complex _ _ _ :: q, r, h | .bool, .string _ :: q, r, h | .bool, .pointer _ :: q, r, h | .bool, .slice _ _ _ :: q, r, h | .bool, .map _ :: q, r, h | .bool, .chan _ :: q, r, h | .bool, .func _ _ _ :: q, r, h | .bool, .nilFunc :: q, r, h | .bool, .iface _ _ :: q, r, h | .bool, .nilIface :: q, r, h | .bool, .agg _ :: q, r, h | .bool, .tuple _ :: q, r, h => by simp [zeroB] at h
  | .str, .bool _ :: q, r, h | .str, .int _ _ :: q, r, h | .str, .float _ _ :: q, r, h | .str, .complex _ _ _ :: q, r, h | .str, .pointer _ :: q, r, h | .str, .slice _ _ _ :: q, r, h | .str, .map _ :: q, r, h | .str, .chan _ :: q, r, h | .str, .func _ _ _ :: q, r, h | .str, .nilFunc :: q, r, h | .str, .iface _ _ :: q, r, h | .str, .nilIface :: q, r, h | .str, .agg _ :: q, r, h | .str, .tuple _ :: q, r, h => by simp [zeroB] at h
  | .sl b a, .bool _ :: q, r, h | .sl b a, .int _ _ :: q, r, h | .sl b a, .float _ _ :: q, r, h | .sl b a, .complex _ _ _ :: q, r, h | .sl b a, .string _ :: q, r, h | .sl b a, .pointer _ :: q, r, h | .sl b a, .map _ :: q, r, h | .sl b a, .chan _ :: q, r, h | .sl b a, .func _ _ _ :: q, r, h | .sl b a, .nilFunc :: q, r, h | .sl b a, .iface _ _ :: q, r, h | .sl b a, .nilIface :: q, r, h | .sl b a, .agg _ :: q, r, h | .sl b a, .tuple _ :: q, r, h => by simp [zeroB] at h

theorem zeroA_names {site i : Nat} (h : (K.zeroA site T).names i = true) : i = site + 500 := by
  unfold Kit.zeroA at h
  split at h
  · cases h
  · split at h
    · simp only [AV.names] at h; exact Nat.eq_of_beq_eq_true h
    · cases h
  all_goals cases h
theorem zerosA_names : ∀ (fs : List TypeId) (site i : Nat), namesL i (K.zerosA site fs) = true → site + 500 ≤ i
  | [], site, i, h => by cases h
  | T :: r, site, i, h => by
    simp only [Kit.zerosA, namesL, Bool.or_eq_true] at h
    rcases h with h | h
    · rw [zeroA_names h]; exact Nat.le_refl _
    · have := zerosA_names r _ i h
      have e : Nat.add site 10 = site + 10 := rfl
      omega
/-- what a zero is, cell by cell -/
def ZeroOf (K : Kit) (T : TypeId) (c1 : List Value) : Prop :=
  match K.td T with
  | .pure t => ∃ r, zeroB t (c1 ++ r) = some r
  | .slice _ => c1 = [.slice none 0 0]
  | .ptr _ => c1 = [.pointer none]
  | .map _ _ => c1 = [.map none]
  | .fn => c1 = [.nilFunc]
  | _ => False
theorem zeroS_spec (h : St c us s a) (hfr : Fr b c s) {site : Nat} {c1 : List Value} (hz : ZeroOf K T c1) :
    ∃ c' : Cx, c'.w = c.w ∧ St c' us (K.zeroS site T s) a ∧ Fr b c' (K.zeroS site T s) ∧ AVC1 c'.w c'.E (c'.I (K.zeroS site T s)) (K.zeroA site T) c1 ∧ (∀ j, j ≠ site + 500 → c'.I (K.zeroS site T s) j = c.I s j) ∧ c'.E = c.E := by
  unfold ZeroOf at hz
  unfold Kit.zeroS Kit.zeroA
  cases ht : K.td T with
  | pure t =>
    rw [ht] at hz
    obtain ⟨r, hz⟩ := hz
    obtain ⟨c2, e, k⟩ := zeroB_spec (w := c.w) (E := c.E) t _ r hz
    exact ⟨c, rfl, h, hfr, by rw [List.append_cancel_right e]; exact k, fun j _ => rfl, rfl⟩
  | slice e =>
    rw [ht] at hz
    simp only at hz ⊢
    subst hz
    split
    · rename_i t hte
      obtain ⟨c', hw, h1, h2, h3, g⟩ := h.nilBuf hfr (i := Nat.add site 500) (t := t)
      refine ⟨c', hw, h1, h2, ⟨_, rfl, rfl, h3⟩, fun j hj => newBox_I h g hj, ?_⟩
      funext b' k
      simp only [Cx.E, g.fz, g.bo]
    · exact ⟨c, rfl, h, hfr, ⟨_, rfl, rfl, by simp only [AVR]⟩, fun j _ => rfl, rfl⟩
  | ptr e => rw [ht] at hz; simp only at hz ⊢; subst hz; exact ⟨c, rfl, h, hfr, ⟨_, rfl, rfl, by simp only [AVR]⟩, fun j _ => rfl, rfl⟩
  | map k e => rw [ht] at hz; simp only at hz ⊢; subst hz; exact ⟨c, rfl, h, hfr, ⟨_, rfl, rfl, by simp only [AVR]⟩, fun j _ => rfl, rfl⟩
  | fn => rw [ht] at hz; simp only at hz ⊢; subst hz; exact ⟨c, rfl, h, hfr, ⟨_, rfl, rfl, by simp only [AVR]⟩, fun j _ => rfl, rfl⟩
  | struct fs => rw [ht] at hz; exact hz.elim
  | other => rw [ht] at hz; exact hz.elim
theorem zerosB_cons {fs : List TypeId} {cs : List Value} (h : zerosB K (T :: fs) cs = true) : ∃ c1 c2, cs = c1 ++ c2 ∧ ZeroOf K T c1 ∧ zerosB K fs c2 = true := by
  unfold zerosB at h
  unfold ZeroOf
  split at h
  · rename_i t ht
    rw [ht]
    split at h
    · rename_i r hr
      obtain ⟨c1, e, _⟩ := zeroB_spec (w := default) (E := fun _ _ => False) t _ r hr
      exact ⟨c1, r, e, ⟨r, by rw [← e]; exact hr⟩, h⟩
    · cases h
  · rename_i e r ht; rw [ht]; exact ⟨[_], r, rfl, rfl, h⟩
  · rename_i e r ht; rw [ht]; exact ⟨[_], r, rfl, rfl, h⟩
  · rename_i e r ht; rw [ht]; exact ⟨[_], _, rfl, rfl, h⟩
  · rename_i ht; rw [ht]; exact ⟨[_], _, rfl, rfl, h⟩
  · cases h
theorem zerosS_spec : ∀ (fs : List TypeId) (site : Nat) (cs : List Value), zerosB K fs cs = true → ∀ {c : Cx} {s : AS}, St c us s a → Fr b c s →
    ∃ c' : Cx, c'.w = c.w ∧ St c' us (K.zerosS site fs s) a ∧ Fr b c' (K.zerosS site fs s) ∧ AVCL c'.w c'.E (c'.I (K.zerosS site fs s)) (K.zerosA site fs) cs
  | [], site, cs, hz, c, s, h, hfr => by
    cases cs with
    | nil => exact ⟨c, rfl, h, hfr, AVCL_nil.2 rfl⟩
    | cons v r => simp [zerosB] at hz
  | T :: fs, site, cs, hz, c, s, h, hfr => by
    obtain ⟨c1, c2, e, k1, k2⟩ := zerosB_cons hz
    obtain ⟨c', hw, h1, h2, h3⟩ := zerosS_spec fs (Nat.add site 10) c2 k2 h hfr
    obtain ⟨c'', hw2, g1, g2, g3, g4, g5⟩ := zeroS_spec (T := T) (site := site) h1 h2 k1
    refine ⟨c'', hw2.trans hw, g1, g2, AVCL_cons.2 ⟨c1, c2, e, g3, ?_⟩⟩
    refine AVCL.mono (fun b' k hk => ⟨by rw [g5]; exact hk, by rw [hw2]⟩) _ _ ?_ h3
    intro i hi
    have := zerosA_names fs _ i hi
    have e : Nat.add site 10 = site + 10 := rfl
    exact .inl (g4 i (by omega))
/-- A type's zero, as a variable. -/
theorem zeroV_spec (hK : KitOK P K) (h : St c us s a) (hfr : Fr b c s) {site : Nat} {m : Nat} {g : Bool} (hs : (K.zeroV site T).sz = some (m, g)) (hT : K.sz T = some (m, g)) :
    ∃ (c' : Cx) (z : Value), (zeroValue T).run P c.w = .ok z c.w ∧ c'.w = c.w ∧ St c' us (K.zeroW site T s) a ∧ Fr b c' (K.zeroW site T s) ∧ VarC c'.w c'.E (c'.I (K.zeroW site T s)) (K.zeroV site T) z.cells.toList := by
  have zr : ∀ {i z}, P.info? T = some i → i.zero = some z → (zeroValue T).run P c.w = .ok z c.w := by
    intro i z h1 h2
    simp [zeroValue, typeInfo, h1, h2]
  have single : ∀ z : Value, (zeroValue T).run P c.w = .ok z c.w → (∀ fs, K.td T ≠ .struct fs) → ZeroOf K T z.cells.toList →
      ∃ (c' : Cx) (z : Value), (zeroValue T).run P c.w = .ok z c.w ∧ c'.w = c.w ∧ St c' us (K.zeroW site T s) a ∧ Fr b c' (K.zeroW site T s) ∧ VarC c'.w c'.E (c'.I (K.zeroW site T s)) (K.zeroV site T) z.cells.toList := by
    intro z h1 hns h2
    obtain ⟨c', hw, k1, k2, k3, _⟩ := zeroS_spec (site := site) h hfr h2
    have e1 : K.zeroW site T s = K.zeroS site T s := by
      unfold Kit.zeroW
      split
      · rename_i fs e; exact (hns fs e).elim
      · rfl
    have e2 : K.zeroV site T = K.zeroA site T := by
      unfold Kit.zeroV
      split
      · rename_i fs e; exact (hns fs e).elim
      · rfl
    exact ⟨c', z, h1, hw, by rw [e1]; exact k1, by rw [e1]; exact k2, by rw [e1, e2]; exact .of_part k3⟩
  cases ht : K.td T with
  | pure t =>
    obtain ⟨i, z, hi, _, _, _, hz, hzb, _⟩ := infoB_spec (tyB_info (td_pure hK ht).1)
    exact single z (zr hi hz) (by rw [ht]; simp) (by unfold ZeroOf; rw [ht]; exact ⟨[], by simpa using hzb⟩)
  | slice e => obtain ⟨_, i, hi, _, hz⟩ := td_slice hK ht; exact single _ (zr hi hz) (by rw [ht]; simp) (by unfold ZeroOf; rw [ht]; rfl)
  | ptr e => obtain ⟨_, i, hi, _, hz⟩ := td_ptr hK ht; exact single _ (zr hi hz) (by rw [ht]; simp) (by unfold ZeroOf; rw [ht]; rfl)
  | map k e => obtain ⟨_, i, hi, _, hz⟩ := td_map hK ht; exact single _ (zr hi hz) (by rw [ht]; simp) (by unfold ZeroOf; rw [ht]; rfl)
  | fn => obtain ⟨_, i, hi, _, hz⟩ := td_fn hK ht; exact single _ (zr hi hz) (by rw [ht]; simp) (by unfold ZeroOf; rw [ht]; rfl)
  | struct fs =>
    obtain ⟨fields, i, hu, _, hi, _, z, hz, hzb⟩ := td_struct hK ht
    obtain ⟨c', hw, k1, k2, k3⟩ := zerosS_spec fs site z.toList hzb h hfr
    have e1 : K.zeroW site T s = K.zerosS site fs s := by unfold Kit.zeroW; rw [ht]
    have e2 : K.zeroV site T = .agg (K.zerosA site fs) := by unfold Kit.zeroV; rw [ht]
    exact ⟨c', _, zr hi hz, hw, by rw [e1]; exact k1, by rw [e1]; exact k2, by rw [e1, e2]; exact k3⟩
  | other => unfold Kit.sz at hT; rw [ht] at hT; cases hT
theorem alloc_sound (hF : HF F) (hK : KitOK P K) (h : St c us s a) (hfr : Fr b c s) (ho : o.op = .alloc T) (hs : (opT K call s o).sat Q) : o.wpIn F n P a c.w (Abs b us Q) Qx := by
  have hd : ∀ c, o.op ≠ .defer c := by intro c; rw [ho]; simp
  unfold opT at hs
  rw [ho] at hs
  simp only at hs
  replace hs := sat_ok hs; obtain ⟨hk, hs⟩ := hs
  obtain ⟨m, g, e1, e2⟩ := szEq_spec hk
  obtain ⟨c', z, hz, hw, k1, k2, k3⟩ := zeroV_spec hK h hfr e2 e1
  obtain ⟨c'', hw2, h1, h2, h3⟩ := k1.newVar k2 (i := siteT s o) (d := c'.w.drawn) (T := T) k3
  refine mem_done hF hd hs ?_ h1 h2 h3
  simp only [execOp, ho, Instr.alloc, Sem.run_bind, hz, run_newVar, Result.andThen_ok, Sem.run_pure, hw2, hw]
end
end Go.Xr

set_option linter.unusedVariables false
set_option linter.unusedSimpArgs false
namespace Go.Xr
open Go

section
variable {F : Fence} {n : Nat} {P : Program} {K : Kit} {o : Oper} {a : Act} {w w' : World} {Qx : Exit → Act → World → Prop} {u : Value}
variable {b : Base} {us : List (Array Value)} {c c' : Cx} {s s' : AS} {Q : Ex → AS → Prop} {T : TypeId} {call : Oper → AV → List AV → AS → Tree}
/-- What 'setCells' does to its block. -/
theorem setCells_spec (blk : Nat) (T : TypeId) (fr : Nat × Nat) : ∀ (vs : List Value) (o : Nat) (w : World) (arr : Array Value), w.heap[blk]? = some (.cells arr T fr) → o + vs.length ≤ arr.size →
    ∃ arr' : Array Value, arr'.size = arr.size ∧ (∀ j v, vs[j]? = some v → arr'[o + j]? = some v) ∧ (∀ k, k < o ∨ o + vs.length ≤ k → arr'[k]? = arr[k]?) ∧ (w.setCells blk o vs).heap[blk]? = some (.cells arr' T fr) ∧
      (∀ k, k ≠ blk → (w.setCells blk o vs).heap[k]? = w.heap[k]?) ∧ (w.setCells blk o vs).heap.size = w.heap.size ∧ (w.setCells blk o vs).os = w.os ∧ (w.setCells blk o vs).tape = w.tape ∧ (w.setCells blk o vs).output = w.output
  | [], o, w, arr, h, _ => ⟨arr, rfl, by simp, fun _ _ => rfl, h, fun _ _ => rfl, rfl, rfl, rfl, rfl⟩
  | v :: r, o, w, arr, h, hl => by
    simp only [List.length_cons] at hl
    have e : w.setCell ⟨blk, o, none⟩ v = w.setRow blk (arr.setIfInBounds o v) := setCell_eq_setRow w blk o arr T fr v h
    have h1 : (w.setCell ⟨blk, o, none⟩ v).heap[blk]? = some (.cells (arr.setIfInBounds o v) T fr) := by rw [e]; exact setRow_heap w blk arr _ T fr h
    obtain ⟨arr', k1, k2, k3, k4, k5, k6, k7, k8, k9⟩ := setCells_spec blk T fr r (o + 1) (w.setCell ⟨blk, o, none⟩ v) _ h1 (by simp; omega)
    refine ⟨arr', by rw [k1]; simp, ?_, ?_, k4, ?_, ?_, ?_, ?_, ?_⟩
    · intro j z hj
      cases j with
      | zero =>
        simp only [List.getElem?_cons_zero, Option.some.injEq] at hj
        subst hj
        rw [Nat.add_zero, k3 o (by omega)]
        rw [Array.getElem?_setIfInBounds]
        simp
        omega
      | succ j =>
        have := k2 j z (by simpa using hj)
        rwa [show o + 1 + j = o + (j + 1) by omega] at this
    · intro k hk
      simp only [List.length_cons] at hk
      rw [k3 k (by omega), Array.getElem?_setIfInBounds]
      rw [if_neg (by omega)]
    · intro k hk
      rw [World.setCells, k5 k hk, e]
      exact setRow_other w blk k _ hk
    · rw [World.setCells, k6, e]; simp
    · rw [World.setCells, k7, e]; rfl
    · rw [World.setCells, k8, e]; rfl
    · rw [World.setCells, k9, e]; rfl
theorem cell_drew (x : Addr) : w.drew.cell? x = w.cell? x := rfl
/-- what 'append' reads -/
theorem run_firstCells_row {size m : Nat} {ad : Option Addr} {cap : Nat} {cs : List Value} (hl : cs.length = m * size) (h : m = 0 ∨ ∃ blk off, ad = some ⟨blk, off, none⟩ ∧ Reads w blk off cs) {len : Nat} :
    (Builtin.firstCells size m (.slice ad len cap)).run P w = .ok cs.toArray w := by
  rcases h with rfl | ⟨blk, off, rfl, h⟩
  · have : cs = [] := List.eq_nil_of_length_eq_zero (by simpa using hl)
    subst this
    cases ad with
    | none => simp [Builtin.firstCells]
    | some x => simpa using run_firstCells_some (P := P) w size 0 x len cap [] (by simp) (by simp)
  · exact run_firstCells_some (P := P) w size m _ len cap cs hl (fun j v hj => by rw [Addr.add_none]; exact h j v hj)
def RowOrText (P : Program) (tx : TypeId) : Prop := (∃ e, P.underlying tx = some (.slice e)) ∨ P.underlying tx = some .string
theorem run_append_room1 {tx ty e : TypeId} {i : TypeInfo} (ht : P.underlying T = some (.slice e)) (hx : RowOrText P tx) (hi : P.info? e = some i)
    {ad : Addr} {sLen sCap : Nat} {x : Value} {m : Nat} {news : List Value} (hlen : (Builtin.lenOf x).run P w = .ok m w) (hnews : (Builtin.firstCells i.size m x).run P w = .ok news.toArray w) (hroom : sLen + m ≤ sCap)
    (hst : (storeCells (ad.add (sLen * i.size)) news).run P w = .ok () w') :
    (Builtin.append_ #[T, tx] ty #[.slice (some ad) sLen sCap, x]).run P w = .ok (.slice (some ad) (sLen + m) sCap) w' := by
  rcases hx with ⟨e', hx⟩ | hx <;> simp [Builtin.append_, run_underlying ht, run_underlying hx, sizeOf, typeInfo, hi, hlen, hnews, hroom, hst]
theorem run_append_room0 {tx ty e : TypeId} {i : TypeInfo} (ht : P.underlying T = some (.slice e)) (hx : RowOrText P tx) (hi : P.info? e = some i)
    {sLen sCap : Nat} {x : Value} {m : Nat} {news : List Value} (hlen : (Builtin.lenOf x).run P w = .ok m w) (hnews : (Builtin.firstCells i.size m x).run P w = .ok news.toArray w) (hroom : sLen + m ≤ sCap) :
    (Builtin.append_ #[T, tx] ty #[.slice none sLen sCap, x]).run P w = .ok (.slice none (sLen + m) sCap) w := by
  rcases hx with ⟨e', hx⟩ | hx <;> simp [Builtin.append_, run_underlying ht, run_underlying hx, sizeOf, typeInfo, hi, hlen, hnews, hroom]
theorem run_append_gen_grow {tx ty e : TypeId} {i : TypeInfo} {z : Value} (ht : P.underlying T = some (.slice e)) (hx : RowOrText P tx) (hi : P.info? e = some i) (hz : i.zero = some z)
    {base : Option Addr} {sLen sCap : Nat} {x : Value} {m : Nat} {news olds : List Value} (hlen : (Builtin.lenOf x).run P w = .ok m w) (hnews : (Builtin.firstCells i.size m x).run P w.drew = .ok news.toArray w.drew)
    (holds : (Builtin.firstCells i.size sLen (.slice base sLen sCap)).run P w.drew = .ok olds.toArray w.drew)
    (hroom : sCap < sLen + m) (h63 : sLen + m ≤ 9223372036854775807) (hfit : Builtin.nextslicecap (sLen + m) sCap * i.bytes ≤ 281474976710656) :
    (Builtin.append_ #[T, tx] ty #[.slice base sLen sCap, x]).run P w = .ok (.slice (some ⟨w.heap.size, 0, none⟩) (sLen + m) (grownCap w (sLen + m) sCap e))
      (w.drew.alloc (.cells (olds.toArray ++ news.toArray ++ Builtin.zeroCells z.cells (grownCap w (sLen + m) sCap e - (sLen + m))) e)) := by
  have n1 : ¬ (sLen + m ≤ sCap) := by omega
  have n2 : ¬ (281474976710656 < Builtin.nextslicecap (sLen + m) sCap * i.bytes) := by omega
  have n3 : ¬ ((9223372036854775807 : Int) < (sLen : Int) + (m : Int)) := by omega
  rcases hx with ⟨e', hx⟩ | hx <;> simp [Builtin.append_, run_underlying ht, run_underlying hx, sizeOf, typeInfo, hi, zeroValue, hz, hlen, hnews, holds, n1, n2, n3, grownCap, newRow, Question.forced]
  all_goals
    congr 2
    apply Array.ext'
    simp
theorem run_size_info {i : TypeInfo} (hi : P.info? T = some i) {t : Ty} (h : tyB P t (.inl T) = true) : i.size = t.size ∧ i.bytes ≤ 16384 ∧ 0 < t.size ∧ ∃ z, i.zero = some z ∧ z.cells.size = t.size := by
  obtain ⟨i', z, hi', hs, h0, hby, hz, hzb, _⟩ := infoB_spec (tyB_info h)
  rw [hi] at hi'
  cases hi'
  obtain ⟨c1, e, k⟩ := zeroB_spec (w := default) (E := fun _ _ => False) t _ _ hzb
  refine ⟨hs, hby, h0, z, hz, ?_⟩
  have := RepC.len t _ _ k
  rw [List.append_nil] at e
  rw [← this, ← e]
  simp
theorem RepL.app {α : Type} {R : α → List Value → Prop} : ∀ (xs ys : List α) (cs ds : List Value), RepL R xs cs → RepL R ys ds → RepL R (xs ++ ys) (cs ++ ds)
  | [], ys, cs, ds, h, k => by cases h; exact k
  | x :: xs, ys, cs, ds, ⟨c1, c2, e, h1, h2⟩, k => ⟨c1, c2 ++ ds, by rw [e, List.append_assoc], h1, RepL.app xs ys c2 ds h2 k⟩
/-- What is appended: as cells, in this world and in one with the same memory. -/
theorem app_spec (hK : KitOK P K) (h : St c us s a) {tx e : TypeId} {y : AV} {t : Ty} {ys : List t.T} (hl : s.list y = some ⟨t, ys⟩) (hy : AVR c.w c.E (c.I s) y u) (htx : (match K.td tx with | .slice _ => true | .pure .str => true | _ => false) = true) :
    RowOrText P tx ∧ List.length ys ≤ maxL ∧ (∀ w, (Builtin.lenOf u).run P w = .ok (List.length ys) w) ∧ ∃ news, RepL (RepC c.w c.E t) ys news ∧ ∀ w' : World, w'.heap = c.w.heap → (Builtin.firstCells t.size (List.length ys) u).run P w' = .ok news.toArray w' := by
  obtain ⟨h1, h2⟩ := list_spec h hl hy
  have hrt : RowOrText P tx := by
    split at htx
    · rename_i e he; exact .inl ⟨e, (td_slice hK he).1⟩
    · rename_i he; exact .inr (pure_str hK he)
    · cases htx
  refine ⟨hrt, h1, ?_⟩
  rcases h2 with ⟨z, rfl, h2⟩ | ⟨ad, cap, hu, h3, h4⟩
  · cases h2
    obtain ⟨z', hz, hz1, hz2⟩ := AVR_str.1 hy
    subst hz hz1
    have hl : List.length (z'.data.toList.map fun b => (b.toNat : Int)) = z'.size := by simp
    refine ⟨fun w => by rw [hl]; rfl, z'.data.toList.map fun b => .int .u8 b.toNat, ?_, ?_⟩
    · have : ∀ l : List UInt8, RepL (RepC c.w c.E (.int .u8)) (l.map fun b => (b.toNat : Int)) (l.map fun b => .int .u8 b.toNat) := by
        intro l
        induction l with
        | nil => rfl
        | cons x r ih => exact ⟨[.int .u8 x.toNat], _, rfl, ⟨rfl, u8_has x⟩, ih⟩
      exact this _
    · intro w' _
      rw [hl]
      exact Go.Lib.run_firstCells_string (P := P) w' _ z'
  · subst hu
    refine ⟨fun w => rfl, ?_⟩
    rcases h4 with h4 | ⟨blk, off, cs, rfl, h5, h6⟩
    · have : ys = [] := List.eq_nil_of_length_eq_zero h4
      subst this
      exact ⟨[], rfl, fun w' _ => run_firstCells_row (by simp) (.inl rfl)⟩
    · refine ⟨cs, h5, fun w' hw' => run_firstCells_row (RepL.len (RepC.len t) _ _ h5) (.inr ⟨blk, off, rfl, ?_⟩)⟩
      intro j v hj
      have := h6 j v hj
      unfold World.cell? at *
      rw [hw']
      exact this
theorem fits_of {m bytes : Nat} (h : (m : Int) ≤ 4294967296) (hb : bytes ≤ 16384) : m * bytes ≤ 140737488355328 := by
  have h1 : m ≤ 4294967296 := by omega
  exact Nat.le_trans (Nat.mul_le_mul h1 hb) (by decide)
/-- 'append' behind a row in memory, to which a box stands, or none. -/
theorem app_done (hF : HF F) (hK : KitOK P K) (h : St c us s a) (hfr : Fr b c s) {cl : Call} {x y : Operand} {tx e : TypeId} {t : Ty} {i : Nat} {xs ys : List t.T} {ad : Option Addr} {cap : Nat} (ho : o.op = .call cl) (hc : cl.callee = .builtin .append) (hT : cl.argTypes = #[T, tx]) (hA : cl.args = #[x, y])
    (hu : P.underlying T = some (.slice e)) (hty : tyB P t (.inl e) = true) (hl : s.list (s.ev y) = some ⟨t, ys⟩) (htx : (match K.td tx with | .slice _ => true | .pure .str => true | _ => false) = true)
    (hx : a.eval x = .slice ad (List.length xs) cap) (hroom : pRoom (pIAdd (pLen xs) (pLen ys)) = true)
    (hbx : (ad = none ∧ List.length xs = 0 ∧ cap = 0) ∨ (s.box i = some (.buf t xs) ∧ ∃ blk base, c.ρ i = some (blk, base) ∧ ad = some ⟨blk, base, none⟩ ∧ List.length xs ≤ cap ∧ cap * t.size ≤ roomOf c.w blk base))
    (hs : (retT (s.newBox i (.buf t (xs ++ ys))) o (.sl i)).sat Q) : o.wpIn F n P a c.w (Abs b us Q) Qx := by
  have hd : ∀ c, o.op ≠ .defer c := by intro c; rw [ho]; simp
  obtain ⟨cs0, he⟩ := builtin_run (P := P) (w := c.w) (a := a) ho hc
  have e2 : ∀ {v w1}, (Builtin.append_ #[T, tx] o.type #[a.eval x, a.eval y]).run P c.w = .ok v w1 → (execOp a.eval o).run P c.w = .ok (.value v) w1 := by
    intro v w1 hv
    rw [he, hT, hA]
    simp only [builtin, Array.map_push, List.map_toArray, List.map_cons, List.map_nil, Sem.run_bind, hv, Result.andThen_ok, Sem.run_pure]
  obtain ⟨hrt, hml, hlen, news, hnews, hfc⟩ := app_spec hK h hl (h.ev y) htx (e := e)
  obtain ⟨ie, hie, hsz, _⟩ := tyB_size hty
  obtain ⟨_, hby, h0, z, hz, hzs⟩ := run_size_info hie hty
  have hroom' : ((List.length xs + List.length ys : Nat) : Int) ≤ 4294967296 := by simpa [pRoom, pIAdd, pLen] using hroom
  have hnl : news.length = List.length ys * t.size := RepL.len (RepC.len t) _ _ hnews
  have hmx : List.length (xs ++ ys) ≤ maxL := by rw [List.length_append]; unfold maxL; omega
  rw [hx] at e2
  -- a new row
  have grow : ∀ olds : List Value, RepL (RepC c.w c.E t) xs olds → (∀ w' : World, w'.heap = c.w.heap → (Builtin.firstCells ie.size (List.length xs) (.slice ad (List.length xs) cap)).run P w' = .ok olds.toArray w') → cap < List.length xs + List.length ys → o.wpIn F n P a c.w (Abs b us Q) Qx := by
    intro olds hol hof hcap
    have hr := run_append_gen_grow (w := c.w) (ty := o.type) hu hrt hie hz (hlen c.w) (by rw [hsz]; exact hfc c.w.drew rfl) (hof c.w.drew rfl) hcap (by omega) (growslice_fits hcap (fits_of hroom' hby))
    have hge := grownCap_ge c.w (List.length xs + List.length ys) cap e
    obtain ⟨c', hw, h1, h2, h3⟩ := h.newBuf hfr (i := i) (d := c.w.drawn + 1) (T := e) (lo := 0) (hi := 0) (xs := xs ++ ys) (cs := olds ++ news) (rest := (Builtin.zeroCells z.cells (grownCap c.w (List.length xs + List.length ys) cap e - (List.length xs + List.length ys))).toList)
      (cap := grownCap c.w (List.length xs + List.length ys) cap e) hmx (RepL.app xs ys olds news hol hnews) (.inr (Nat.le_refl _)) (by rw [List.length_append]; exact hge) (by
        have := RepL.len (RepC.len t) _ _ hol
        have hzl : (Builtin.zeroCells z.cells (grownCap c.w (List.length xs + List.length ys) cap e - (List.length xs + List.length ys))).toList.length = (grownCap c.w (List.length xs + List.length ys) cap e - (List.length xs + List.length ys)) * t.size := by
          rw [Array.length_toList, size_zeroCells, hzs]
        rw [List.length_append, List.length_append, this, hnl, hzl, ← Nat.add_mul, ← Nat.add_mul]
        exact Nat.mul_le_mul_right _ (by omega))
    rw [List.length_append] at h3
    refine mem_done hF hd hs ?_ h1 h2 h3
    rw [e2 hr, hw]
    congr 1
    have harr : ∀ zc : Array Value, olds.toArray ++ news.toArray ++ zc = (olds ++ news ++ zc.toList).toArray := by intro zc; apply Array.ext'; simp
    rw [harr]
    rfl
  rcases hbx with ⟨rfl, hx0, rfl⟩ | ⟨hb, blk, base, hρ, rfl, hcap, hrm⟩
  · have : xs = [] := List.eq_nil_of_length_eq_zero hx0
    subst this
    by_cases hy0 : List.length ys = 0
    · have : ys = [] := List.eq_nil_of_length_eq_zero hy0
      subst this
      have hr := run_append_room0 (w := c.w) (ty := o.type) (sLen := 0) (sCap := 0) hu hrt hie (hlen c.w) (by rw [hsz]; exact hfc c.w rfl) (by simp)
      obtain ⟨c', hw, h1, h2, h3, _⟩ := h.nilBuf hfr (i := i) (t := t)
      refine mem_done hF hd hs ?_ h1 h2 h3
      rw [e2 hr, hw]
      rfl
    · exact grow [] rfl (fun w' _ => by rw [hsz]; exact run_firstCells_row (by simp) (.inl rfl)) (by simp; omega)
  · obtain ⟨hm, hbo⟩ := h.bx i _ hb
    rcases hbo with ⟨h1, _⟩ | ⟨blk', base', arr, T', lo, hi, cs, h1, h2, h3, h4, h5, h6⟩
    · rw [h1] at hρ; cases hρ
    · rw [h1] at hρ
      cases hρ
      have hcl : cs.length = List.length xs * t.size := RepL.len (RepC.len t) _ _ h4
      have hrd : Reads c.w blk base cs := fun j v hj => by simp only [World.cell?, h2]; simpa using h6 _ _ hj
      by_cases hfit : List.length xs + List.length ys ≤ cap
      · -- in place
        have hro : roomOf c.w blk base = arr.size - base := by simp [roomOf, h2]
        have hsp : base + (List.length xs + List.length ys) * t.size ≤ arr.size := by
          have := Nat.le_trans (Nat.mul_le_mul_right t.size hfit) hrm
          rw [hro] at this
          omega
        have hsp' : base + List.length xs * t.size + news.length ≤ arr.size := by rw [hnl]; rw [Nat.add_mul] at hsp; omega
        obtain ⟨arr', g1, g2, g3, g4, g5, g6, g7, g8, g9⟩ := setCells_spec blk T' (lo, hi) news (base + List.length xs * t.size) c.w arr h2 hsp'
        have hst := run_storeCells_cells (P := P) blk (base + List.length xs * t.size) news 0 c.w
          (fun j hj => by
            simp only [World.cell?, h2]
            have : base + List.length xs * t.size + j < arr.size := by omega
            simp
            exact this)
          (fun j hj => by
            simp only [World.frozen?, h2]
            have : base + List.length xs * t.size + 0 + j < arr.size := by omega
            simp
            omega)
          (RepL.one (RepC.one t) ys news hnews)
        have hr := run_append_room1 (w := c.w) (ty := o.type) (ad := ⟨blk, base, none⟩) (sLen := List.length xs) (sCap := cap) hu hrt hie (hlen c.w) (by rw [hsz]; exact hfc c.w rfl) hfit (by rw [hsz, Addr.add_none]; exact hst)
        let c' : Cx := { c with w := c.w.setCells blk (base + List.length xs * t.size) news }
        have g : Step1 c c' s i := ⟨rfl, rfl, fun j _ => rfl, by show _ ≤ (c.w.setCells _ _ _).heap.size; rw [g6]; exact Nat.le_refl _, g7, g8, g9,
          fun k hk => by
            by_cases e : k = blk
            · exact .inr ⟨by rw [hb]; simp, base, by rw [h1, e]⟩
            · exact .inl (g5 k e),
          fun x hx => by
            have hx : c.ρ i = some x := hx
            rw [h1] at hx
            cases hx
            refine ⟨?_, .inr ⟨by rw [hb]; simp, base, h1⟩⟩
            show blk < (c.w.setCells _ _ _).heap.size
            rw [g6]
            exact (h.own i _ (by rw [hb]; simp) h1).1⟩
        have hbx' : (s.newBox i (.buf t (xs ++ ys))).box i = some (.buf t (xs ++ ys)) := by rw [box_new, if_pos rfl]; rfl
        have hbok : BoxOK c' (s.newBox i (.buf t (xs ++ ys))) i (.buf t (xs ++ ys)) := by
          refine ⟨hmx, .inr ⟨blk, base, arr', T', lo, hi, cs ++ news, h1, g4, by rw [g1]; exact h3, (RepL.app xs ys cs news h4 hnews).mono (fun x cs hx => hx.mono (g.E h)), ?_, ?_⟩⟩
          · rw [List.length_append, hcl, g1]; omega
          · intro j v hj
            by_cases hjl : j < cs.length
            · rw [List.getElem?_append_left hjl] at hj
              rw [g3 _ (by left; rw [← hcl]; omega)]
              exact h6 j v hj
            · rw [List.getElem?_append_right (by omega)] at hj
              have := g2 _ v hj
              rwa [show base + List.length xs * t.size + (j - cs.length) = base + j by rw [← hcl]; omega] at this
        have hI : c'.I (s.newBox i (.buf t (xs ++ ys))) i = some (.buf t (List.length (xs ++ ys)) (some (blk, base, arr.size - base))) := by
          have hro' : roomOf c'.w blk base = arr.size - base := by
            show roomOf (c.w.setCells _ _ _) blk base = _
            simp [roomOf, g4, g1]
          show boxI c'.w (c.ρ i) _ _ = _
          rw [hbx', h1]
          simp [boxI, hro']
        refine mem_done (c' := c') hF hd hs ?_ (h.newBox g hbok) (hfr.newBox g) (u := .slice (some ⟨blk, base, none⟩) (List.length xs + List.length ys) cap) ?_
        · rw [e2 hr]
          rfl
        · simp only [AVR, SlAt, hI]
          exact ⟨cap, by rw [List.length_append], by rw [List.length_append]; exact hfit, by rw [← hro]; exact hrm⟩
      · exact grow cs h4 (fun w' hw' => by
          rw [hsz]
          refine run_firstCells_row hcl (.inr ⟨blk, base, rfl, ?_⟩)
          intro j v hj
          have := hrd j v hj
          unfold World.cell? at *
          rw [hw']
          exact this) (by omega)
end
end Go.Xr


set_option linter.unusedVariables false
set_option linter.unusedSimpArgs false
namespace Go.Xr
open Go

section
variable {F : Fence} {n : Nat} {P : Program} {K : Kit} {o : Oper} {a : Act} {w w' : World} {Qx : Exit → Act → World → Prop} {u : Value}
variable {b : Base} {us : List (Array Value)} {c c' : Cx} {s s' : AS} {Q : Ex → AS → Prop} {T : TypeId} {call : Oper → AV → List AV → AS → Tree}
theorem appendT_sound (hF : HF F) (hK : KitOK P K) (h : St c us s a) (hfr : Fr b c s) {cl : Call} {x y : Operand} {tx : TypeId} (ho : o.op = .call cl) (hc : cl.callee = .builtin .append) (hT : cl.argTypes = #[T, tx]) (hA : cl.args = #[x, y])
    (hs : (appendT K s o T tx (s.ev x) (s.ev y)).sat Q) : o.wpIn F n P a c.w (Abs b us Q) Qx := by
  unfold appendT at hs
  split at hs
  · rename_i t l hel hl
    replace hs := sat_ok hs; obtain ⟨hk, hs⟩ := hs
    obtain ⟨e, htd, hu, hty⟩ := elem_spec hK hel
    split at hs
    · rename_i hlt
      obtain ⟨lt, ys⟩ := l
      cases hlt
      have hx := h.ev x
      split at hs
      · rename_i i hX
        rw [hX] at hx
        split at hs
        · rename_i t' xs hb
          split at hs
          · rename_i ht'
            cases ht'
            obtain ⟨hroom, hs⟩ := hs
            obtain ⟨hm, hbo⟩ := h.bx i _ hb
            have hbo' := hbo
            rcases hbo with ⟨h1, h2⟩ | ⟨blk', base', arr, T', lo, hi, cs, h1, h2, h3, h4, h5, h6⟩
            · have hI : c.I s i = some (.buf lt (List.length xs) none) := by simp [Cx.I, boxI, hb, h1]
              simp only [AVR, SlAt, hI] at hx
              exact app_done hF hK h hfr ho hc hT hA hu hty hl hk (by rw [hx, h2]) hroom (.inl ⟨rfl, h2, rfl⟩) hs
            · have hI : c.I s i = some (.buf lt (List.length xs) (some (blk', base', roomOf c.w blk' base'))) := by simp [Cx.I, boxI, hb, h1]
              simp only [AVR, SlAt, hI] at hx
              obtain ⟨cap, hx, hc1, hc2⟩ := hx
              exact app_done hF hK h hfr ho hc hT hA hu hty hl hk hx hroom (.inr ⟨hb, blk', base', h1, rfl, hc1, hc2⟩) hs
          · exact hs.elim
        · exact hs.elim
      · rename_i hX
        rw [hX] at hx
        simp only [AVR] at hx
        obtain ⟨hroom, hs⟩ := hs
        exact app_done (xs := []) hF hK h hfr ho hc hT hA hu hty hl hk hx (by simpa [pRoom, pIAdd, pLen] using hroom) (.inl ⟨rfl, rfl, rfl⟩) hs
      · exact hs.elim
    · exact hs.elim
  · exact hs.elim
theorem assignNil_sound (hF : HF F) (hK : KitOK P K) (h : St c us s a) (hfr : Fr b c s) {x : Operand} {t : Ty} (ho : o.op = .assign x) (hX : s.ev x = .nil .sl) {i : Nat} (hs : (retT (s.newBox i (.buf t [])) o (.sl i)).sat Q) : o.wpIn F n P a c.w (Abs b us Q) Qx := by
  have hd : ∀ c, o.op ≠ .defer c := by intro c; rw [ho]; simp
  have hx := h.ev x
  rw [hX] at hx
  simp only [AVR] at hx
  obtain ⟨c', hw, h1, h2, h3, _⟩ := h.nilBuf hfr (i := i) (t := t)
  refine mem_done hF hd hs ?_ h1 h2 h3
  simp only [execOp, ho, hx, hw]
  rfl
/-! many alike -/
theorem made_cells (z : Array Value) (hz : 0 < z.size) : ∀ m : Nat, (madeCells z (m * z.size)).toList = (List.replicate m z.toList).flatten
  | 0 => by simp [madeCells, Array.range_zero']
  | m + 1 => by
    have ih := made_cells z hz m
    unfold madeCells at *
    rw [List.replicate_succ', List.flatten_append, ← ih]
    simp only [Array.toList_map, Array.toList_range, Nat.succ_mul]
    rw [List.range_add, List.map_append]
    congr 1
    simp only [List.map_map, List.flatten_cons, List.flatten_nil, List.append_nil]
    apply List.ext_getElem
    · simp
    · intro j h1 h2
      simp only [List.getElem_map, List.getElem_range, Function.comp_apply]
      have hj : j < z.size := by simpa using h2
      have : (m * z.size + j) % z.size = j := by rw [Nat.mul_comm, Nat.mul_add_mod, Nat.mod_eq_of_lt hj]
      rw [this]
      simp [hj]
theorem RepL_same {α : Type} {R : α → List Value → Prop} {x : α} {cs : List Value} (h : R x cs) : ∀ m : Nat, RepL R (List.replicate m x) (List.replicate m cs).flatten
  | 0 => rfl
  | m + 1 => ⟨cs, _, rfl, h, RepL_same h m⟩
theorem zero_elem {e : TypeId} {t : Ty} (hty : tyB P t (.inl e) = true) : ∃ i z, P.info? e = some i ∧ i.zero = some z ∧ i.size = t.size ∧ i.bytes ≤ 16384 ∧ 0 < t.size ∧ z.cells.size = t.size ∧ RepC w (fun _ _ => False) t t.dflt z.cells.toList := by
  obtain ⟨i, z, hi, hs, h0, hby, hz, hzb, _⟩ := infoB_spec (tyB_info hty)
  obtain ⟨c1, e, k⟩ := zeroB_spec (w := w) (E := fun _ _ => False) t _ _ hzb
  rw [List.append_nil] at e
  rw [← e] at k
  exact ⟨i, z, hi, hz, hs, hby, h0, by have := RepC.len t _ _ k; simpa using this, k⟩
theorem RepC.any {E : Bool → Nat → Prop} {t : Ty} {x : t.T} {cs : List Value} (h : RepC w (fun _ _ => False) t x cs) : RepC w E t x cs := h.mono fun b k hk => hk.elim
theorem makeSlice_sound (hF : HF F) (hK : KitOK P K) (h : St c us s a) (hfr : Fr b c s) {l m : Operand} (ho : o.op = .makeSlice T l m) (hs : (opT K call s o).sat Q) : o.wpIn F n P a c.w (Abs b us Q) Qx := by
  have hd : ∀ c, o.op ≠ .defer c := by intro c; rw [ho]; simp
  have hl := h.ev l
  have hm := h.ev m
  unfold opT at hs
  rw [ho] at hs
  simp only at hs
  split at hs
  · rename_i t k x k' y hel hL hM
    obtain ⟨hsz, hs⟩ := hs
    obtain ⟨e, htd, hu, hty⟩ := elem_spec hK hel
    rw [hL] at hl
    rw [hM] at hm
    obtain ⟨e1, k1⟩ := AVR_int.1 hl
    obtain ⟨e2, k2⟩ := AVR_int.1 hm
    obtain ⟨x, rfl⟩ : ∃ z : Int, z = x := ⟨_, rfl⟩
    obtain ⟨y, rfl⟩ : ∃ z : Int, z = y := ⟨_, rfl⟩
    have hsz : 0 ≤ x ∧ x ≤ 4294967296 ∧ x = y := by simpa [pSize] using hsz
    obtain ⟨hx0, hx1, rfl⟩ := hsz
    obtain ⟨i, z, hi, hz, his, hby, h0, hzs, hzr⟩ := zero_elem (w := c.w) hty
    have hbytes : (i.bytes : Int) * x ≤ 281474976710656 := by
      have : (i.bytes : Int) ≤ 16384 := by omega
      calc (i.bytes : Int) * x ≤ 16384 * x := Int.mul_le_mul_of_nonneg_right this hx0
        _ ≤ 16384 * 4294967296 := Int.mul_le_mul_of_nonneg_left hx1 (by omega)
        _ ≤ 281474976710656 := by decide
    have hr := run_make (P := P) c.w T e i z hu hi hz k k' x x hx0 (Int.le_refl _) hbytes (by omega)
    have hcells : madeCells z.cells (x.toNat * i.size) = ((List.replicate x.toNat z.cells.toList).flatten ++ []).toArray := by
      apply Array.ext'
      rw [his, ← hzs, made_cells z.cells (by omega)]
      simp
    have hrep : RepL (RepC c.w c.E t) (List.replicate x.toNat t.dflt) (List.replicate x.toNat z.cells.toList).flatten := RepL_same hzr.any _
    have hll : List.length (List.replicate x.toNat t.dflt) = x.toNat := List.length_replicate
    obtain ⟨c', hw, h1, h2, h3⟩ := h.newBuf hfr (i := siteT s o) (d := c.w.drawn) (T := e) (lo := 0) (hi := 0) (xs := List.replicate x.toNat t.dflt) (cs := (List.replicate x.toNat z.cells.toList).flatten) (rest := []) (cap := x.toNat)
      (by rw [hll]; unfold maxL; omega) hrep (.inr (Nat.le_refl _)) (by rw [hll]; exact Nat.le_refl _) (by
        rw [List.append_nil, RepL.len (RepC.len t) _ _ hrep, hll]
        exact Nat.le_refl _)
    rw [hll] at h3
    refine mem_done hF hd hs ?_ h1 h2 h3
    simp only [execOp, ho, e1, e2, Sem.run_bind, hr, Result.andThen_ok, Sem.run_pure, hw, hcells]
    rfl
  · exact hs.elim
end
end Go.Xr

set_option linter.unusedVariables false
set_option linter.unusedSimpArgs false
namespace Go.Xr
open Go

section
variable {F : Fence} {n : Nat} {P : Program} {K : Kit} {o : Oper} {a : Act} {w w' : World} {Qx : Exit → Act → World → Prop} {u : Value}
variable {b : Base} {us : List (Array Value)} {c c' : Cx} {s s' : AS} {Q : Ex → AS → Prop} {T : TypeId} {call : Oper → AV → List AV → AS → Tree}
variable {E : Bool → Nat → Prop} {I : Nat → Option BI}
/-! parts put together -/
theorem set_run {off : Nat} : ∀ (d : List Value) (k : Nat) (pre c1 post : List Value), c1.length = d.length → pre.length = off + k →
    (d.zipIdx k).foldl (fun (cs : Array Value) (x : Value × Nat) => cs.setIfInBounds (off + x.2) x.1) (pre ++ c1 ++ post).toArray = (pre ++ d ++ post).toArray
  | [], k, pre, c1, post, h, _ => by
    have : c1 = [] := List.eq_nil_of_length_eq_zero h
    subst this
    rfl
  | v :: d, k, pre, x :: c1, post, h, hp => by
    simp only [List.zipIdx_cons, List.foldl_cons]
    have e : (pre ++ x :: c1 ++ post).toArray.setIfInBounds (off + k) v = ((pre ++ [v]) ++ c1 ++ post).toArray := by
      apply Array.ext'
      simp only [Array.toList_setIfInBounds]
      rw [← hp]
      simp
    rw [e, set_run d (k + 1) (pre ++ [v]) c1 post (by simpa using h) (by simp; omega)]
    simp
theorem fill_step {place : Nat → Option (Nat × Nat)} {i off size : Nat} {v : Value} {rest : List (Nat × Value)} {pre c1 post : List Value} (hp : place i = some (off, size)) (h1 : pre.length = off) (h2 : c1.length = size) (h3 : v.cells.size = size) :
    Instr.fill place (pre ++ c1 ++ post).toArray ((i, v) :: rest) = Instr.fill place (pre ++ v.cells.toList ++ post).toArray rest := by
  have e : v.cells.zipIdx.foldl (fun cs x => cs.setIfInBounds (off + x.2) x.1) (pre ++ c1 ++ post).toArray = (pre ++ v.cells.toList ++ post).toArray := by
    rw [← Array.foldl_toList]
    have : v.cells.zipIdx.toList = v.cells.toList.zipIdx := by simp
    rw [this]
    exact set_run v.cells.toList 0 pre c1 post (by rw [h2, ← h3]; simp) (by rw [h1]; rfl)
  have hn : ¬ (v.cells.size ≠ size ∨ off + v.cells.size > (pre ++ c1 ++ post).toArray.size) := by
    rw [h3]
    simp
    omega
  simp only [Instr.fill, hp]
  rw [if_neg (by simpa using hn)]
  rw [e]
theorem take_set_csz : ∀ (l : List AV) (i j : Nat) (v u : AV), nth l i = some v → u.csz = v.csz → cszL ((l.set i u).take j) = cszL (l.take j)
  | [], i, j, v, u, h, _ => by cases h
  | x :: l, 0, 0, v, u, h, e => by simp
  | x :: l, 0, j + 1, v, u, h, e => by
    simp only [nth, Option.some.injEq] at h
    subst h
    simp [cszL, e]
  | x :: l, i + 1, 0, v, u, h, e => by simp
  | x :: l, i + 1, j + 1, v, u, h, e => by
    have := take_set_csz l i j v u (by simpa [nth] using h) e
    simp [cszL, this]
theorem AVCL_set : ∀ (l : List AV) (cs d : List Value) (i : Nat) (v u : AV), AVCL w E I l cs → nth l i = some v → AVC1 w E I u d → ∃ pre c1 post, cs = pre ++ c1 ++ post ∧ pre.length = cszL (l.take i) ∧ c1.length = v.csz ∧ AVCL w E I (l.set i u) (pre ++ d ++ post)
  | x :: l, cs, d, 0, v, u, h, hn, hu => by
    obtain ⟨c1, c2, e, h1, h2⟩ := AVCL_cons.1 h
    simp only [nth, Option.some.injEq] at hn
    subst hn
    exact ⟨[], c1, c2, by simpa using e, rfl, h1.len, AVCL_cons.2 ⟨d, c2, by simp, hu, h2⟩⟩
  | x :: l, cs, d, i + 1, v, u, h, hn, hu => by
    obtain ⟨c1, c2, e, h1, h2⟩ := AVCL_cons.1 h
    obtain ⟨pre, c3, post, e2, k1, k2, k3⟩ := AVCL_set l c2 d i v u h2 (by simpa [nth] using hn) hu
    refine ⟨c1 ++ pre, c3, post, by rw [e, e2]; simp, ?_, k2, AVCL_cons.2 ⟨c1, pre ++ d ++ post, by simp, h1, k3⟩⟩
    rw [List.length_append, h1.len, k1]
    rfl
  | [], cs, d, i, v, u, h, hn, hu => by cases i <;> cases hn
theorem fits_spec {v x : AV} (h : AV.fits v x = true) : x.csz = v.csz ∧ x.sz.isSome = true ∧ (∀ {d}, VarC w E I x d → AVC1 w E I x d) := by
  unfold AV.fits at h
  split at h <;> first | (cases h; done) | skip
  rename_i h1 h2 h3 h4 h5 h6
  refine ⟨Nat.eq_of_beq_eq_true h, ?_, ?_⟩
  · cases x <;> first | rfl | (exact (h1 rfl).elim) | (exact (h3 _ rfl).elim) | (exact (h4 _ rfl).elim)
  · intro d hd
    cases x <;> first | exact hd | (exact (h1 rfl).elim) | (exact (h2 _ rfl).elim)
theorem fill_spec (h : St c us s a) {place : Nat → Option (Nat × Nat)} : ∀ (ps : List (Nat × Operand)) (l l' : List AV) (cs : List Value), AVCL c.w c.E (c.I s) l cs → partsL s l ps = some l' →
    (∀ i v, nth l i = some v → place i = some (cszL (l.take i), v.csz)) →
    ∃ cs', Instr.fill place cs.toArray (ps.map fun x => (x.1, a.eval x.2)) = some cs'.toArray ∧ AVCL c.w c.E (c.I s) l' cs'
  | [], l, l', cs, hl, hp, _ => by
    simp only [partsL, Option.some.injEq] at hp
    subst hp
    exact ⟨cs, rfl, hl⟩
  | (i, x) :: ps, l, l', cs, hl, hp, hpl => by
    simp only [partsL] at hp
    split at hp
    · rename_i v hv
      cases hf : AV.fits v (s.ev x) with
      | false => rw [hf] at hp; cases hp
      | true =>
        rw [hf] at hp
        simp only [cond_true] at hp
        obtain ⟨f1, f2, f3⟩ := fits_spec (w := c.w) (E := c.E) (I := c.I s) hf
        have hx := f3 (AVR_VarC f2 (h.ev x))
        obtain ⟨pre, c1, post, e, k1, k2, k3⟩ := AVCL_set l cs _ i v (s.ev x) hl hv hx
        have hsz : (a.eval x).cells.size = v.csz := by have := hx.len; simp at this; rw [this, f1]
        have ih := fill_spec (place := place) h ps (l.set i (s.ev x)) l' _ k3 hp (fun j z hj => by
          rw [take_set_csz l i j v _ hv f1]
          rw [nth_set] at hj
          split at hj
          · rename_i e
            subst e
            rw [hv] at hj
            cases hj
            rw [hpl i v hv, f1]
          · exact hpl j z hj)
        obtain ⟨cs', j1, j2⟩ := ih
        refine ⟨cs', ?_, j2⟩
        rw [List.map_cons, e]
        have := fill_step (rest := ps.map fun x => (x.1, a.eval x.2)) (post := post) (hpl i v hv) k1 k2 hsz
        rw [this]
        exact j1
    · cases hp
/-! rows and structs of parts -/
theorem toPV_rep {v : AV} {p : PV} {d : List Value} (hp : s.toPV v = some p) (h : AVC1 w E I v d) : RepC w E p.t p.x d := by
  cases v <;> simp only [AS.toPV] at hp <;> cases hp
  · exact h
  · simp only [AVC1, partC] at h
    obtain ⟨u, rfl, _, hu⟩ := h
    rw [AVR_lit] at hu
    rw [hu]
    rfl
theorem rowOf_spec {t : Ty} : ∀ (l : List AV) (cs : List Value) (xs : List t.T), AVCL w E I l cs → rowOf s t l = some xs → RepL (RepC w E t) xs cs
  | [], cs, xs, h, hr => by
    simp only [rowOf, Option.some.injEq] at hr
    subst hr
    exact AVCL_nil.1 h
  | v :: l, cs, xs, h, hr => by
    obtain ⟨c1, c2, e, h1, h2⟩ := AVCL_cons.1 h
    simp only [rowOf] at hr
    split at hr
    · rename_i p hp
      split at hr
      · rename_i x q hx hq
        cases hr
        cases as_eq hx
        exact ⟨c1, c2, e, toPV_rep hp h1, rowOf_spec l c2 q h2 hq⟩
      · cases hr
    · cases hr
theorem fieldsOf_spec : ∀ (t : Ty) (l : List AV) (cs : List Value) (x : t.T), AVCL w E I l cs → fieldsOf s t l = some x → RepC w E t x cs := by
  intro t
  have one : ∀ (v : AV) (cs : List Value) (x : t.T), AVCL w E I [v] cs → (match s.toPV v with | some p => p.as t | none => none) = some x → RepC w E t x cs := by
    intro v cs x h hr
    obtain ⟨c1, c2, e, h1, h2⟩ := AVCL_cons.1 h
    cases AVCL_nil.1 h2
    rw [List.append_nil] at e
    subst e
    split at hr
    · rename_i p hp
      cases as_eq hr
      exact toPV_rep hp h1
    · cases hr
  induction t with
  | pair a b iha ihb =>
    intro l cs x h hr
    match l, h, hr with
    | v :: r, h, hr =>
      obtain ⟨c1, c2, e, h1, h2⟩ := AVCL_cons.1 h
      simp only [fieldsOf] at hr
      split at hr
      · rename_i p hp
        split at hr
        · rename_i y z hy hz
          cases hr
          cases as_eq hy
          refine ⟨c1, c2, e, toPV_rep hp h1, ihb ?_ r c2 z h2 hz⟩
          intro v cs x h hr
          obtain ⟨d1, d2, e, h1, h2⟩ := AVCL_cons.1 h
          cases AVCL_nil.1 h2
          rw [List.append_nil] at e
          subst e
          split at hr
          · rename_i p hp
            cases as_eq hr
            exact toPV_rep hp h1
          · cases hr
        · cases hr
      · cases hr
    | [], h, hr => simp [fieldsOf] at hr
  | _ =>
    intro l cs x h hr
    match l, h, hr with
    | [v], h, hr => exact one v cs x h (by unfold fieldsOf at hr; exact hr)
    | [], h, hr => simp [fieldsOf] at hr
    | _ :: _ :: _, h, hr => simp [fieldsOf] at hr
theorem rep_fields : ∀ (t : Ty) (cs : List Value), RepC w E t t.dflt cs → AVCL w E I (zeroFields t) cs
  | .pair a b, cs, ⟨c1, c2, e, h1, h2⟩ => AVCL_cons.2 ⟨c1, c2, e, h1, rep_fields b c2 h2⟩
  | .unit, cs, h => AVCL_nil.2 h
  | .int k, cs, h => AVCL_cons.2 ⟨cs, [], by simp, h, AVCL_nil.2 rfl⟩
  | .bool, cs, h => AVCL_cons.2 ⟨cs, [], by simp, h, AVCL_nil.2 rfl⟩
  | .str, cs, h => AVCL_cons.2 ⟨cs, [], by simp, h, AVCL_nil.2 rfl⟩
  | .st t, cs, h => AVCL_cons.2 ⟨cs, [], by simp, h, AVCL_nil.2 rfl⟩
  | .arr n t, cs, h => AVCL_cons.2 ⟨cs, [], by simp, h, AVCL_nil.2 rfl⟩
  | .sl b t, cs, h => AVCL_cons.2 ⟨cs, [], by simp, h, AVCL_nil.2 rfl⟩
theorem rep_row {t : Ty} : ∀ (m : Nat) (cs : List Value), RepL (RepC w E t) (List.replicate m t.dflt) cs → AVCL w E I (repL (.pv t t.dflt) m) cs
  | 0, cs, h => AVCL_nil.2 h
  | m + 1, cs, ⟨c1, c2, e, h1, h2⟩ => AVCL_cons.2 ⟨c1, c2, e, h1, rep_row m c2 h2⟩
theorem repL_place {t : Ty} : ∀ (m i : Nat) (v : AV), nth (repL (.pv t t.dflt) m) i = some v → cszL ((repL (.pv t t.dflt) m).take i) = i * t.size ∧ v.csz = t.size
  | m + 1, 0, v, h => by simp only [repL, nth, Option.some.injEq] at h; subst h; simp [cszL, AV.csz]
  | m + 1, i + 1, v, h => by
    obtain ⟨k1, k2⟩ := repL_place m i v (by simpa [repL, nth] using h)
    refine ⟨?_, k2⟩
    simp only [repL, List.take_succ_cons, cszL, k1, AV.csz, Nat.succ_mul]
    exact Nat.add_comm _ _
  | 0, i, v, h => by cases h
end
end Go.Xr

set_option linter.unusedVariables false
set_option linter.unusedSimpArgs false
namespace Go.Xr
open Go

section
variable {F : Fence} {n : Nat} {P : Program} {K : Kit} {o : Oper} {a : Act} {w w' : World} {Qx : Exit → Act → World → Prop} {u : Value}
variable {b : Base} {us : List (Array Value)} {c c' : Cx} {s s' : AS} {Q : Ex → AS → Prop} {T : TypeId} {call : Oper → AV → List AV → AS → Tree}
variable {E : Bool → Nat → Prop} {I : Nat → Option BI}
def placesOf (P : Program) (fs : List Field) : Option (List (Nat × Nat)) := fs.mapM (fun f => (P.info? f.type).map fun i => (f.offset, i.size))
theorem placesOf_cons {f : Field} {fs : List Field} {i : TypeInfo} {r : List (Nat × Nat)} (hi : P.info? f.type = some i) (hr : placesOf P fs = some r) : placesOf P (f :: fs) = some ((f.offset, i.size) :: r) := by
  unfold placesOf at *
  simp [List.mapM_cons, hi, hr]
theorem places_pure : ∀ (t : Ty) (fs : List Field) (off : Nat), tyB P t (.inr (fs, off)) = true → ∃ r, placesOf P fs = some r ∧ ∀ i v, nth (zeroFields t) i = some v → r[i]? = some (off + cszL ((zeroFields t).take i), v.csz) := by
  intro t
  have single : ∀ {fs : List Field} {off : Nat} {t : Ty}, (∀ T, (∃ R : TypeId → Bool, R T = true ∧ (∀ T, R T = true → tyB P t (.inl T) = true) ∧ oneB P (.inr (fs, off)) R = true) → True) → True := fun _ => trivial
  have base : ∀ (fs : List Field) (off : Nat), zeroFields t = [.pv t t.dflt] → (∃ f, fs = [f] ∧ f.offset = off ∧ tyB P t (.inl f.type) = true) → ∃ r, placesOf P fs = some r ∧ ∀ i v, nth (zeroFields t) i = some v → r[i]? = some (off + cszL ((zeroFields t).take i), v.csz) := by
    intro fs off hz ⟨f, hf, ho, hty⟩
    obtain ⟨i, hi, hsz, _⟩ := tyB_size hty
    subst hf
    refine ⟨_, placesOf_cons hi (show placesOf P [] = some [] from rfl), ?_⟩
    intro k v hk
    rw [hz] at hk ⊢
    match k, hk with
    | 0, hk =>
      simp only [nth, Option.some.injEq] at hk
      subst hk
      simp [cszL, ho, AV.csz, hsz]
    | k + 1, hk => cases hk
  have one : ∀ {R : TypeId → Bool} {fs : List Field} {off : Nat}, oneB P (.inr (fs, off)) R = true → ∃ f, fs = [f] ∧ f.offset = off ∧ R f.type = true := by
    intro R fs off hR
    match fs, hR with
    | [f], hR =>
      simp only [oneB, Bool.and_eq_true, Bool.not_eq_true'] at hR
      exact ⟨f, rfl, Nat.eq_of_beq_eq_true hR.1.1, hR.2⟩
  induction t with
  | pair x y ihx ihy =>
    intro fs off hT
    match fs, hT with
    | f :: fs, hT =>
      simp only [tyB, Bool.and_eq_true, Bool.not_eq_true'] at hT
      obtain ⟨⟨⟨ho, hn⟩, hta⟩, htb⟩ := hT
      have ho := Nat.eq_of_beq_eq_true ho
      obtain ⟨i, hi, hsz, _⟩ := tyB_size hta
      have by' : ∀ (fs : List Field) (off : Nat), zeroFields y = [.pv y y.dflt] → (∃ f, fs = [f] ∧ f.offset = off ∧ tyB P y (.inl f.type) = true) → ∃ r, placesOf P fs = some r ∧ ∀ i v, nth (zeroFields y) i = some v → r[i]? = some (off + cszL ((zeroFields y).take i), v.csz) := by
        intro fs off hz ⟨f, hf, ho, hty⟩
        obtain ⟨i, hi, hsz, _⟩ := tyB_size hty
        subst hf
        refine ⟨_, placesOf_cons hi (show placesOf P [] = some [] from rfl), ?_⟩
        intro k v hk
        rw [hz] at hk ⊢
        match k, hk with
        | 0, hk =>
          simp only [nth, Option.some.injEq] at hk
          subst hk
          simp [cszL, ho, AV.csz, hsz]
        | k + 1, hk => cases hk
      obtain ⟨r, h1, h2⟩ := ihy by' fs _ htb
      refine ⟨_, placesOf_cons hi h1, ?_⟩
      intro k v hk
      match k, hk with
      | 0, hk =>
        simp only [zeroFields, nth, Option.some.injEq] at hk
        subst hk
        simp [cszL, ho, AV.csz, hsz]
      | k + 1, hk =>
        have := h2 k v (by simpa [zeroFields, nth] using hk)
        simp only [List.getElem?_cons_succ, this, zeroFields, List.take_succ_cons, cszL, AV.csz]
        congr 2
        exact Nat.add_assoc _ _ _
  | unit =>
    intro fs off hT
    match fs, hT with
    | [], _ => exact ⟨[], rfl, fun i v h => by cases h⟩
  | int k => intro fs off hT; obtain ⟨f, e1, e2, e3⟩ := one hT; exact base fs off rfl ⟨f, e1, e2, e3⟩
  | bool => intro fs off hT; obtain ⟨f, e1, e2, e3⟩ := one hT; exact base fs off rfl ⟨f, e1, e2, e3⟩
  | str => intro fs off hT; obtain ⟨f, e1, e2, e3⟩ := one hT; exact base fs off rfl ⟨f, e1, e2, e3⟩
  | st t ih => intro fs off hT; obtain ⟨f, e1, e2, e3⟩ := one hT; exact base fs off rfl ⟨f, e1, e2, e3⟩
  | arr m t ih => intro fs off hT; obtain ⟨f, e1, e2, e3⟩ := one hT; exact base fs off rfl ⟨f, e1, e2, e3⟩
  | sl x t ih => intro fs off hT; obtain ⟨f, e1, e2, e3⟩ := one hT; exact base fs off rfl ⟨f, e1, e2, e3⟩
theorem zeroA_csz {site : Nat} : (K.zeroA site T).csz = K.sz1 T := by
  unfold Kit.zeroA Kit.sz1
  cases K.td T with
  | slice e => simp only; split <;> rfl
  | _ => rfl
theorem places_struct : ∀ (fields : List Field) (fs : List TypeId) (site off : Nat), fieldsB P K fields fs off = true → ∃ r, placesOf P fields = some r ∧ ∀ i v, nth (K.zerosA site fs) i = some v → r[i]? = some (off + cszL ((K.zerosA site fs).take i), v.csz)
  | [], [], site, off, _ => ⟨[], rfl, fun i v h => by cases h⟩
  | f :: r, T :: q, site, off, h => by
    simp only [fieldsB, Bool.and_eq_true] at h
    obtain ⟨⟨⟨⟨h1, h2⟩, h3⟩, h4⟩, h5⟩ := h
    have h1 := Nat.eq_of_beq_eq_true h1
    split at h4
    · rename_i i hi
      have h4 := Nat.eq_of_beq_eq_true h4
      have h2 := Nat.eq_of_beq_eq_true h2
      rw [← h2] at hi
      obtain ⟨rs, k1, k2⟩ := places_struct r q (Nat.add site 10) _ h5
      refine ⟨_, placesOf_cons hi k1, ?_⟩
      intro k v hk
      match k, hk with
      | 0, hk =>
        simp only [Kit.zerosA, nth, Option.some.injEq] at hk
        subst hk
        simp [cszL, h1, zeroA_csz, h4]
      | k + 1, hk =>
        have := k2 k v (by simpa [Kit.zerosA, nth] using hk)
        simp only [List.getElem?_cons_succ, this, Kit.zerosA, List.take_succ_cons, cszL, zeroA_csz]
        congr 2
        exact Nat.add_assoc _ _ _
    · cases h4
  | [], _ :: _, _, _, h => by simp [fieldsB] at h
  | _ :: _, [], _, _, h => by simp [fieldsB] at h
theorem built_struct {fields : Array Field} {it : TypeInfo} {z : Value} {r : List (Nat × Nat)} {ps : List (Nat × Value)} (hu : P.underlying T = some (.struct fields)) (hi : P.info? T = some it) (hz : it.zero = some z) (hr : placesOf P fields.toList = some r) :
    P.built T ps = Instr.fill (fun i => r[i]?) z.cells ps := by
  unfold placesOf at hr
  unfold Program.built
  simp only [hi, hu, hz, hr]
  congr 1
  funext i
  simp
theorem parts_map {ps : Array (Nat × Operand)} : (ps.map fun x => (x.1, a.eval x.2)).toList = ps.toList.map fun x => (x.1, a.eval x.2) := by simp
theorem build_sound (hF : HF F) (hK : KitOK P K) (h : St c us s a) (hfr : Fr b c s) {ps : Array (Nat × Operand)} (ho : o.op = .build T ps) (hs : (buildT K s o T ps.toList).sat Q) : o.wpIn F n P a c.w (Abs b us Q) Qx := by
  have hd : ∀ c, o.op ≠ .defer c := by intro c; rw [ho]; simp
  have he : ∀ {cells w1}, P.built T (ps.toList.map fun x => (x.1, a.eval x.2)) = some cells → (execOp a.eval o).run P w1 = .ok (.value (.agg cells)) w1 := by
    intro cells w1 hb
    have := run_build (P := P) w1 T (ps.map fun x => (x.1, a.eval x.2)) cells (by rw [parts_map]; exact hb)
    simp only [execOp, ho, Sem.run_bind, this, Result.andThen_ok, Sem.run_pure]
  unfold buildT at hs
  split at hs
  · rename_i t ht
    split at hs
    · rename_i l hl
      split at hs
      · rename_i x hx
        obtain ⟨hT, _⟩ := td_pure hK ht
        obtain ⟨fs, hu, hr, _⟩ := tyB_st hT
        obtain ⟨it, z, hi, _, _, _, hz, hzb, _⟩ := infoB_spec (tyB_info hT)
        obtain ⟨c1, e, k⟩ := zeroB_spec (w := c.w) (E := c.E) _ _ _ hzb
        rw [List.append_nil] at e
        obtain ⟨r, hr1, hr2⟩ := places_pure t fs.toList 0 hr
        have hzc : AVCL c.w c.E (c.I s) (zeroFields t) z.cells.toList := by rw [e]; exact rep_fields t _ k
        obtain ⟨cs', f1, f2⟩ := fill_spec (place := fun i => r[i]?) h ps.toList _ l _ hzc hl (fun i v hv => by rw [hr2 i v hv, Nat.zero_add])
        have hb : P.built T (ps.toList.map fun x => (x.1, a.eval x.2)) = some cs'.toArray := by rw [built_struct hu hi hz hr1]; simpa using f1
        have hrep := fieldsOf_spec (s := s) t l cs' x f2 hx
        exact val_one hF hd h hfr hs (he hb) (by simp only [AVR]; exact ⟨cs', hrep, rfl⟩)
      · exact hs.elim
    · exact hs.elim
  · rename_i m t ht
    split at hs
    · rename_i l hl
      split at hs
      · rename_i x hx
        obtain ⟨hT, _⟩ := td_pure hK ht
        obtain ⟨e0, hu, hr, _⟩ := tyB_arr hT
        obtain ⟨it, z, hi, _, _, _, hz, hzb, _⟩ := infoB_spec (tyB_info hT)
        obtain ⟨c1, e, k⟩ := zeroB_spec (w := c.w) (E := c.E) _ _ _ hzb
        rw [List.append_nil] at e
        obtain ⟨ie, hie, hsz, _⟩ := tyB_size hr
        have hzc : AVCL c.w c.E (c.I s) (repL (.pv t t.dflt) m) z.cells.toList := by rw [e]; exact rep_row m _ k.2
        obtain ⟨cs', f1, f2⟩ := fill_spec (place := fun i => some (i * ie.size, ie.size)) h ps.toList _ l _ hzc hl (fun i v hv => by obtain ⟨q1, q2⟩ := repL_place m i v hv; rw [q1, q2, hsz])
        have hb : P.built T (ps.toList.map fun x => (x.1, a.eval x.2)) = some cs'.toArray := by
          unfold Program.built
          simp only [hi, hu, hz, hie]
          simpa using f1
        have hrep := rowOf_spec (s := s) l cs' x f2 hx
        have hlen : List.length x = m := by
          have h1 := RepL.len (RepC.len t) _ _ hrep
          have : ∀ (l : List AV) (xs : List t.T), rowOf s t l = some xs → xs.length = l.length := by
            intro l
            induction l with
            | nil => intro xs h; simp only [rowOf, Option.some.injEq] at h; subst h; rfl
            | cons v r ih =>
              intro xs h
              simp only [rowOf] at h
              split at h
              · split at h
                · rename_i q hq
                  cases h
                  simp [ih _ hq]
                · cases h
              · cases h
          rw [this l x hx]
          have : ∀ (ps : List (Nat × Operand)) (l l' : List AV), partsL s l ps = some l' → l'.length = l.length := by
            intro ps
            induction ps with
            | nil => intro l l' h; simp only [partsL, Option.some.injEq] at h; rw [h]
            | cons y r ih =>
              intro l l' h
              obtain ⟨i, y⟩ := y
              simp only [partsL] at h
              split at h
              · rename_i v hv
                cases hf : AV.fits v (s.ev y) with
                | true => rw [hf] at h; rw [ih _ _ h]; simp
                | false => rw [hf] at h; cases h
              · cases h
          rw [this _ _ _ hl]
          have : ∀ (z : AV) (m : Nat), (repL z m).length = m := by
            intro z m
            induction m with
            | zero => rfl
            | succ m ih => simp [repL, ih]
          exact this _ _
        exact val_one hF hd h hfr hs (he hb) (by simp only [AVR]; exact ⟨cs', ⟨hlen, hrep⟩, rfl⟩)
      · exact hs.elim
    · exact hs.elim
  · rename_i fs ht
    dsimp only at hs
    split at hs
    · rename_i l hl
      obtain ⟨fields, it, hu, hfb, hi, _, z, hz, hzb⟩ := td_struct hK ht
      obtain ⟨c', hw, k1, k2, k3⟩ := zerosS_spec fs (siteT s o) z.toList hzb h hfr
      obtain ⟨r, hr1, hr2⟩ := places_struct fields.toList fs (siteT s o) 0 hfb
      obtain ⟨cs', f1, f2⟩ := fill_spec (place := fun i => r[i]?) k1 ps.toList _ l _ k3 hl (fun i v hv => by rw [hr2 i v hv, Nat.zero_add])
      have hb : P.built T (ps.toList.map fun x => (x.1, a.eval x.2)) = some cs'.toArray := by rw [built_struct hu hi hz hr1]; simpa [Value.cells] using f1
      refine mem_done (c' := c') hF hd hs ?_ k1 k2 (u := .agg cs'.toArray) (by simp only [AVR]; exact ⟨cs', rfl, f2⟩)
      rw [he hb, hw]
    · exact hs.elim
  · exact hs.elim
end
end Go.Xr

set_option linter.unusedVariables false
set_option linter.unusedSimpArgs false
namespace Go.Xr
open Go

section
variable {w w' : World} {u : Value} {E : Bool → Nat → Prop} {I : Nat → Option BI}
/-- 'd' in place of what stands at 'o'. -/
def Put (cs d cs' : List Value) (o : Nat) : Prop := ∃ pre c1 post, cs = pre ++ c1 ++ post ∧ pre.length = o ∧ c1.length = d.length ∧ cs' = pre ++ d ++ post
theorem Put.all {cs d : List Value} (h : cs.length = d.length) : Put cs d d 0 := ⟨[], cs, [], by simp, rfl, h, by simp⟩
theorem Put.left {c1 c2 d c1' : List Value} {o : Nat} (h : Put c1 d c1' o) : Put (c1 ++ c2) d (c1' ++ c2) o := by
  obtain ⟨pre, x, post, rfl, h1, h2, rfl⟩ := h
  exact ⟨pre, x, post ++ c2, by simp, h1, h2, by simp⟩
theorem Put.right {c1 c2 d c2' : List Value} {o : Nat} (h : Put c2 d c2' o) : Put (c1 ++ c2) d (c1 ++ c2') (c1.length + o) := by
  obtain ⟨pre, x, post, rfl, h1, h2, rfl⟩ := h
  exact ⟨c1 ++ pre, x, post, by simp, by simp [h1], h2, by simp⟩
theorem Put.len {cs d cs' : List Value} {o : Nat} (h : Put cs d cs' o) : cs'.length = cs.length ∧ o + d.length ≤ cs.length := by
  obtain ⟨pre, x, post, rfl, h1, h2, rfl⟩ := h
  simp [h2]
  omega
theorem Put.trans {cs d cs' e e' : List Value} {o o' : Nat} (h : Put cs e' cs' o) (k : Put e d e' o') (hs : Sub e cs o) : Put cs d cs' (o + o') := by
  obtain ⟨pre, x, post, rfl, h1, h2, rfl⟩ := h
  obtain ⟨pre', x', post', rfl, k1, k2, rfl⟩ := k
  obtain ⟨p, q, e, e2⟩ := hs
  have hl : pre.length = p.length := by rw [h1, e2]
  have : x = pre' ++ x' ++ post' := by
    simp only [List.append_assoc] at e
    have e3 := List.append_inj e hl
    have e4 := List.append_inj (s₁ := x) (t₁ := post) (s₂ := pre' ++ (x' ++ post')) (t₂ := q) (by simpa using e3.2) (by simp at h2 ⊢; omega)
    simpa using e4.1
  subst this
  exact ⟨pre ++ pre', x', post' ++ post, by simp, by simp [h1, k1], k2, by simp⟩
theorem RepL.put {α : Type} {R : α → List Value → Prop} {sz : Nat} (hR : ∀ x cs, R x cs → cs.length = sz) : ∀ (xs : List α) (cs : List Value) (i : Nat) (y : α) (d : List Value), i < xs.length → RepL R xs cs → R y d →
    ∃ cs', Put cs d cs' (i * sz) ∧ RepL R (xs.set i y) cs'
  | x :: xs, cs, 0, y, d, _, ⟨c1, c2, e, h1, h2⟩, hy => by
    refine ⟨d ++ c2, ?_, d, c2, rfl, hy, h2⟩
    rw [e, Nat.zero_mul]
    exact (Put.all (by rw [hR _ _ h1, hR _ _ hy])).left
  | x :: xs, cs, i + 1, y, d, hi, ⟨c1, c2, e, h1, h2⟩, hy => by
    obtain ⟨cs', k1, k2⟩ := RepL.put hR xs c2 i y d (by simpa using hi) h2 hy
    refine ⟨c1 ++ cs', ?_, c1, cs', rfl, h1, k2⟩
    rw [e, Nat.succ_mul, Nat.add_comm]
    have := k1.right (c1 := c1)
    rwa [hR _ _ h1] at this
theorem setT_spec : ∀ (t : Ty) (x : t.T) (n : Option Nat) (p : List Stp) (v : PV) (cs d : List Value) (x' : t.T) (o : Nat), RepC w E t x cs → RepC w E v.t v.x d → setT t x n p v = some x' → offT t n p = some o →
    ∃ cs', Put cs d cs' o ∧ RepC w E t x' cs' := by
  intro t x n p v
  induction t, x, n, p, v using setT.induct with
  | case1 a b p v x ih =>
    rintro cs d x' o ⟨c1, c2, e, h1, h2⟩ hv hs ho
    simp only [setT, Option.map_eq_some_iff] at hs
    obtain ⟨y, hs, rfl⟩ := hs
    obtain ⟨c', k1, k2⟩ := ih c1 d y o h1 hv hs (by simpa only [offT] using ho)
    exact ⟨c' ++ c2, by rw [e]; exact k1.left, c', c2, rfl, k2, h2⟩
  | case2 a b n p v x ih =>
    rintro cs d x' o ⟨c1, c2, e, h1, h2⟩ hv hs ho
    simp only [setT, Option.map_eq_some_iff] at hs
    obtain ⟨y, hs, rfl⟩ := hs
    simp only [offT, Option.map_eq_some_iff] at ho
    obtain ⟨o', ho, rfl⟩ := ho
    obtain ⟨c', k1, k2⟩ := ih c2 d y o' h2 hv hs ho
    refine ⟨c1 ++ c', ?_, c1, c', rfl, h1, k2⟩
    rw [e, ← RepC.len a _ _ h1]
    exact k1.right
  | case3 t v x =>
    intro cs d x' o h hv hs ho
    have hs : v.as t = some x' := by simpa only [setT] using hs
    have ho : 0 = o := by rw [offT_nil] at ho; simpa using ho
    subst ho
    cases as_eq hs
    exact ⟨d, Put.all (by rw [RepC.len t _ _ h, RepC.len t _ _ hv]), hv⟩
  | case4 t v x h1 =>
    intro cs d x' o h hv hs ho
    have hp : ∀ a b, t = .pair a b → False := fun a b e => by subst e; exact h1 a b x rfl HEq.rfl
    have hs : v.as t = some x' := by
      cases t <;> first | exact (hp _ _ rfl).elim | exact hs
    have ho : 0 = o := by
      cases t <;> first | exact (hp _ _ rfl).elim | (simp only [offT, Option.some.injEq] at ho; exact ho)
    subst ho
    cases as_eq hs
    exact ⟨d, Put.all (by rw [RepC.len t _ _ h, RepC.len t _ _ hv]), hv⟩
  | case5 a n p v x ih =>
    intro cs d x' o h hv hs ho
    simp only [setT, offT] at hs ho
    exact ih cs d x' o h hv hs ho
  | case6 a n p v x ih =>
    intro cs d x' o h hv hs ho
    simp only [setT, offT] at hs ho
    exact ih cs d x' o h hv hs ho
  | case7 m a i p v x ih =>
    rintro cs d x' o ⟨hl, h⟩ hv hs ho
    simp only [setT, Option.map_eq_some_iff] at hs
    obtain ⟨y, hs, rfl⟩ := hs
    simp only [offT] at ho
    split at ho
    · rename_i hi
      simp only [Option.map_eq_some_iff] at ho
      obtain ⟨o', ho2, rfl⟩ := ho
      have hlt : Int.toNat i < List.length x := by rw [hl]; exact toNat_lt' hi
      obtain ⟨c1, j1, j2⟩ := RepL.sub (RepC.len a) x cs (Int.toNat i) a.dflt hlt h
      obtain ⟨c1', k1, k2⟩ := ih c1 d y o' j2 hv hs ho2
      obtain ⟨cs', g1, g2⟩ := RepL.put (RepC.len a) x cs (Int.toNat i) y c1' hlt h k2
      exact ⟨cs', g1.trans k1 j1, by simp only [pSet, List.length_set]; exact hl, g2⟩
    · cases ho
  | case8 m a i p v x ih =>
    rintro cs d x' o ⟨hl, h⟩ hv hs ho
    simp only [setT, Option.map_eq_some_iff] at hs
    obtain ⟨y, hs, rfl⟩ := hs
    simp only [offT] at ho
    split at ho
    · rename_i hi
      simp only [Option.map_eq_some_iff] at ho
      obtain ⟨o', ho2, rfl⟩ := ho
      have hlt : Int.toNat i < List.length x := by rw [hl]; exact toNat_lt' hi
      obtain ⟨c1, j1, j2⟩ := RepL.sub (RepC.len a) x cs (Int.toNat i) a.dflt hlt h
      obtain ⟨c1', k1, k2⟩ := ih c1 d y o' j2 hv hs ho2
      obtain ⟨cs', g1, g2⟩ := RepL.put (RepC.len a) x cs (Int.toNat i) y c1' hlt h k2
      exact ⟨cs', g1.trans k1 j1, by simp only [pSet, List.length_set]; exact hl, g2⟩
    · cases ho
  | case9 t n p v h1 h2 x h3 h4 h5 h6 h7 h8 =>
    intro cs d x' o h hv hs ho
    rw [setT.eq_9 _ _ _ _ _ h3 h4 h1 h2 h5 h6 h7 h8] at hs
    cases hs
/-- what lies where hangs on the type alone -/
theorem getT_ty : ∀ (t : Ty) (x y : t.T) (n : Option Nat) (p : List Stp) (u : Ty) (z : u.T), getT t x n p = .pv u z → ∃ z', getT t y n p = .pv u z' := by
  intro t x y n p
  induction t, x, n, p using getT.induct with
  | case1 a b p x ih => intro u z h; simp only [getT] at h ⊢; exact ih (pFst y) u z h
  | case2 a b n p x ih => intro u z h; simp only [getT] at h ⊢; exact ih (pSnd y) u z h
  | case3 t x => intro u z h; simp only [getT] at h ⊢; cases h; exact ⟨y, rfl⟩
  | case4 t x h1 =>
    have hp : ∀ a b, t = .pair a b → False := fun a b e => by subst e; exact h1 a b x rfl HEq.rfl
    intro u z h
    cases t <;> first | exact (hp _ _ rfl).elim | (cases h; exact ⟨y, rfl⟩)
  | case5 a n p x ih => intro u z h; simp only [getT] at h ⊢; exact ih y u z h
  | case6 a n p x ih => intro u z h; simp only [getT] at h ⊢; exact ih y u z h
  | case7 m a i p x ih => intro u z h; simp only [getT] at h ⊢; exact ih _ u z h
  | case8 m a i p x ih => intro u z h; simp only [getT] at h ⊢; exact ih _ u z h
  | case9 t n p h1 h2 x h3 h4 h5 h6 h7 h8 =>
    intro u z h
    rw [getT.eq_9 _ _ _ _ h3 h4 h1 h2 h5 h6 h7 h8] at h
    cases h
/-- The same places. -/
def SameOff (v v' : AV) : Prop := ∀ q, offA q v = offA q v' ∧ arrA q v = arrA q v'
theorem SameOff.pv {t : Ty} {x y : t.T} : SameOff (.pv t x) (.pv t y) := by
  intro q
  refine ⟨by rw [offA_pv, offA_pv], ?_⟩
  unfold arrA
  rw [getP_pv, getP_pv]
  rcases getT_or t x none q with e | ⟨u, z, e⟩
  · rcases getT_or t y none q with e' | ⟨u', z', e'⟩
    · rw [e, e']
    · obtain ⟨z'', e2⟩ := getT_ty t y x none q u' z' e'
      rw [e] at e2
      cases e2
  · obtain ⟨z', e2⟩ := getT_ty t x y none q u z e
    rw [e, e2]
    cases u <;> rfl
theorem offA_one {v : AV} (h1 : ∀ t x, v = .pv t x → t = .bool) (h2 : ∀ fs, v ≠ .agg fs) : ∀ q, offA q v = (match q with | [] => some 0 | _ => none) ∧ arrA q v = none := by
  intro q
  cases q with
  | nil =>
    refine ⟨by simp [offA], arrA_none ?_⟩
    intro n t x e
    simp only [AV.getP] at e
    have := h1 _ _ e
    cases this
  | cons st r =>
    by_cases hv : ∃ t x, v = .pv t x
    · obtain ⟨t, x, rfl⟩ := hv
      cases h1 t x rfl
      refine ⟨by cases st <;> rfl, arrA_none ?_⟩
      intro n t' x' e
      cases st <;> simp [AV.getP, getT] at e
    · refine ⟨?_, arrA_none ?_⟩
      · cases v <;> first | exact (hv ⟨_, _, rfl⟩).elim | exact (h2 _ rfl).elim | (cases st <;> rfl)
      · intro n t x e
        cases v <;> first | exact (hv ⟨_, _, rfl⟩).elim | exact (h2 _ rfl).elim | (cases st <;> simp [AV.getP] at e)
theorem SameOff.one {v v' : AV} (h1 : ∀ t x, v = .pv t x → t = .bool) (h2 : ∀ fs, v ≠ .agg fs) (h3 : ∀ t x, v' = .pv t x → t = .bool) (h4 : ∀ fs, v' ≠ .agg fs) : SameOff v v' := by
  intro q
  rw [(offA_one h1 h2 q).1, (offA_one h1 h2 q).2, (offA_one h3 h4 q).1, (offA_one h3 h4 q).2]
  exact ⟨rfl, rfl⟩
end
end Go.Xr

set_option linter.unusedVariables false
set_option linter.unusedSimpArgs false
namespace Go.Xr
open Go

section
variable {w w' : World} {u : Value} {E : Bool → Nat → Prop} {I : Nat → Option BI}
def OneV (v : AV) : Prop := (∀ t x, v = .pv t x → t = .bool) ∧ (∀ fs, v ≠ .agg fs) ∧ v.csz = 1
def Alike1 (v u : AV) : Prop := (∃ t x y, v = .pv t x ∧ u = .pv t y) ∨ (OneV v ∧ OneV u)
theorem Alike1.csz {v u : AV} (h : Alike1 v u) : v.csz = u.csz := by
  rcases h with ⟨t, x, y, rfl, rfl⟩ | ⟨h1, h2⟩
  · rfl
  · rw [h1.2.2, h2.2.2]
theorem Alike1.same {v u : AV} (h : Alike1 v u) : SameOff v u := by
  rcases h with ⟨t, x, y, rfl, rfl⟩ | ⟨h1, h2⟩
  · exact .pv
  · exact .one h1.1 h1.2.1 h2.1 h2.2.1
theorem OneV.mk {v : AV} (h1 : ∀ t x, v ≠ .pv t x) (h2 : ∀ fs, v ≠ .agg fs) : OneV v := by
  refine ⟨fun t x e => (h1 t x e).elim, h2, ?_⟩
  cases v <;> first | rfl | exact (h1 _ _ rfl).elim
theorem oneBool {x : Bool} : OneV (.pv .bool x) := ⟨fun t y e => (by cases e; rfl), fun fs e => (by cases e), rfl⟩
theorem alike1_of {v u : AV} (h : v.alike u = true) (hv : ∀ fs, v ≠ .agg fs) : Alike1 v u := by
  have one : ∀ x : AV, (∀ t y, x ≠ .pv t y) → (∀ fs, x ≠ .agg fs) → OneV x := fun x h1 h2 => .mk h1 h2
  cases v <;> cases u <;> simp only [AV.alike] at h <;> first
    | (exact (hv _ rfl).elim)
    | (cases Ty.eqt_eq h; exact .inl ⟨_, _, _, rfl, rfl⟩)
    | (cases Ty.eqt_eq h; exact .inr ⟨oneBool, .mk (by intros; simp) (by intros; simp)⟩)
    | (cases Ty.eqt_eq h; exact .inr ⟨.mk (by intros; simp) (by intros; simp), oneBool⟩)
    | (cases h; done)
    | exact .inr ⟨.mk (by intros; simp) (by intros; simp), .mk (by intros; simp) (by intros; simp)⟩
theorem alikeL_of : ∀ (fs gs : List AV), AV.alike.alikeL fs gs = true → fs.length = gs.length ∧ ∀ k, Alike1 (nthD .undef fs k) (nthD .undef gs k)
  | [], [], _ => ⟨rfl, fun k => by cases k <;> exact .inr ⟨.mk (by intros; simp [nthD]) (by intros; simp [nthD]), .mk (by intros; simp [nthD]) (by intros; simp [nthD])⟩⟩
  | v :: r, u :: q, h => by
    have key : Alike1 v u ∧ AV.alike.alikeL r q = true := by
      cases v <;> cases u <;> simp only [AV.alike.alikeL, Bool.and_eq_true] at h <;> first
        | (cases h; done)
        | (obtain ⟨h1, h2⟩ := h; cases Ty.eqt_eq h1; exact ⟨.inl ⟨_, _, _, rfl, rfl⟩, h2⟩)
        | (obtain ⟨h1, h2⟩ := h; cases Ty.eqt_eq h1; exact ⟨.inr ⟨oneBool, .mk (by intros; simp) (by intros; simp)⟩, h2⟩)
        | (obtain ⟨h1, h2⟩ := h; cases Ty.eqt_eq h1; exact ⟨.inr ⟨.mk (by intros; simp) (by intros; simp), oneBool⟩, h2⟩)
        | exact ⟨.inr ⟨.mk (by intros; simp) (by intros; simp), .mk (by intros; simp) (by intros; simp)⟩, h⟩
    obtain ⟨h1, h2⟩ := alikeL_of r q key.2
    refine ⟨by simp [h1], fun k => ?_⟩
    cases k with
    | zero => exact key.1
    | succ k => exact h2 k
  | [], u :: _, h => by cases u <;> cases h
  | v :: r, [], h => by cases v <;> (try cases ‹NK›) <;> cases h
theorem cszL_same : ∀ (fs gs : List AV) (k : Nat), fs.length = gs.length → (∀ k, (nthD .undef fs k).csz = (nthD .undef gs k).csz) → cszL (fs.take k) = cszL (gs.take k)
  | [], [], k, _, _ => by simp
  | v :: r, u :: q, 0, _, _ => by simp
  | v :: r, u :: q, k + 1, hl, h => by
    have h0 := h 0
    have ih := cszL_same r q k (by simpa using hl) (fun k => h (k + 1))
    simp only [List.take_succ_cons, cszL, ih]
    rw [show v.csz = u.csz from h0]
  | [], _ :: _, _, hl, _ => by simp at hl
  | _ :: _, [], _, hl, _ => by simp at hl
theorem SameOff.agg {fs gs : List AV} (hl : fs.length = gs.length) (h : ∀ k, (nthD .undef fs k).csz = (nthD .undef gs k).csz ∧ SameOff (nthD .undef fs k) (nthD .undef gs k)) : SameOff (.agg fs) (.agg gs) := by
  intro q
  match q with
  | [] => exact ⟨rfl, by rw [arrA_none (fun n t x e => by simp [AV.getP] at e), arrA_none (fun n t x e => by simp [AV.getP] at e)]⟩
  | .idx i :: r => exact ⟨rfl, by rw [arrA_none (fun n t x e => by simp [AV.getP] at e), arrA_none (fun n t x e => by simp [AV.getP] at e)]⟩
  | .fld n :: r =>
    have := (h n).2 r
    refine ⟨?_, ?_⟩
    · simp only [offA, hl, this.1, cszL_same fs gs n hl fun k => (h k).1]
    · have e : ∀ fs, arrA (.fld n :: r) (.agg fs) = arrA r (nthD .undef fs n) := fun fs => by simp only [arrA, AV.getP]
      rw [e, e, this.2]
theorem alike_same {v u : AV} (h : v.alike u = true) : SameOff v u := by
  by_cases hv : ∃ fs, v = .agg fs
  · obtain ⟨fs, rfl⟩ := hv
    cases u <;> simp only [AV.alike] at h <;> first | (cases h; done) | skip
    obtain ⟨h1, h2⟩ := alikeL_of _ _ h
    exact .agg h1 fun k => ⟨(h2 k).csz, (h2 k).same⟩
  · exact (alike1_of h fun fs e => hv ⟨fs, e⟩).same
theorem cszL_all (fs gs : List AV) (hl : fs.length = gs.length) (h : ∀ k, (nthD .undef fs k).csz = (nthD .undef gs k).csz) : cszL fs = cszL gs := by
  have := cszL_same fs gs fs.length hl h
  rwa [List.take_length, hl, List.take_length] at this
theorem AVCL.length : ∀ (fs : List AV) (cs : List Value), AVCL w E I fs cs → cs.length = cszL fs
  | [], cs, h => by rw [AVCL_nil.1 h]; rfl
  | v :: r, cs, h => by
    obtain ⟨c1, c2, e, h1, h2⟩ := AVCL_cons.1 h
    rw [e, List.length_append, h1.len, AVCL.length r c2 h2]
    rfl
theorem VarC.len' {v : AV} {cs : List Value} (h : VarC w E I v cs) (hv : ∀ fs, v ≠ .agg fs) : cs.length = v.csz := by
  cases v with
  | agg fs => exact (hv _ rfl).elim
  | undef => obtain ⟨u, rfl, _⟩ := h; rfl
  | _ => exact AVC1.len h
theorem alike_len {v u : AV} {cs d : List Value} (h : v.alike u = true) (hv : VarC w E I v cs) (hu : VarC w E I u d) : cs.length = d.length := by
  by_cases hag : ∃ fs, v = .agg fs
  · obtain ⟨fs, rfl⟩ := hag
    cases u <;> simp only [AV.alike] at h <;> first | (cases h; done) | skip
    obtain ⟨h1, h2⟩ := alikeL_of _ _ h
    rw [AVCL.length _ _ hv, AVCL.length _ _ hu]
    exact cszL_all _ _ h1 fun k => (h2 k).csz
  · have h1 := alike1_of h fun fs e => hag ⟨fs, e⟩
    have hu' : ∀ fs, u ≠ .agg fs := by
      intro fs e
      subst e
      rcases h1 with ⟨t, x, y, _, e⟩ | ⟨_, h2⟩
      · cases e
      · exact h2.2.1 fs rfl
    rw [hv.len' fun fs e => hag ⟨fs, e⟩, hu.len' hu', h1.csz]
/-- A part of a variable is set. -/
theorem setP_spec : ∀ (p : List Stp) (v u v' : AV) (cs d : List Value) (o : Nat), VarC w E I v cs → VarC w E I u d → AV.setP p v u = some v' → offA p v = some o → ∃ cs', Put cs d cs' o ∧ VarC w E I v' cs' ∧ SameOff v' v
  | [], v, u, v', cs, d, o, hv, hu, hs, ho => by
    simp only [AV.setP] at hs
    simp only [offA, Option.some.injEq] at ho
    subst ho
    cases hal : v.alike u with
    | false => rw [hal] at hs; cases hs
    | true =>
      rw [hal] at hs
      simp only [cond_true, Option.some.injEq] at hs
      subst hs
      exact ⟨d, .all (alike_len hal hv hu), hu, fun q => ⟨((alike_same hal) q).1.symm, ((alike_same hal) q).2.symm⟩⟩
  | st :: p, .pv t x, .pv t' y, v', cs, d, o, hv, hu, hs, ho => by
    simp only [AV.setP, Option.map_eq_some_iff] at hs
    obtain ⟨x', hs, rfl⟩ := hs
    obtain ⟨cs', k1, k2⟩ := setT_spec t x none (st :: p) ⟨t', y⟩ cs d x' o hv hu hs ho
    exact ⟨cs', k1, k2, .pv⟩
  | st :: p, .pv t x, .lit y, v', cs, d, o, hv, hu, hs, ho => by
    simp only [AV.setP, Option.map_eq_some_iff] at hs
    obtain ⟨x', hs, rfl⟩ := hs
    obtain ⟨z, rfl, _, hz⟩ := hu
    rw [AVR_lit] at hz
    subst hz
    obtain ⟨cs', k1, k2⟩ := setT_spec t x none (st :: p) ⟨.bool, pB y⟩ cs [.bool y] x' o hv rfl hs ho
    exact ⟨cs', k1, k2, .pv⟩
  | .fld n :: p, .agg fs, u, v', cs, d, o, hv, hu, hs, ho => by
    simp only [AV.setP, Option.map_eq_some_iff] at hs
    obtain ⟨w1, hs, rfl⟩ := hs
    simp only [offA] at ho
    split at ho
    · rename_i hn
      simp only [Option.map_eq_some_iff] at ho
      obtain ⟨o', ho2, rfl⟩ := ho
      obtain ⟨c1, j1, j2⟩ := AVCL.sub fs cs n hv hn
      obtain ⟨c1', k1, k2, k3⟩ := setP_spec p (nthD .undef fs n) u w1 c1 d o' (.of_part j2) hu hs ho2
      have hpart : ∀ gs, nthD .undef fs n ≠ .agg gs := by
        intro gs e
        rw [e] at j2
        simp only [AVC1, partC] at j2
      have hw1 : AVC1 w E I w1 c1' := by
        cases p with
        | nil =>
          simp only [AV.setP] at hs
          cases hal : (nthD .undef fs n).alike u with
          | false => rw [hal] at hs; cases hs
          | true =>
            rw [hal] at hs
            simp only [cond_true, Option.some.injEq] at hs
            subst hs
            have h1 := alike1_of hal hpart
            cases u with
            | agg gs =>
              rcases h1 with ⟨t, x, y, _, e⟩ | ⟨_, h2⟩
              · cases e
              · exact (h2.2.1 gs rfl).elim
            | undef => simp [AV.alike] at hal; cases hn2 : nthD .undef fs n <;> rw [hn2] at hal <;> simp [AV.alike] at hal
            | _ => exact k2
        | cons st r =>
          generalize nthD .undef fs n = part at *
          cases part with
          | pv t x =>
            cases u <;> simp only [AV.setP, Option.map_eq_some_iff] at hs <;> first | (cases hs; done) | (obtain ⟨z, _, rfl⟩ := hs; exact k2)
          | agg gs => exact (hpart gs rfl).elim
          | _ => cases st <;> simp [AV.setP] at hs
      obtain ⟨v0, hv0⟩ : ∃ v0, nth fs n = some v0 := by rw [nth_eq]; exact ⟨_, List.getElem?_eq_getElem hn⟩
      obtain ⟨pre, c3, post, e1, e2, e3, e4⟩ := AVCL_set fs cs c1' n v0 w1 hv hv0 hw1
      have hv0' : nthD .undef fs n = v0 := by rw [nthD_eq, hv0]; rfl
      have hcl : c1'.length = c3.length := by rw [k1.len.1, e3, ← hv0', j2.len]
      have hput : Put cs c1' (pre ++ c1' ++ post) (cszL (fs.take n)) := ⟨pre, c3, post, e1, e2, hcl.symm, rfl⟩
      refine ⟨_, hput.trans k1 j1, e4, ?_⟩
      refine .agg (by simp) fun k => ?_
      have hset : nthD .undef (fs.set n w1) k = if n = k then w1 else nthD .undef fs k := by
        rw [nthD_eq, nth_set, nthD_eq]
        split
        · rename_i e; subst e; rw [hv0]; rfl
        · rfl
      rw [hset]
      split
      · rename_i e
        subst e
        refine ⟨?_, k3⟩
        rw [← hw1.len, k1.len.1, j2.len]
      · exact ⟨rfl, fun q => ⟨rfl, rfl⟩⟩
    · cases ho
  | .idx i :: p, .agg fs, u, v', cs, d, o, hv, hu, hs, ho => by simp [offA] at ho
  | st :: p, .pv t x, .undef, v', cs, d, o, hv, hu, hs, ho | st :: p, .pv t x, .nil _, v', cs, d, o, hv, hu, hs, ho | st :: p, .pv t x, .ptr _ _, v', cs, d, o, hv, hu, hs, ho
  | st :: p, .pv t x, .fad _ _, v', cs, d, o, hv, hu, hs, ho | st :: p, .pv t x, .sl _, v', cs, d, o, hv, hu, hs, ho | st :: p, .pv t x, .slr _ _ _, v', cs, d, o, hv, hu, hs, ho
  | st :: p, .pv t x, .asl _ _ _ _, v', cs, d, o, hv, hu, hs, ho | st :: p, .pv t x, .mp _, v', cs, d, o, hv, hu, hs, ho | st :: p, .pv t x, .clo _ _, v', cs, d, o, hv, hu, hs, ho
  | st :: p, .pv t x, .yld _, v', cs, d, o, hv, hu, hs, ho | st :: p, .pv t x, .agg _, v', cs, d, o, hv, hu, hs, ho | st :: p, .pv t x, .tup _, v', cs, d, o, hv, hu, hs, ho
  | st :: p, .pv t x, .cst _, v', cs, d, o, hv, hu, hs, ho => by simp [AV.setP] at hs
  | st :: p, .undef, u, v', cs, d, o, hv, hu, hs, ho | st :: p, .lit _, u, v', cs, d, o, hv, hu, hs, ho | st :: p, .nil _, u, v', cs, d, o, hv, hu, hs, ho | st :: p, .ptr _ _, u, v', cs, d, o, hv, hu, hs, ho
  | st :: p, .fad _ _, u, v', cs, d, o, hv, hu, hs, ho | st :: p, .sl _, u, v', cs, d, o, hv, hu, hs, ho | st :: p, .slr _ _ _, u, v', cs, d, o, hv, hu, hs, ho | st :: p, .asl _ _ _ _, u, v', cs, d, o, hv, hu, hs, ho
  | st :: p, .mp _, u, v', cs, d, o, hv, hu, hs, ho | st :: p, .clo _ _, u, v', cs, d, o, hv, hu, hs, ho | st :: p, .yld _, u, v', cs, d, o, hv, hu, hs, ho | st :: p, .tup _, u, v', cs, d, o, hv, hu, hs, ho
  | st :: p, .cst _, u, v', cs, d, o, hv, hu, hs, ho => by cases st <;> simp [offA] at ho
end
end Go.Xr

set_option linter.unusedVariables false
set_option linter.unusedSimpArgs false
namespace Go.Xr
open Go

section
variable {F : Fence} {n : Nat} {P : Program} {K : Kit} {o : Oper} {a : Act} {w w' : World} {Qx : Exit → Act → World → Prop} {u : Value}
variable {b : Base} {us : List (Array Value)} {c c' : Cx} {s s' : AS} {Q : Ex → AS → Prop} {T : TypeId} {call : Oper → AV → List AV → AS → Tree}
theorem Put.get {cs d cs' : List Value} {o : Nat} (h : Put cs d cs' o) (j : Nat) : cs'[j]? = if o ≤ j ∧ j < o + d.length then d[j - o]? else cs[j]? := by
  obtain ⟨pre, c1, post, rfl, h1, h2, rfl⟩ := h
  simp only [List.append_assoc]
  by_cases hj1 : j < o
  · rw [if_neg (by omega), List.getElem?_append_left (by omega), List.getElem?_append_left (by omega)]
  · by_cases hj2 : j < o + d.length
    · rw [if_pos (by omega), List.getElem?_append_right (by omega), List.getElem?_append_left (by omega), h1]
    · rw [if_neg (by omega), List.getElem?_append_right (by omega), List.getElem?_append_right (by omega), List.getElem?_append_right (by omega), List.getElem?_append_right (by omega), h2]
/-- memory behind a store -/
theorem setCells_put {blk base o : Nat} {T : TypeId} {lo hi : Nat} {arr : Array Value} {cs d cs' : List Value} (hb : w.heap[blk]? = some (.cells arr T (lo, hi))) (hfz : arr.size ≤ lo ∨ hi ≤ lo) (hcs : base + cs.length ≤ arr.size) (hrd : ∀ j v, cs[j]? = some v → arr[base + j]? = some v)
    (hp : Put cs d cs' o) (h1 : ∀ v ∈ d, v.oneCell' = true) :
    (storeCells ⟨blk, base + o, none⟩ d).run P w = .ok () (w.setCells blk (base + o) d) ∧ ∃ arr' : Array Value, arr'.size = arr.size ∧ (w.setCells blk (base + o) d).heap[blk]? = some (.cells arr' T (lo, hi)) ∧ (∀ j v, cs'[j]? = some v → arr'[base + j]? = some v) ∧ (∀ k, k < base ∨ base + cs.length ≤ k → arr'[k]? = arr[k]?) ∧
      (∀ k, k ≠ blk → (w.setCells blk (base + o) d).heap[k]? = w.heap[k]?) ∧ (w.setCells blk (base + o) d).heap.size = w.heap.size ∧ (w.setCells blk (base + o) d).os = w.os ∧ (w.setCells blk (base + o) d).tape = w.tape ∧ (w.setCells blk (base + o) d).output = w.output := by
  obtain ⟨hpl1, hpl2⟩ := hp.len
  obtain ⟨arr', g1, g2, g3, g4, g5, g6, g7, g8, g9⟩ := setCells_spec blk T (lo, hi) d (base + o) w arr hb (by omega)
  have hst := run_storeCells_cells (P := P) blk (base + o) d 0 w
    (fun j hj => by
      simp only [World.cell?, hb]
      have : base + o + j < arr.size := by omega
      simp
      exact this)
    (fun j hj => by
      simp only [World.frozen?, hb]
      have : base + o + 0 + j < arr.size := by omega
      simp
      omega) h1
  refine ⟨by simpa using hst, arr', g1, g4, ?_, fun k hk => g3 k (by omega), g5, g6, g7, g8, g9⟩
  intro j v hj
  rw [hp.get j] at hj
  split at hj
  · rename_i hr
    have := g2 _ v hj
    rwa [show base + o + (j - o) = base + j by omega] at this
  · rename_i hr
    rw [g3 (base + j) (by omega)]
    exact hrd j v hj
theorem VarC.one {E : Bool → Nat → Prop} {I : Nat → Option BI} {v : AV} {cs : List Value} (h : VarC w E I v cs) : ∀ z ∈ cs, z.oneCell' = true := by
  have part : ∀ (v : AV) (cs : List Value), AVC1 w E I v cs → ∀ z ∈ cs, z.oneCell' = true := by
    intro v cs h z hz
    cases v <;> simp only [AVC1, partC] at h <;> first
      | exact RepC.one _ _ _ h z hz
      | exact h.elim
      | (obtain ⟨u, rfl, h1, _⟩ := h; simp at hz; subst hz; exact h1)
  cases v with
  | undef => obtain ⟨u, rfl, h1⟩ := h; intro z hz; simp at hz; subst hz; exact h1
  | agg fs =>
    simp only [VarC] at h
    induction fs generalizing cs with
    | nil => rw [AVCL_nil.1 h]; intro z hz; cases hz
    | cons v r ih =>
      obtain ⟨c1, c2, e, h1, h2⟩ := AVCL_cons.1 h
      intro z hz
      rw [e] at hz
      rcases List.mem_append.1 hz with hz | hz
      · exact part v c1 h1 z hz
      · exact ih h2 z hz
  | _ => exact part _ cs h
theorem run_storeVar (hK : KitOK P K) {m : Nat} {g : Bool} (hT : K.sz T = some (m, g)) {ad : Addr} {v : Value} (hl : v.cells.toList.length = m) (hst : (storeCells ad v.cells.toList).run P w = .ok () w') : (storeVar T ad v).run P w = .ok () w' := by
  obtain ⟨h1, _⟩ := sz_spec hK hT
  have : v.cells.size = m := by simpa using hl
  simp only [storeVar, Sem.run_bind, h1, Result.andThen_ok, Sem.run_ite]
  rw [if_neg (by simpa using this), hst]
theorem rv_of_ne {v : AV} (h : ∀ k, v ≠ .cst k) (s : AS) : s.rv v = v := by cases v <;> first | rfl | exact (h _ rfl).elim
theorem VarC.notcst {E : Bool → Nat → Prop} {I : Nat → Option BI} {v : AV} {cs : List Value} (h : VarC w E I v cs) : ∀ k, v ≠ .cst k := fun k e => by subst e; exact (h : False).elim
theorem storeT_sound (hF : HF F) (hK : KitOK P K) (h : St c us s a) (hfr : Fr b c s) {x y : Operand} {i : Nat} {p : List Stp} (ho : o.op = .store T x y) (hX : s.ev x = .ptr i p) (hk : szEq (K.sz T) (s.ev y).sz = true)
    (hs : (storeT s o i p (s.ev y)).sat Q) : o.wpIn F n P a c.w (Abs b us Q) Qx := by
  have hd : ∀ c, o.op ≠ .defer c := by intro c; rw [ho]; simp
  have hx := h.ev x
  have hy := h.ev y
  rw [hX] at hx
  obtain ⟨m, g, e1, e2⟩ := szEq_spec hk
  have hyv : VarC c.w c.E (c.I s) (s.ev y) (a.eval y).cells.toList := AVR_VarC (by rw [e2]; rfl) hy
  have hyl := hyv.len e2
  generalize s.ev y = V at *
  simp only [AVR, PtrAt] at hx
  have fin : ∀ {bx : Bx} {blk off : Nat} {w2 : World}, a.eval x = .pointer (some ⟨blk, off, none⟩) → (storeCells ⟨blk, off, none⟩ (a.eval y).cells.toList).run P c.w = .ok () w2 →
      ({ c with w := w2 } : Cx).I (s.putBox i bx) i = c.I s i → Step1 c { c with w := w2 } s i → BoxOK { c with w := w2 } (s.putBox i bx) i (s.rb bx) → (skipT (s.putBox i bx) o).sat Q → o.wpIn F n P a c.w (Abs b us Q) Qx := by
    intro bx blk off w2 hux hst hI g hb hs
    refine step_skip (w' := w2) hF hd ?_ ⟨{ c with w := w2 }, _, rfl, hs, (h.setBox g (.inr hI) hb).putO (by simp only [AVR]) o.dst, (hfr.setBox g).putO o.dst .undef⟩
    simp only [execOp, ho, Instr.storeAt, Instr.sureAddr, hux, Sem.run_bind, Sem.run_pure, Result.andThen_ok, run_storeVar hK e1 hyl hst]
  have stp : ∀ {blk base off : Nat} {w2 : World}, s.box i ≠ none → c.ρ i = some (blk, base) → (∀ k, k ≠ blk → w2.heap[k]? = c.w.heap[k]?) → w2.heap.size = c.w.heap.size → w2.os = c.w.os → w2.tape = c.w.tape → w2.output = c.w.output → Step1 c { c with w := w2 } s i := by
    intro blk base off w2 hb hρ h1 h2 h3 h4 h5
    refine ⟨rfl, rfl, fun j _ => rfl, Nat.le_of_eq h2.symm, h3, h4, h5, fun k hk => ?_, fun z hz => ?_⟩
    · by_cases e : k = blk
      · exact .inr ⟨hb, base, by rw [hρ, e]⟩
      · exact .inl (h1 k e)
    · have hz : c.ρ i = some z := hz
      refine ⟨?_, .inr ⟨hb, z.2, hz⟩⟩
      show z.1 < w2.heap.size
      rw [h2]
      exact (h.own i z hb hz).1
  unfold storeT at hs
  split at hs
  -- a variable
  · rename_i v hb
    obtain ⟨blk, cs, T', h1, h2, h3⟩ := h.bx i _ hb
    have hI : c.I s i = some (.var blk (fun p => offA p (s.rv v)) (fun p => arrA p (s.rv v))) := by simp [Cx.I, boxI, hb, h1]
    simp only [hI] at hx
    obtain ⟨off, hoff, hux⟩ := hx
    split at hs
    · rename_i v' hset
      obtain ⟨cs', k1, k2, k3⟩ := setP_spec p (s.rv v) V v' cs _ off h3 hyv hset hoff
      obtain ⟨hst, arr', g1, g2, g3, _, g5, g6, g7, g8, g9⟩ := setCells_put (P := P) (base := 0) h2 (.inr (Nat.le_refl _)) (by simp) (by intro j z hj; simpa using hj) k1 hyv.one
      simp only [Nat.zero_add] at hst g2 g3 g5 g6 g7 g8 g9
      have harr : arr' = cs'.toArray := by
        apply Array.ext'
        apply List.ext_getElem?
        intro j
        cases hj : cs'[j]? with
        | some z => have := g3 j z hj; simpa using this
        | none =>
          have hle := List.getElem?_eq_none_iff.1 hj
          have e := k1.len.1
          simp at g1
          exact List.getElem?_eq_none (by simp; omega)
      have hne := k2.notcst
      refine fin (bx := .var v') hux hst ?_ (stp (base := 0) (off := off) (by rw [hb]; simp) h1 g5 g6 g7 g8 g9) ?_ hs
      · rw [hI]
        unfold Cx.I
        rw [box_put, if_pos rfl]
        show boxI _ (c.ρ i) _ (some (Bx.var v')) = _
        simp only [boxI, h1, Option.map_some]
        congr 2
        · funext q; rw [rv_of_ne hne]; exact (k3 q).1
        · funext q; rw [rv_of_ne hne]; exact (k3 q).2
      · have g : Step1 c { c with w := c.w.setCells blk off (a.eval y).cells.toList } s i := stp (base := 0) (off := off) (by rw [hb]; simp) h1 g5 g6 g7 g8 g9
        refine ⟨blk, cs', T', h1, by rw [← harr]; exact g2, ?_⟩
        rw [rv_of_ne hne]
        refine k2.mono (g.E h) ?_
        intro j hj
        by_cases e : j = i
        · left
          rw [e, hI]
          unfold Cx.I
          rw [box_put, if_pos rfl]
          show boxI _ (c.ρ i) _ (some (Bx.var v')) = _
          simp only [boxI, h1, Option.map_some]
          congr 2
          · funext q; rw [rv_of_ne hne]; exact (k3 q).1
          · funext q; rw [rv_of_ne hne]; exact (k3 q).2
        · exact .inl (g.I h j e)
    · exact hs.elim
  -- a row
  · rename_i t xs hb
    obtain ⟨hm, hbo⟩ := h.bx i _ hb
    have hI : c.I s i = some (.buf t (List.length xs) ((c.ρ i).map fun x => (x.1, x.2, roomOf c.w x.1 x.2))) := by simp [Cx.I, boxI, hb]
    simp only [hI] at hx
    obtain ⟨k, r, off, rfl, hoff, blk, base, room, hat, hk0, hk1, hux⟩ := hx
    rcases hbo with ⟨h1, _⟩ | ⟨blk', base', arr, T', lo, hi, cs, h1, h2, h3, h4, h5, h6⟩
    · rw [h1] at hat; cases hat
    · rw [h1] at hat
      simp only [Option.map_some, Option.some.injEq, Prod.mk.injEq] at hat
      obtain ⟨rfl, rfl, rfl⟩ := hat
      have hlt : Int.toNat k < List.length xs := toNat_lt' ⟨hk0, hk1⟩
      obtain ⟨c1, j1, j2⟩ := RepL.sub (RepC.len t) xs cs (Int.toNat k) t.dflt hlt h4
      have elem : ∀ v', AV.setP r (.pv t (pGet t.dflt xs k)) V = some v' → ∃ c1', Put c1 (a.eval y).cells.toList c1' off ∧ VarC c.w c.E (c.I s) v' c1' := by
        intro v' hset
        obtain ⟨c1', q1, q2, _⟩ := setP_spec r (.pv t (pGet t.dflt xs k)) V v' c1 _ off j2 hyv hset (by rw [offA_pv]; exact hoff)
        exact ⟨c1', q1, q2⟩
      have done : ∀ (y' : t.T) (c1' : List Value), Put c1 (a.eval y).cells.toList c1' off → RepC c.w c.E t y' c1' → (skipT (s.putBox i (.buf t (pSet xs k y'))) o).sat Q → o.wpIn F n P a c.w (Abs b us Q) Qx := by
        intro y' c1' q1 q2 hs
        obtain ⟨cs', g1, g2⟩ := RepL.put (RepC.len t) xs cs (Int.toNat k) y' c1' hlt h4 q2
        have hput := g1.trans q1 j1
        obtain ⟨hst, arr', f1, f2, f3, _, f5, f6, f7, f8, f9⟩ := setCells_put (P := P) h2 h3 h5 h6 hput hyv.one
        have hlen : List.length (pSet xs k y') = List.length xs := by simp [pSet]
        have g : Step1 c { c with w := c.w.setCells blk' (base' + (Int.toNat k * t.size + off)) (a.eval y).cells.toList } s i := stp (off := off) (by rw [hb]; simp) h1 f5 f6 f7 f8 f9
        refine fin (bx := .buf t (pSet xs k y')) hux hst ?_ g ?_ hs
        · rw [hI]
          unfold Cx.I
          rw [box_put, if_pos rfl]
          show boxI _ (c.ρ i) _ (some (Bx.buf t (pSet xs k y'))) = _
          simp only [boxI, h1, Option.map_some, hlen]
          have : roomOf (c.w.setCells blk' (base' + (Int.toNat k * t.size + off)) (a.eval y).cells.toList) blk' base' = roomOf c.w blk' base' := by simp [roomOf, f2, h2, f1]
          rw [this]
        · refine ⟨by rw [hlen]; exact hm, .inr ⟨blk', base', arr', T', lo, hi, cs', h1, f2, by rw [f1]; exact h3, RepL.mono (fun z cs hz => hz.mono (g.E h)) _ _ g2, by rw [f1, hput.len.1]; exact h5, f3⟩⟩
      have hs' := hs
      dsimp only at hs'
      split at hs'
      · rename_i t' y' hset
        split at hs'
        · rename_i e
          cases e
          obtain ⟨c1', q1, q2⟩ := elem _ hset
          exact done y' c1' q1 q2 hs'
        · exact hs'.elim
      · rename_i b' hset
        split at hs'
        · rename_i e
          cases e
          obtain ⟨c1', q1, q2⟩ := elem _ hset
          obtain ⟨z, rfl, _, hz⟩ := q2
          rw [AVR_lit] at hz
          subst hz
          exact done b' _ q1 rfl hs'
        · exact hs'.elim
      · exact hs'.elim
  · exact hs.elim
end
end Go.Xr

set_option linter.unusedVariables false
set_option linter.unusedSimpArgs false
namespace Go.Xr
open Go

section
variable {F : Fence} {n : Nat} {P : Program} {K : Kit} {o : Oper} {a : Act} {w w' : World} {Qx : Exit → Act → World → Prop} {u : Value}
variable {b : Base} {us : List (Array Value)} {c c' : Cx} {s s' : AS} {Q : Ex → AS → Prop} {T : TypeId} {call : Oper → AV → List AV → AS → Tree}
theorem buildSlice_sound (hF : HF F) (hK : KitOK P K) (h : St c us s a) (hfr : Fr b c s) {m : Nat} {ps : Array (Nat × Operand)} (ho : o.op = .buildSlice T m ps) (hs : (opT K call s o).sat Q) : o.wpIn F n P a c.w (Abs b us Q) Qx := by
  have hd : ∀ c, o.op ≠ .defer c := by intro c; rw [ho]; simp
  unfold opT at hs
  rw [ho] at hs
  simp only at hs
  split at hs
  · rename_i t hel
    obtain ⟨e, htd, hu, hty⟩ := elem_spec hK hel
    split at hs
    · rename_i l hl
      split at hs
      · rename_i xs hxs
        replace hs := sat_ok hs; obtain ⟨hk, hs⟩ := hs
        have hk := Nat.le_of_ble_eq_true hk
        obtain ⟨i, z, hi, hz, his, hby, h0, hzs, hzr⟩ := zero_elem (w := c.w) hty
        have hcells : (madeCells z.cells (m * i.size)).toList = (List.replicate m z.cells.toList).flatten := by
          rw [his, ← hzs, made_cells z.cells (by omega)]
        have hrow : AVCL c.w c.E (c.I s) (repL (.pv t t.dflt) m) (List.replicate m z.cells.toList).flatten := rep_row m _ (RepL_same hzr.any m)
        obtain ⟨cs', f1, f2⟩ := fill_spec (place := fun j => some (j * i.size, i.size)) h ps.toList _ l _ hrow hl (fun j v hv => by obtain ⟨q1, q2⟩ := repL_place m j v hv; rw [q1, q2, his])
        have hrep := rowOf_spec (s := s) l cs' xs f2 hxs
        have hmc : madeCells z.cells (m * i.size) = (List.replicate m z.cells.toList).flatten.toArray := by apply Array.ext'; rw [hcells]
        have hr : (Instr.buildSlice T m (ps.map fun x => (x.1, a.eval x.2))).run P c.w = .ok (.slice (some ⟨c.w.heap.size, 0, none⟩) m m) { c.w with heap := c.w.heap.push (.cells cs'.toArray e (0, 0)) } := by
          have n1 : ¬ (16777216 < m * i.size) := by rw [his]; have : m * t.size ≤ 16777216 := hk; omega
          have hf : Instr.fill (fun j => some (j * i.size, i.size)) (madeCells z.cells (m * i.size)) (ps.map fun x => (x.1, a.eval x.2)).toList = some cs'.toArray := by rw [parts_map, hmc]; exact f1
          by_cases e0 : m * i.size = 0
          · rw [e0] at hf
            have hmk : madeCells z.cells 0 = #[] := by simp [madeCells, Array.range_zero']
            rw [hmk] at hf
            simp [Instr.buildSlice, underlying_of hu, run_size hi, e0, Array.range_zero', -Array.toList_map, hf, newRow, newObj]
            rfl
          · unfold madeCells at hf
            simp [Instr.buildSlice, underlying_of hu, run_size hi, e0, n1, zeroValue, typeInfo, hi, hz, -Array.toList_map, hf, newRow, newObj]
            rfl
        have hlen : List.length xs = m := by
          have h1 : ∀ (l : List AV) (xs : List t.T), rowOf s t l = some xs → xs.length = l.length := by
            intro l
            induction l with
            | nil => intro xs h; simp only [rowOf, Option.some.injEq] at h; subst h; rfl
            | cons v r ih =>
              intro xs h
              simp only [rowOf] at h
              split at h
              · split at h
                · rename_i q hq
                  cases h
                  simp [ih _ hq]
                · cases h
              · cases h
          rw [h1 l xs hxs]
          have : ∀ (ps : List (Nat × Operand)) (l l' : List AV), partsL s l ps = some l' → l'.length = l.length := by
            intro ps
            induction ps with
            | nil => intro l l' h; simp only [partsL, Option.some.injEq] at h; rw [h]
            | cons y r ih =>
              intro l l' h
              obtain ⟨i, y⟩ := y
              simp only [partsL] at h
              split at h
              · rename_i v hv
                cases hf : AV.fits v (s.ev y) with
                | true => rw [hf] at h; rw [ih _ _ h]; simp
                | false => rw [hf] at h; cases h
              · cases h
          rw [this _ _ _ hl]
          have : ∀ (z : AV) (m : Nat), (repL z m).length = m := by
            intro z m
            induction m with
            | zero => rfl
            | succ m ih => simp [repL, ih]
          exact this _ _
        have hcl := RepL.len (RepC.len t) _ _ hrep
        obtain ⟨c', hw, h1, h2, h3⟩ := h.newBuf hfr (i := siteT s o) (d := c.w.drawn) (T := e) (lo := 0) (hi := 0) (xs := xs) (cs := cs') (rest := []) (cap := m)
          (by rw [hlen]; unfold maxL; have : m * 1 ≤ m * t.size := Nat.mul_le_mul_left m h0; have : m * t.size ≤ 16777216 := hk; omega) hrep (.inr (Nat.le_refl _)) (by rw [hlen]; exact Nat.le_refl _) (by
            rw [List.append_nil, hcl, hlen]
            exact Nat.le_refl _)
        rw [hlen] at h3
        refine mem_done hF hd hs ?_ h1 h2 h3
        simp only [execOp, ho, Sem.run_bind, hr, Result.andThen_ok, Sem.run_pure, hw, List.append_nil]
      · exact hs.elim
    · exact hs.elim
  · exact hs.elim
theorem convBytes_sound (hF : HF F) (hK : KitOK P K) (h : St c us s a) (hfr : Fr b c s) {D : TypeId} {x : Operand} (ho : o.op = .convert T D x)
    (hs : (convT K s o T D (s.ev x)).sat Q) (hno : ∃ e, K.td D = .slice e) : o.wpIn F n P a c.w (Abs b us Q) Qx := by
  have hd : ∀ c, o.op ≠ .defer c := by intro c; rw [ho]; simp
  have hx := h.ev x
  obtain ⟨e, hD⟩ := hno
  unfold convT at hs
  rw [hD] at hs
  split at hs
  · rename_i k k' y hD' _; cases hD'
  · rename_i hD'; cases hD'
  · rename_i e' xs hD' hX
    rw [hX] at hx
    split at hs
    · rename_i t hel
      replace hs := sat_ok hs; obtain ⟨hk, hs⟩ := hs
      simp only [Bool.and_eq_true] at hk
      obtain ⟨hts, hk⟩ := hk
      cases Ty.eqt_eq hk
      obtain ⟨e, htd, hu, hty⟩ := elem_spec hK hel
      obtain ⟨z, hz, hz1, hz2⟩ := AVR_str.1 hx
      have hsrc : ∃ d, P.underlying T = some d := by
        split at hts
        · rename_i ht; exact ⟨_, pure_str hK ht⟩
        · cases hts
      obtain ⟨d, hT⟩ := hsrc
      have hue := tyB_int hty
      let cap := (Question.appendCap z.size 0 e).cut (c.w.tape c.w.drawn (.appendCap z.size 0 e))
      have hcap : z.size ≤ cap := by simp [cap, Question.cut]
      let cs : List Value := z.data.toList.map fun b => .int .u8 b.toNat
      let rest : List Value := List.replicate (cap - z.size) (.int .u8 0)
      have hcl : cs.length = z.size := by simp [cs]
      have hall : (cs ++ rest).length = cap := by simp [cs, rest]; omega
      have hrep : RepL (RepC c.w c.E (.int .u8)) (z.data.toList.map fun b => (b.toNat : Int)) cs := by
        have : ∀ l : List UInt8, RepL (RepC c.w c.E (.int .u8)) (l.map fun b => (b.toNat : Int)) (l.map fun b => .int .u8 b.toNat) := by
          intro l
          induction l with
          | nil => rfl
          | cons x r ih => exact ⟨[.int .u8 x.toNat], _, rfl, ⟨rfl, u8_has x⟩, ih⟩
        exact this _
      have hll : List.length (z.data.toList.map fun b => (b.toNat : Int)) = z.size := by simp
      obtain ⟨c', hw, h1, h2, h3⟩ := h.newBuf hfr (i := siteT s o) (d := c.w.drawn + 1) (T := e) (lo := cap) (hi := cap + 1) (t := .int .u8) (xs := z.data.toList.map fun b => (b.toNat : Int)) (cs := cs) (rest := rest) (cap := cap)
        (by rw [hll]; exact hz2) hrep (.inl (by rw [hall]; exact Nat.le_refl _)) (by rw [hll]; exact hcap) (by
          rw [hall]
          show cap * 1 ≤ cap
          omega)
      rw [hll] at h3
      subst hz1
      refine mem_done hF hd hs ?_ h1 h2 h3
      have harr : z.data.map (fun b => Value.int .u8 b.toNat) ++ Array.replicate (cap - z.size) (Value.int .u8 0) = (cs ++ rest).toArray := by
        apply Array.ext'
        simp [cs, rest]
      have hconv : (Conv.stringToBytes e z).run P c.w = .ok (.slice (some ⟨c.w.heap.size, 0, none⟩) z.size cap) c'.w := by
        rw [hw]
        unfold Conv.stringToBytes
        simp only [Sem.run_bind, run_choose, Question.forced, Bool.false_eq_true, if_false, Result.andThen_ok]
        show ((newRow e (z.data.map (fun b => Value.int .u8 b.toNat) ++ Array.replicate (cap - z.size) (Value.int .u8 0))).run P { c.w with drawn := c.w.drawn + 1 }).andThen _ = _
        rw [harr]
        have hrow : (newRow e (cs ++ rest).toArray).run P { c.w with drawn := c.w.drawn + 1 } = .ok ⟨c.w.heap.size, 0, none⟩ { c.w with heap := c.w.heap.push (.cells (cs ++ rest).toArray e (0, 0)), drawn := c.w.drawn + 1 } := rfl
        rw [hrow]
        simp only [Result.andThen_ok]
        have hmk : (markStringish ⟨c.w.heap.size, 0, none⟩).run P { c.w with heap := c.w.heap.push (.cells (cs ++ rest).toArray e (0, 0)), drawn := c.w.drawn + 1 } = .ok () { c.w with heap := c.w.heap.push (.cells (cs ++ rest).toArray e (cap, cap + 1)), drawn := c.w.drawn + 1 } := by
          have hsz : ({ c.w with heap := c.w.heap.push (.cells (cs ++ rest).toArray e (0, 0)), drawn := c.w.drawn + 1 } : World).shape? c.w.heap.size = some (e, cap) := by
            simp [World.shape?]
            simpa using hall
          simp only [markStringish, Sem.run_bind, run_shape, hsz, Result.andThen_ok, run_freeze]
          congr 1
          unfold World.freeze
          rw [if_neg (by omega)]
          congr 1
          apply Array.ext
          · simp
          · intro k h1 h2
            rw [Array.getElem_modify]
            split
            · rename_i e1
              subst e1
              simp
            · rename_i e1
              simp at h1
              dsimp only at e1
              have : k < c.w.heap.size := by omega
              simp [Array.getElem_push, this]
        rw [hmk]
        rfl
      simp only [execOp, ho, hz, Sem.run_bind]
      simp only [convert, Sem.run_bind, underlying_of hT, underlying_of hu, underlying_of hue, Result.andThen_ok, hconv, Sem.run_pure]
    · exact hs.elim
  · exact hs.elim
end
end Go.Xr

set_option linter.unusedVariables false
set_option linter.unusedSimpArgs false
namespace Go.Xr
open Go

section
variable {F : Fence} {n : Nat} {P : Program} {K : Kit} {o : Oper} {a : Act} {w w' : World} {Qx : Exit → Act → World → Prop} {u : Value}
variable {b : Base} {us : List (Array Value)} {c c' : Cx} {s s' : AS} {Q : Ex → AS → Prop} {T : TypeId} {call : Oper → AV → List AV → AS → Tree}
def CallSound (F : Fence) (n : Nat) (P : Program) (call : Oper → AV → List AV → AS → Tree) : Prop :=
  ∀ {o : Oper} {cl : Call} {x : Operand} {a : Act} {c : Cx} {s : AS} {b : Base} {us : List (Array Value)} {Q : Ex → AS → Prop} {Qx : Exit → Act → World → Prop},
    o.op = .call cl → cl.callee = .value x → St c us s a → Fr b c s → (call o (s.ev x) (cl.args.toList.map s.ev) s).sat Q → o.wpIn F n P a c.w (Abs b us Q) Qx
theorem builtinT_sound (hF : HF F) (hK : KitOK P K) (h : St c us s a) (hfr : Fr b c s) {cl : Call} {bi : Builtin} (ho : o.op = .call cl) (hc : cl.callee = .builtin bi) (hs : (builtinT K s o bi cl.argTypes.toList (cl.args.toList.map s.ev)).sat Q) :
    o.wpIn F n P a c.w (Abs b us Q) Qx := by
  generalize hTs : cl.argTypes.toList = Ts at hs
  generalize hXs : cl.args.toList.map s.ev = Xs at hs
  unfold builtinT at hs
  split at hs
  · obtain ⟨x, e1, rfl⟩ := map1 hXs
    exact (lenT_sound hF hK h hfr ho hc (toList1 hTs) (toList1 e1) hs).1
  · obtain ⟨x, y, e1, rfl, rfl⟩ := map2 hXs
    exact appendT_sound hF hK h hfr ho hc (toList2 hTs) (toList2 e1) hs
  · obtain ⟨x, y, e1, rfl, rfl⟩ := map2 hXs
    exact (minmaxT_sound hF h hfr (mx := false) ho hc (toList2 e1) hs).1
  · obtain ⟨x, y, e1, rfl, rfl⟩ := map2 hXs
    exact (minmaxT_sound hF h hfr (mx := true) ho hc (toList2 e1) hs).1
  · exact hs.elim
theorem opT_sound (hF : HF F) (hK : KitOK P K) (hcall : CallSound F n P call) (h : St c us s a) (hfr : Fr b c s) (hs : (opT K call s o).sat Q) : o.wpIn F n P a c.w (Abs b us Q) Qx := by
  have hs0 := hs
  unfold opT at hs
  cases ho : o.op with
  | move x => rw [ho] at hs; exact (move_sound hF h hfr (.inl ho) hs).1
  | assign x =>
    rw [ho] at hs
    simp only at hs
    split at hs
    · rename_i hX
      split at hs
      · exact assignNil_sound hF hK h hfr ho hX hs
      · exact hs.elim
    · exact (move_sound hF h hfr (.inr ho) hs).1
  | pick x y z => exact (pick_sound hF h hfr ho hs0).1
  | alloc T => exact alloc_sound hF hK h hfr ho hs0
  | box T x => exact box_sound hF h hfr ho hs0
  | build T ps => rw [ho] at hs; exact build_sound hF hK h hfr ho hs
  | buildSlice T m ps => exact buildSlice_sound hF hK h hfr ho hs0
  | load T x => rw [ho] at hs; exact loadT_sound hF hK h hfr ho hs
  | store T x y =>
    rw [ho] at hs
    simp only at hs
    split at hs
    · rename_i i p hX
      replace hs := sat_ok hs; obtain ⟨hk, hs⟩ := hs
      exact storeT_sound hF hK h hfr ho hX hk hs
    · exact hs.elim
  | nilCheck x => exact (nilCheck_sound hF h hfr ho hs0).1
  | binOp op T x y T' =>
    rw [ho] at hs
    simp only at hs
    unfold eqnT at hs
    split at hs
    · rename_i hy
      exact (nilT_sound (bb := true) hF hK h hfr ho hy hs).1
    · rename_i hy
      exact (nilT_sound (bb := false) hF hK h hfr ho hy hs).1
    · exact (binT_sound hF hK h hfr ho hs).1
  | unOp op T x => rw [ho] at hs; exact (unT_sound hF h hfr ho hs).1
  | convert T D x =>
    rw [ho] at hs
    by_cases hD : ∃ e, K.td D = .slice e
    · exact convBytes_sound hF hK h hfr ho hs hD
    · exact convT_sound1 hF hK h hfr ho hs (fun e he => hD ⟨e, he⟩)
  | makeSlice T l m => exact makeSlice_sound hF hK h hfr ho hs0
  | slice T x lo hi mx =>
    rw [ho] at hs
    cases mx with
    | none => exact (sliceT_sound hF hK h hfr ho hs).1
    | some _ => exact hs.elim
  | fieldAddr T x f => rw [ho] at hs; exact (fieldAddrT_sound hF hK h hfr ho hs).1
  | field T x f => exact (fieldT_sound hF hK h hfr ho hs0).1
  | indexAddr T x i => rw [ho] at hs; exact (idxAddrT_sound hF hK h hfr ho hs).1
  | index T x i => exact (indexT_sound hF hK h hfr ho hs0).1
  | extract x i => exact (extract_sound hF h hfr ho hs0).1
  | makeFunc fn first cs => exact (makeFunc_sound hF h hfr ho hs0).1
  | call cl =>
    rw [ho] at hs
    simp only at hs
    split at hs
    · rename_i bi hc
      exact builtinT_sound hF hK h hfr ho hc hs
    · rename_i x hc
      exact hcall ho hc h hfr hs
    · exact hs.elim
  | _ => rw [ho] at hs; exact hs.elim
/-! guards -/
theorem St.refine (h : St c us s a) {d : Nat} {v : AV} (hv : ∀ x, nth s.tm d = some x → AVR c.w c.E (c.I s) v (a.tmps.getD d undef)) : St c us (s.put d v) a := by
  by_cases hd : (nth s.tm d).isSome
  · obtain ⟨x, hx⟩ := Option.isSome_iff_exists.1 hd
    have := h.put (hv x hx) d
    have e : a.put (some d) (a.tmps.getD d undef) = a := by
      have hlt := (h.tm d x hx).1
      cases a with
      | mk tmps defers =>
        simp only [Act.put, Act.mk.injEq, and_true]
        apply Array.ext
        · simp
        · intro i h1 h2
          rw [Array.getElem_setIfInBounds]
          split
          · rename_i e; subst e; simp [Array.getD, h2]
          · rfl
    rwa [e] at this
  · have e : s.put d v = s := by
      have : s.tm.set d v = s.tm := by
        have hn : nth s.tm d = none := by simpa using hd
        rw [nth_eq, List.getElem?_eq_none_iff] at hn
        exact List.set_eq_of_length_le hn
      unfold AS.put
      rw [this]
    rw [e]
    exact h
theorem Fr.refine (h : Fr b c s) (d : Nat) (v : AV) : Fr b c (s.put d v) := h.put d v
theorem skip_abs (h : St c us s a) (hfr : Fr b c s) {d : Option Nat} (hs : Q .normal (s.putO d .undef)) : Abs b us Q (a.put d undef) c.w :=
  ⟨c, _, rfl, hs, h.putO (by simp only [AVR]) d, hfr.putO d .undef⟩
end
end Go.Xr

set_option linter.unusedVariables false
set_option linter.unusedSimpArgs false
namespace Go.Xr
open Go

section
variable {F : Fence} {n : Nat} {P : Program} {K : Kit} {o : Oper} {a : Act} {w w' : World} {Qx : Exit → Act → World → Prop} {u : Value}
variable {b : Base} {us : List (Array Value)} {c c' : Cx} {s s' : AS} {Q : Ex → AS → Prop} {T : TypeId} {call : Oper → AV → List AV → AS → Tree}
theorem convInt_still (hK : KitOK P K) (h : St c us s a) {D : TypeId} {k : IntKind} {x : Operand} (ho : o.op = .convert T D x) (hD : K.td D = .pure (.int k)) (hs : (convT K s o T D (s.ev x)).sat Q) :
    ∃ u, ∀ w', (execOp a.eval o).run P w' = .ok (.value u) w' := by
  have hx := h.ev x
  have he : execOp a.eval o = (do let v ← convert T D (a.eval x); pure (.value v)) := by simp only [execOp, ho]
  generalize s.ev x = X at *
  unfold convT at hs
  rw [hD] at hs
  split at hs
  · rename_i k1 k2 y e1
    cases e1
    obtain ⟨hk, hs⟩ := sat_ok hs
    split at hk
    · rename_i t ht
      refine ⟨.int k (k.wrap y), fun w' => ?_⟩
      rw [he, (AVR_int.1 hx).1]
      have hu := tyB_int (td_pure hK hD).1
      have hT : ∃ d, P.underlying T = some d := by
        obtain ⟨hT, _⟩ := td_pure hK ht
        cases t with
        | int k => exact ⟨_, tyB_int hT⟩
        | bool => exact ⟨_, tyB_bool hT⟩
        | str => exact ⟨_, tyB_str hT⟩
        | unit => simp [tyB] at hT
        | pair a b => simp [tyB] at hT
        | st a => obtain ⟨fs, hu, _⟩ := tyB_st hT; exact ⟨_, hu⟩
        | arr n a => obtain ⟨e, hu, _⟩ := tyB_arr hT; exact ⟨_, hu⟩
        | sl b a => obtain ⟨e, hu, _⟩ := tyB_sl hT; exact ⟨_, hu⟩
      obtain ⟨d, hT⟩ := hT
      simp [convert, underlying_of hT, underlying_of hu, Conv.intToInt]
    · cases hk
  · rename_i e1; cases e1
  · rename_i e1; cases e1
  · exact hs.elim
/-- An operation of class 0 looks at no memory. -/
theorem opT_pure (hF : HF F) (hK : KitOK P K) (h : St c us s a) (hfr : Fr b c s) (hc : clsOp K o = 0) (hs : (opT K call s o).sat Q) :
    ∃ u, ∀ w', (execOp a.eval o).run P w' = .ok (.value u) w' := by
  have hs0 := hs
  unfold opT at hs
  unfold clsOp at hc
  cases ho : o.op with
  | move x => rw [ho] at hs; exact (move_sound (F := F) (n := 0) (Qx := fun _ _ _ => True) hF h hfr (.inl ho) hs).2
  | assign x => exact ⟨a.eval x, fun w' => by simp only [execOp, ho]; rfl⟩
  | pick x y z => exact (pick_sound (F := F) (n := 0) (Qx := fun _ _ _ => True) hF h hfr ho hs0).2
  | nilCheck x => exact (nilCheck_sound (F := F) (n := 0) (Qx := fun _ _ _ => True) hF h hfr ho hs0).2
  | binOp op T x y T' =>
    rw [ho] at hs
    simp only at hs
    unfold eqnT at hs
    split at hs
    · rename_i hy
      exact (nilT_sound (F := F) (n := 0) (Qx := fun _ _ _ => True) (bb := true) hF hK h hfr ho hy hs).2
    · rename_i hy
      exact (nilT_sound (F := F) (n := 0) (Qx := fun _ _ _ => True) (bb := false) hF hK h hfr ho hy hs).2
    · exact (binT_sound (F := F) (n := 0) (Qx := fun _ _ _ => True) hF hK h hfr ho hs).2
  | unOp op T x => rw [ho] at hs; exact (unT_sound (F := F) (n := 0) (Qx := fun _ _ _ => True) hF h hfr ho hs).2
  | convert T D x =>
    rw [ho] at hs hc
    simp only at hc
    split at hc
    · rename_i k hD
      exact convInt_still hK h ho hD hs
    · cases hc
  | slice T x lo hi mx =>
    rw [ho] at hs
    cases mx with
    | none => exact (sliceT_sound (F := F) (n := 0) (Qx := fun _ _ _ => True) hF hK h hfr ho hs).2
    | some _ => exact hs.elim
  | fieldAddr T x f => rw [ho] at hs; exact (fieldAddrT_sound (F := F) (n := 0) (Qx := fun _ _ _ => True) hF hK h hfr ho hs).2
  | field T x f => exact (fieldT_sound (F := F) (n := 0) (Qx := fun _ _ _ => True) hF hK h hfr ho hs0).2
  | indexAddr T x i => rw [ho] at hs; exact (idxAddrT_sound (F := F) (n := 0) (Qx := fun _ _ _ => True) hF hK h hfr ho hs).2
  | index T x i => exact (indexT_sound (F := F) (n := 0) (Qx := fun _ _ _ => True) hF hK h hfr ho hs0).2
  | extract x i => exact (extract_sound (F := F) (n := 0) (Qx := fun _ _ _ => True) hF h hfr ho hs0).2
  | makeFunc fn first cs => exact (makeFunc_sound (F := F) (n := 0) (Qx := fun _ _ _ => True) hF h hfr ho hs0).2
  | call cl =>
    rw [ho] at hs hc
    simp only at hs
    split at hs
    · rename_i bi hcal
      obtain ⟨callee, args, ty⟩ := cl
      simp only at hcal
      generalize hTs : Call.argTypes _ = Ts at hs
      generalize hXs : List.map s.ev _ = Xs at hs
      unfold builtinT at hs
      split at hs
      · obtain ⟨x, e1, rfl⟩ := map1 hXs
        exact (lenT_sound (F := F) (n := 0) (Qx := fun _ _ _ => True) hF hK h hfr ho hcal (toList1 (by rw [hTs]; assumption)) (toList1 e1) hs).2
      · subst hcal; simp at hc
      · obtain ⟨x, y, e1, rfl, rfl⟩ := map2 hXs
        exact (minmaxT_sound (F := F) (n := 0) (Qx := fun _ _ _ => True) hF h hfr (mx := false) ho hcal (toList2 e1) hs).2
      · obtain ⟨x, y, e1, rfl, rfl⟩ := map2 hXs
        exact (minmaxT_sound (F := F) (n := 0) (Qx := fun _ _ _ => True) hF h hfr (mx := true) ho hcal (toList2 e1) hs).2
      · exact hs.elim
    · rename_i x hcal
      obtain ⟨callee, args, ty⟩ := cl
      simp only at hcal
      subst hcal
      simp at hc
    · exact hs.elim
  | _ => rw [ho] at hc; simp at hc
/-- Blocks stay as they are. -/
def Keeps (w w' : World) : Prop := ∀ (k : Nat) (x : Obj), w.heap[k]? = some x → w'.heap[k]? = some x
theorem Keeps.refl (w : World) : Keeps w w := fun _ _ h => h
theorem Reads.keeps {blk off : Nat} {cs : List Value} (hk : Keeps w w') (h : Reads w blk off cs) : Reads w' blk off cs := by
  intro j v hj
  have h1 := h j v hj
  cases hb : w.heap[blk]? with
  | none => simp [World.cell?, hb] at h1
  | some x => rw [World.cell?_of_block (a := ⟨blk, off + j, none⟩) (show w'.heap[blk]? = w.heap[blk]? by rw [hb, hk _ _ hb])]; exact h1
/-- What a load reads. -/
theorem load_still (hK : KitOK P K) (h : St c us s a) {x : Operand} (ho : o.op = .load T x) (hs : (loadT K s o T (s.ev x)).sat Q) :
    (∃ u, ∀ w', Keeps c.w w' → (execOp a.eval o).run P w' = .ok (.value u) w') ∧
    (isFad (s.ev x) = true → ∃ u, ∀ w', (∀ k, c.E true k → w'.heap[k]? = c.w.heap[k]?) → (execOp a.eval o).run P w' = .ok (.value u) w') := by
  have hx := h.ev x
  have he : execOp a.eval o = (do let v ← Instr.loadAt T (a.eval x); pure (.value v)) := by simp only [execOp, ho]
  generalize s.ev x = X at *
  unfold loadT at hs
  split at hs
  · rename_i t y
    obtain ⟨hk, hs⟩ := sat_ok hs
    obtain ⟨m, g, e1, e2⟩ := szEq_spec hk
    cases e2
    obtain ⟨b', blk, off, cs, hu, hE, hr, hc⟩ := AVR_fad.1 hx
    have hv : VarC c.w c.E (c.I s) (.pv t y) cs := hr
    obtain ⟨z, hz, hz2⟩ := hv.out rfl (fun hg => by rw [hg] at e1; exact sz_one hK e1)
    have key : ∀ w', Reads w' blk off cs → (execOp a.eval o).run P w' = .ok (.value z) w' := fun w' hw' => by
      rw [he, hu]
      simp only [Instr.loadAt, Instr.sureAddr, Sem.run_bind, Sem.run_pure, Result.andThen_ok, run_loadVar_reads hK e1 (RepC.len t _ _ hr) hw' hz]
    refine ⟨⟨z, fun w' hw' => key w' (hc.keeps hw')⟩, fun _ => ⟨z, fun w' hw' => key w' (hc.of_block (hw' blk ?_))⟩⟩
    rcases hE with hE | ⟨_, hE⟩
    · exact .inl hE
    · exact .inr ⟨rfl, hE⟩
  · rename_i i p
    obtain ⟨hk, hs⟩ := sat_ok hs
    obtain ⟨m, g, e1, e2⟩ := szEq_spec hk
    have hne : s.at_ i p ≠ .undef := by intro e; rw [e] at e2; simp [AV.sz] at e2
    obtain ⟨blk, o', cs, hu, hc, hv, _⟩ := place h hx hne
    obtain ⟨z, hz, hz2⟩ := hv.out e2 (fun hg => by rw [hg] at e1; exact sz_one hK e1)
    refine ⟨⟨z, fun w' hw' => ?_⟩, fun e => (by cases e)⟩
    rw [he, hu]
    simp only [Instr.loadAt, Instr.sureAddr, Sem.run_bind, Sem.run_pure, Result.andThen_ok, run_loadVar_reads hK e1 (hv.len e2) (hc.keeps hw') hz]
  · exact hs.elim
/-! what only makes memory -/
def Grow {α : Type} : Sem α → Prop
  | .pure _ => True | .halt _ => True
  | .program k => ∀ p, Grow (k p)
  | .mark _ k => Grow k
  | .new _ k => ∀ r, Grow (k r)
  | .choose _ k => ∀ r, Grow (k r)
  | _ => False
theorem Grow.bind {α β : Type} {f : α → Sem β} (hf : ∀ a, Grow (f a)) : ∀ x : Sem α, Grow x → Grow (x.bind f)
  | .pure a, _ => hf a
  | .halt _, _ => trivial
  | .program k, h => fun p => Grow.bind hf (k p) (h p)
  | .mark _ k, h => Grow.bind hf k h
  | .new _ k, h => fun r => Grow.bind hf (k r) (h r)
  | .choose _ k, h => fun r => Grow.bind hf (k r) (h r)
  | .load .., h => h.elim
  | .store .., h => h.elim
  | .shape .., h => h.elim
  | .freeze .., h => h.elim
  | .frozen .., h => h.elim
  | .getObj .., h => h.elim
  | .setObj .., h => h.elim
  | .sys .., h => h.elim
theorem Grow.bind' {α β : Type} {x : Sem α} {f : α → Sem β} (hx : Grow x) (hf : ∀ a, Grow (f a)) : Grow (x >>= f) := Grow.bind hf x hx
theorem Grow.keeps {α : Type} : ∀ (x : Sem α) (w w' : World) (v : α), Grow x → x.run P w = .ok v w' → Keeps w w'
  | .pure a, w, w', v, _, h => by
    simp only [Sem.run, Result.ok.injEq] at h
    rw [h.2]
    exact Keeps.refl _
  | .halt _, w, w', v, _, h => by cases h
  | .program k, w, w', v, hg, h => Grow.keeps (k P) w w' v (hg P) h
  | .mark _ k, w, w', v, hg, h => Grow.keeps k w w' v hg h
  | .new obj k, w, w', v, hg, h => by
    have := Grow.keeps (k w.heap.size) _ w' v (hg _) h
    intro j x hj
    refine this j x ?_
    have hlt := (Array.getElem?_eq_some_iff.1 hj).1
    show (w.heap.push obj)[j]? = some x
    rw [Array.getElem?_push_lt hlt]
    exact ((Array.getElem?_eq_some_iff.1 hj).2 ▸ rfl)
  | .choose q k, w, w', v, hg, h => by
    simp only [Sem.run] at h
    split at h
    · exact Grow.keeps (k 0) w w' v (hg _) h
    · have := Grow.keeps _ _ w' v (hg _) h
      exact fun j x hj => this j x hj
  | .load .., _, _, _, h, _ => h.elim
  | .store .., _, _, _, h, _ => h.elim
  | .shape .., _, _, _, h, _ => h.elim
  | .freeze .., _, _, _, h, _ => h.elim
  | .frozen .., _, _, _, h, _ => h.elim
  | .getObj .., _, _, _, h, _ => h.elim
  | .setObj .., _, _, _, h, _ => h.elim
  | .sys .., _, _, _, h, _ => h.elim
theorem grow_pure {α : Type} (x : α) : Grow (pure x : Sem α) := trivial
theorem grow_stuck {α : Type} {e : String} : Grow (stuck e : Sem α) := trivial
theorem grow_program {α : Type} {f : Program → Sem α} (h : ∀ p, Grow (f p)) : Grow (program >>= f) := fun p => h p
theorem grow_typeInfo : Grow (typeInfo T) := by
  refine grow_program fun p => ?_
  split <;> trivial
theorem grow_underlying : Grow (underlying T) := by
  refine grow_program fun p => ?_
  split <;> trivial
theorem grow_zeroValue : Grow (zeroValue T) := by
  refine Grow.bind' grow_typeInfo fun i => ?_
  split <;> trivial
theorem grow_sizeOf : Grow (sizeOf T) := Grow.bind' grow_typeInfo fun i => trivial
theorem grow_newRow {cs : Array Value} : Grow (newRow T cs) := fun r => trivial
theorem grow_alloc {e : TypeId} : Grow (Instr.alloc e true (.tuple #[])) :=
  Grow.bind' grow_zeroValue fun z => Grow.bind' grow_newRow fun r => trivial
theorem grow_box {e : TypeId} {v : Value} : Grow (Instr.box e v) := Grow.bind' grow_newRow fun r => trivial
theorem grow_ite {α : Type} {p : Prop} [Decidable p] {x y : Sem α} (hx : Grow x) (hy : Grow y) : Grow (if p then x else y) := by split <;> assumption
theorem grow_asIntOf {v : Value} : Grow (asIntOf v) := by unfold asIntOf; split <;> trivial
theorem grow_asInt {v : Value} : Grow (asInt v) := by unfold asInt; exact Grow.bind' grow_asIntOf fun _ => trivial
theorem grow_elemOf : Grow (elemOf T) := by unfold elemOf; refine Grow.bind' grow_underlying fun _ => ?_; split <;> trivial
theorem grow_newVar {v : Value} : Grow (newVar T v) := grow_newRow
theorem grow_panic {α : Type} {e : RuntimeError} : Grow (runtimePanic e : Sem α) := by
  refine grow_program fun p => ?_
  dsimp only
  repeat' first | exact trivial | exact grow_elemOf | exact grow_newVar | refine Grow.bind' ?_ fun _ => ?_ | split | dsimp only
theorem grow_askRoom {m : Nat} : Grow (askRoom m) := by unfold askRoom; split <;> trivial
theorem grow_buildSlice {e : TypeId} {m : Nat} {ps : Array (Nat × Value)} : Grow (Instr.buildSlice e m ps) := by
  unfold Instr.buildSlice
  repeat' first | exact trivial | exact grow_underlying | exact grow_sizeOf | exact grow_zeroValue | exact grow_newRow | refine Grow.bind' ?_ fun _ => ?_ | split | dsimp only
theorem grow_choose {q : Question} : Grow (choose q) := fun r => trivial
theorem grow_makeSlice {e : TypeId} {l m : Value} : Grow (Instr.makeSlice e l m) := by
  unfold Instr.makeSlice
  dsimp only
  repeat' first | exact trivial | exact grow_underlying | exact grow_sizeOf | exact grow_zeroValue | exact grow_newRow | exact grow_asInt | exact grow_panic | exact grow_askRoom | exact grow_typeInfo | exact grow_choose | refine Grow.bind' ?_ fun _ => ?_ | split | dsimp only
/-- An operation of class 2 only makes memory. -/
theorem grow_op (hc : clsOp K o = 2) {ρ : Operand → Value} : Grow (execOp ρ o) := by
  unfold clsOp at hc
  unfold execOp
  cases ho : o.op with
  | alloc e => exact Grow.bind' grow_alloc fun _ => trivial
  | box e x => exact Grow.bind' grow_box fun _ => trivial
  | buildSlice e m ps => exact Grow.bind' grow_buildSlice fun _ => trivial
  | makeSlice e l m => exact Grow.bind' grow_makeSlice fun _ => trivial
  | convert S D x =>
    rw [ho] at hc
    simp only at hc
    generalize K.td D = d at hc
    cases d with
    | pure t => cases t <;> cases hc
    | _ => cases hc
  | call cl =>
    rw [ho] at hc
    obtain ⟨callee, args, ty⟩ := cl
    cases callee with
    | builtin bi => cases bi <;> cases hc
    | value _ => cases hc
    | invoke _ _ => cases hc
  | _ => rw [ho] at hc; cases hc
end
end Go.Xr

namespace Go.Xr
open Go

/-! ### Shapes -/
inductive SV where
  | undef | hole (t : Ty) | nil (k : NK) | ptr (i : Nat) (p : List Stp) | sl (i : Nat) | mp (i : Nat)
  | clo (f : FuncId) (cs : List SV) | agg (fs : List SV) | tup (fs : List SV) | cst (n : Nat)
inductive SB where | var (v : SV) | buf (t : Ty) | cst (n : Nat)
structure SS where
  tm : List SV
  bx : List (Nat × SB)
  up : List (List SV)
inductive SE where | normal | exit (id : Nat) | ret (vs : List SV)

mutual
def SV.holes : SV → List Ty
  | .hole t => [t] | .clo _ cs => holesL cs | .agg fs => holesL fs | .tup fs => holesL fs | _ => []
def holesL : List SV → List Ty
  | [] => [] | v :: r => List.append v.holes (holesL r)
end
def SB.holes : SB → List Ty | .var v => v.holes | .buf t => [.sl false t] | .cst _ => []
def SE.holes : SE → List Ty | .ret vs => holesL vs | _ => []
def holesB : List (Nat × SB) → List Ty | [] => [] | (_, b) :: r => List.append b.holes (holesB r)
def holesU : List (List SV) → List Ty | [] => [] | l :: r => List.append (holesL l) (holesU r)
def SS.holes (s : SS) : List Ty := List.append (holesL s.tm) (List.append (holesB s.bx) (holesU s.up))

mutual
/-- The shape of a value, all that it bears a hole. -/
def AV.shape : AV → SV
  | .pv t _ => .hole t | .lit _ => .hole .bool | .nil k => .nil k | .ptr i p => (match p with | [] => .ptr i [] | _ => .undef) | .sl i => .sl i | .mp i => .mp i
  | .clo f cs => .clo f (shapeL cs) | .agg fs => .agg (shapeL fs) | .tup fs => .tup (shapeL fs) | .cst n => .cst n
  | _ => .undef
def shapeL : List AV → List SV
  | [] => [] | v :: r => v.shape :: shapeL r
end
def Bx.shape : Bx → SB | .var v => .var v.shape | .buf t _ => .buf t | .cst n => .cst n
/-- constants from n on (m on, of boxes) are laid open -/
def AS.low (s : AS) (n : Nat) : AV → AV
  | .cst k => bif Nat.blt k n then .cst k else nthD .undef s.env k
  | v => v
def AS.lowB (s : AS) (m : Nat) : Bx → Bx
  | .cst k => bif Nat.blt k m then .cst k else nthD (.var .undef) s.benv k
  | b => b
def AS.shape (s : AS) (n m : Nat) : SS :=
  { tm := s.tm.map fun v => (s.low n v).shape, bx := s.bx.map fun (i, b) => (i, (match s.lowB m b with | .var v => Bx.var (s.low n v) | b => b).shape), up := s.up.map fun l => l.map fun v => (s.low n v).shape }
def Ex.shape : Ex → SE | .normal => .normal | .exit i => .exit i | .ret vs => .ret (shapeL vs)

mutual
def SV.fill : SV → List PV → AV × List PV
  | .hole t, p :: r => (.pv t ((p.as t).getD t.dflt), r)
  | .hole _, [] => (.undef, [])
  | .undef, r => (.undef, r) | .nil k, r => (.nil k, r) | .ptr i p, r => (.ptr i p, r) | .sl i, r => (.sl i, r) | .mp i, r => (.mp i, r) | .cst n, r => (.cst n, r)
  | .clo f cs, r => let (l, r) := fillL cs r; (.clo f l, r)
  | .agg fs, r => let (l, r) := fillL fs r; (.agg l, r)
  | .tup fs, r => let (l, r) := fillL fs r; (.tup l, r)
def fillL : List SV → List PV → List AV × List PV
  | [], r => ([], r)
  | v :: vs, r => let (x, r) := v.fill r; let (l, r) := fillL vs r; (x :: l, r)
end
def SB.fill : SB → List PV → Bx × List PV
  | .var v, r => let (x, r) := v.fill r; (.var x, r)
  | .buf t, p :: r => (.buf t ((p.as (.sl false t)).getD pNil), r)
  | .buf t, [] => (.buf t pNil, [])
  | .cst n, r => (.cst n, r)
def fillB : List (Nat × SB) → List PV → List (Nat × Bx) × List PV
  | [], r => ([], r)
  | (i, b) :: bs, r => let (x, r) := b.fill r; let (l, r) := fillB bs r; ((i, x) :: l, r)
def fillU : List (List SV) → List PV → List (List AV) × List PV
  | [], r => ([], r)
  | v :: vs, r => let (x, r) := fillL v r; let (l, r) := fillU vs r; (x :: l, r)
def SS.fill (σ : SS) (s : AS) (r : List PV) : AS × List PV :=
  let (tm, r) := fillL σ.tm r; let (bx, r) := fillB σ.bx r; let (up, r) := fillU σ.up r; ({ s with tm := tm, bx := bx, up := up }, r)
def SE.fill : SE → List PV → Ex × List PV
  | .normal, r => (.normal, r) | .exit i, r => (.exit i, r)
  | .ret vs, r => let (l, r) := fillL vs r; (.ret l, r)

/-! taking a state apart along a shape; 'm': which box stands for which: first found, then held to -/
abbrev IdMap := List (Nat × Nat)
def IdMap.get (m : IdMap) (i : Nat) : Nat := match lookupN m i with | some j => j | none => i
def IdMap.add (m : IdMap) (i j : Nat) : IdMap := match lookupN m i with | some _ => m | none => (i, j) :: m
mutual
def SV.find (s : AS) : SV → AV → IdMap → IdMap
  | .sl i, v, m => (match s.rv v with | .sl j => m.add i j | _ => m)
  | .mp i, v, m => (match s.rv v with | .mp j => m.add i j | _ => m)
  | .ptr i _, v, m => (match s.rv v with | .ptr j _ => m.add i j | _ => m)
  | .clo _ cs, v, m => (match s.rv v with | .clo _ ds => findL s cs ds m | _ => m)
  | .agg fs, v, m => (match s.rv v with | .agg gs => findL s fs gs m | _ => m)
  | .tup fs, v, m => (match s.rv v with | .tup gs => findL s fs gs m | _ => m)
  | _, _, m => m
def findL (s : AS) : List SV → List AV → IdMap → IdMap
  | v :: vs, x :: xs, m => findL s vs xs (v.find s x m)
  | _, _, m => m
end
def findB (s : AS) : List (Nat × SB) → IdMap → IdMap
  | [], m => m
  | (i, .var v) :: bs, m => findB s bs (match s.box (m.get i) with | some (.var x) => v.find s x m | _ => m)
  | _ :: bs, m => findB s bs m
def findU (s : AS) : List (List SV) → List (List AV) → IdMap → IdMap
  | v :: vs, x :: xs, m => findU s vs xs (findL s v x m)
  | _, _, m => m
def SS.find (σ : SS) (s : AS) (m : IdMap) : IdMap := findU s σ.up s.up (findB s σ.bx (findL s σ.tm s.tm m))
mutual
/-- 'st': in a variable, where each part keeps its cells -/
def SV.get (s : AS) (m : IdMap) (st : Bool) : SV → AV → Option (List PV)
  | .undef, v => bif st then (match s.rv v with | .pv _ _ => none | .agg _ => none | .tup _ => none | .cst _ => none | _ => some []) else some []
  | .hole t, v => (match s.toPV (s.rv v) with | some p => bif p.t.eqt t then some [p] else none | none => none)
  | .cst n, .cst k => bif st then none else bif Nat.beq n k then some [] else none
  | .nil k, v => (match s.rv v with | .nil k' => bif k.eq k' then some [] else none | _ => none)
  | .sl i, v => (match s.rv v with | .sl j => bif Nat.beq (m.get i) j then some [] else none | _ => none)
  | .ptr i [], v => (match s.rv v with | .ptr j [] => bif Nat.beq (m.get i) j then some [] else none | _ => none)
  | .clo f cs, v => (match s.rv v with | .clo g ds => bif Nat.beq f g then getL s m false cs ds else none | _ => none)
  | .agg fs, v => (match s.rv v with | .agg gs => getL s m true fs gs | _ => none)
  | .tup fs, v => (match s.rv v with | .tup gs => getL s m false fs gs | _ => none)
  | _, _ => none
def getL (s : AS) (m : IdMap) (st : Bool) : List SV → List AV → Option (List PV)
  | [], [] => some []
  | v :: vs, x :: xs => (match v.get s m st x, getL s m st vs xs with | some l, some l' => some (List.append l l') | _, _ => none)
  | _, _ => none
end
/-- a row of temporaries: there may be more of them -/
def getR (s : AS) (m : IdMap) : List SV → List AV → Option (List PV)
  | [], _ => some []
  | v :: vs, x :: xs => (match v.get s m false x, getR s m vs xs with | some l, some l' => some (List.append l l') | _, _ => none)
  | _ :: _, [] => none
def SB.get (s : AS) (m : IdMap) (i : Nat) : SB → Option (List PV)
  | .cst n => (match lookupN s.bx (m.get i) with | some (.cst k) => bif Nat.beq n k then some [] else none | _ => none)
  | .buf t => (match s.box (m.get i) with | some (.buf t' xs) => bif t.eqt t' then some [⟨.sl false t', xs⟩] else none | _ => none)
  | .var v => (match s.box (m.get i) with | some (.var x) => v.get s m true x | _ => none)
def getB (s : AS) (m : IdMap) : List (Nat × SB) → Option (List PV)
  | [] => some []
  | (i, b) :: bs => (match b.get s m i, getB s m bs with | some l, some l' => some (List.append l l') | _, _ => none)
def getU (s : AS) (m : IdMap) : List (List SV) → List (List AV) → Option (List PV)
  | [], _ => some []
  | v :: vs, x :: xs => (match getR s m v x, getU s m vs xs with | some l, some l' => some (List.append l l') | _, _ => none)
  | _ :: _, [] => none
def SS.get (σ : SS) (s : AS) (m : IdMap) : Option (List PV) :=
  match getR s m σ.tm s.tm, getB s m σ.bx, getU s m σ.up s.up with
  | some l, some l', some l'' => some (List.append l (List.append l' l''))
  | _, _, _ => none
def nodupN : List Nat → Bool
  | [] => true | x :: r => !(r.any (Nat.beq x)) && nodupN r
mutual
/-- Does a constant in it name the box? -/
def SV.uses (s : AS) (i : Nat) : SV → Bool
  | .cst n => (nthD .undef s.env n).names i | .clo _ cs => usesL s i cs | .agg fs => usesL s i fs | .tup fs => usesL s i fs | _ => false
def usesL (s : AS) (i : Nat) : List SV → Bool
  | [] => false | v :: r => v.uses s i || usesL s i r
end
def SB.uses (s : AS) (i : Nat) : SB → Bool
  | .var v => v.uses s i
  | .cst n => (match nthD (.var .undef) s.benv n with | .var v => (s.rv v).names i | _ => false)
  | _ => false
def SS.uses (s : AS) (i : Nat) (σ : SS) : Bool := usesL s i σ.tm || σ.bx.any (fun x => x.2.uses s i) || σ.up.any (usesL s i)
def SS.ok (σ : SS) (s : AS) (m : IdMap) (vs : List SV) : Bool :=
  nodupN (σ.bx.map fun x => m.get x.1) && σ.bx.all fun x => Nat.beq (m.get x.1) x.1 || !(σ.uses s x.1 || usesL s x.1 vs)
/-- the constants of its boxes are there -/
def SS.inR (s0 : AS) (σ : SS) : Bool := σ.bx.all fun x => match x.2 with | .cst n => Nat.blt n (len s0.benv) | _ => true
def SS.take (σ : SS) (s : AS) : Option (List PV) :=
  let m := σ.find s []
  bif σ.ok s m [] then σ.get s m else none

/-- One way out: its kind, its shape. -/
structure Way where
  e : SE
  σ : SS
def Way.holes (w : Way) : List Ty := List.append w.e.holes w.σ.holes
def Way.take (w : Way) (e : Ex) (s : AS) : Option (HL w.holes) :=
  (match w.e, e with
    | .normal, .normal => (match w.σ.take s with | some l => HL.mk _ l | none => none)
    | .exit i, .exit j => bif Nat.beq i j then (match w.σ.take s with | some l => HL.mk _ l | none => none) else none
    | .ret vs, .ret us => (let m := w.σ.find s (findL s vs us [])
      bif w.σ.ok s m vs then (match getL s m false vs us, w.σ.get s m with | some l, some l' => HL.mk _ (List.append l l') | _, _ => none) else none)
    | _, _ => none)
def Way.leaf (w : Way) (s : AS) (d : HL w.holes) : Tree :=
  let (e, r) := w.e.fill (HL.out _ d); .leaf e (w.σ.fill s r).1
--WAYS
@[reducible] def Ways : List Way → Type
  | [] => PU | [w] => HL w.holes | w :: r => PSum (HL w.holes) (Ways r)
--END
def Ways.take : (l : List Way) → Ex → AS → Option (Ways l)
  | [], _, _ => none
  | [w], e, s => w.take e s
  | w :: w' :: r, e, s => match w.take e s with
    | some d => some (pInl d)
    | none => (match Ways.take (w' :: r) e s with | some x => some (pInr x) | none => none)

def Ways.dflt : (l : List Way) → Ways l
  | [] => pU | [w] => HL.dflt w.holes | w :: _ :: _ => pInl (HL.dflt w.holes)
def Ways.tree (s : AS) : (l : List Way) → Ways l → Tree
  | [], _ => .fail
  | [w], d => w.leaf s d
  | w :: w' :: r, x => casesT (HL.dflt w.holes) (Ways.dflt (w' :: r)) x (w.leaf s) (Ways.tree s (w' :: r))
/-- What no variable names, and what is no longer looked at, is dropped. -/
def AS.keepI (s : AS) (vars ids : List Nat) : AS := { s with tm := keepL vars 0 s.tm, bx := s.bx.filter fun x => ids.any (Nat.beq x.1) }
/-- What a normal end needs no more is dropped. -/
def Tree.tidy (t : Tree) (vars ids : List Nat) : Tree := t.bind fun e s => match e with | .normal => .leaf .normal (s.keepI vars ids) | e => .leaf e s
/-- All ways out of a tree as one sum. -/
noncomputable def Tree.sumW (s0 : AS) (l : List Way) (t : Tree) : Tree :=
  okT (l.all fun w => w.σ.inR s0) (bndT (Ways.dflt l) (t.run fun e s => pOpt (Ways.take l e s)) (Ways.tree s0 l))

def Ex.isNormal : Ex → Bool | .normal => true | _ => false

/-- a constant that is none is nothing -/
def inR (n0 : Nat) (v : AV) : AV := match v with | .cst k => bif Nat.blt k n0 then .cst k else .undef | v => v
/-- What is there is made constant; what is no variable is dropped. -/
def mark1 (keep lead : Bool) (v : AV) (e : List AV) : AV × List AV :=
  bif lead then (v, e) else match v with
    | .cst n => (bif keep then .cst n else .undef, e)
    | .undef => (.undef, e)
    | .lit b => bif keep then (.cst (len e), List.append e [.pv .bool (pB b)]) else (.undef, e)
    | v => bif keep then (.cst (len e), List.append e [v]) else (.undef, e)
def keepV (vars : Option (List Nat)) (k : Nat) : Bool := match vars with | some l => l.any (Nat.beq k) | none => true
def markL (n0 : Nat) (vars : Option (List Nat)) (lead : List Nat) : Nat → List AV → List AV → List AV × List AV      -- place, row, what has been made so far
  | _, [], e => ([], e)
  | k, v :: r, e =>
    let x := mark1 (keepV vars k) (lead.any (Nat.beq k)) (inR n0 v) e
    let y := markL n0 vars lead (Nat.succ k) r x.2
    (x.1 :: y.1, y.2)
def markU (n0 : Nat) : List (List AV) → List AV → List (List AV) × List AV
  | [], e => ([], e)
  | l :: r, e => let x := markL n0 none [] 0 l e; let y := markU n0 r x.2; (x.1 :: y.1, y.2)
def markB (rv : AV → AV) (m0 : Nat) : List (Nat × Bx) → List Bx → List (Nat × Bx) × List Bx
  | [], e => ([], e)
  | (i, .cst n) :: r, e => let y := markB rv m0 r e; ((i, bif Nat.blt n m0 then .cst n else .var .undef) :: y.1, y.2)
  | (i, .var v) :: r, e => let y := markB rv m0 r (List.append e [.var (rv v)]); ((i, .cst (len e)) :: y.1, y.2)
  | (i, .buf t xs) :: r, e => let y := markB rv m0 r (List.append e [.buf t xs]); ((i, .cst (len e)) :: y.1, y.2)
def AS.mark (s : AS) (vars lead ids : List Nat) : AS :=
  let s := s.keepI (List.append lead vars) ids
  let n0 := len s.env
  let x := markL n0 (some vars) lead 0 s.tm s.env
  let y := markU n0 s.up x.2
  let z := markB s.rv (len s.benv) s.bx s.benv
  { s with tm := x.1, env := y.2, bx := z.1, benv := z.2, up := y.1 }

/-- A loop's round: back at its head, or out. -/
noncomputable def loopStep (body : AS → Tree) (s0 : AS) (σ : SS) (ws : List Way) (d : HL σ.holes) : PO (PSum (HL σ.holes) (Ways ws)) :=
  (body (σ.fill s0 (HL.out σ.holes d)).1).run fun e s => match e with
    | .normal => (match σ.take s with | some l => (match HL.mk σ.holes l with | some d => pOpt (some (pInl d)) | none => pOpt none) | none => pOpt none)
    | e => (match Ways.take ws e s with | some x => pOpt (some (pInr x)) | none => pOpt none)
/-- A loop, at a shape of its head and its ways out. -/
noncomputable def loopW (body : AS → Tree) (s0 : AS) (σ : SS) (ws : List Way) : Tree :=
  okT (σ.inR s0 && ws.all fun w => w.σ.inR s0) (bndT (Ways.dflt ws) (match σ.take s0 with | some l => (match HL.mk σ.holes l with | some d => pIter (fun d => loopStep body s0 σ ws d) d | none => pOpt none) | none => pOpt none) (Ways.tree s0 ws))

/-- Where ways meet, and how: found offline; whatever it says, what is told holds. -/
inductive Hn where
  | nil
  | seq (a b : Hn)
  | mark (ids : List Nat) (a b : Hn)
  | join (ids ids2 : List Nat) (ws : List Way) (a b : Hn)
  | cond (a b : Hn)
  | loop (ids : List Nat) (σ : SS) (ws : List Way) (b : Hn)
  | last (ids : List Nat)
/-- the temporaries that a statement asks at once -/
def leadT : Code → List Nat
  | .cond (.tmp t) _ _ => [t] | .rangeFunc (.tmp t) _ _ _ => [t] | .seq a _ => leadT a | .block _ b => leadT b | _ => []
def readRes (K : Kit) (s : AS) : ResultVar → Option AV
  | .tmp t => some (s.rv (nthD .undef s.tm t))
  | .cell a t => match s.rv (nthD .undef s.tm a) with
    | .ptr i p => bif szEq (K.sz t) (s.at_ i p).sz then some (s.at_ i p) else none
    | _ => none
def readAll (K : Kit) (s : AS) : List ResultVar → Option (List AV)
  | [] => some []
  | r :: rs => match readRes K s r, readAll K s rs with | some v, some l => some (v :: l) | _, _ => none
noncomputable def denC (K : Kit) (call : Oper → AV → List AV → AS → Tree) (vars : List Nat) (res : List ResultVar) : Code → Hn → AS → Tree
  | .skip, _, s => .leaf .normal s
  | .region _ ops d, _, s => (match d with | false => opsT K call ops ops.toList s | true => regionT K call ops s)
  | .seq a b, h, s => (match h with
    | .seq h1 h2 => (denC K call vars res a h1 s).seq (denC K call vars res b h2)
    | .mark ids h1 h2 => (denC K call vars res a h1 (s.mark vars (leadT a) ids)).seq (denC K call vars res b h2)
    | .join ids ids2 ws h1 h2 => let s0 := s.mark vars (leadT a) ids; (((denC K call vars res a h1 s0).tidy vars ids2).sumW s0 ws).seq (denC K call vars res b h2)
    | _ => .fail)
  | .cond c a b, h, s => (match h with
    | .cond h1 h2 => (match c, s.ev c with
      | _, .lit x => bif x then denC K call vars res a h1 s else denC K call vars res b h2 s
      | .tmp t, .pv .bool x => .br x (denC K call vars res a h1 (s.put t (.lit true))) (denC K call vars res b h2 (s.put t (.lit false)))
      | _, _ => .fail)
    | _ => .fail)
  | .block id b, h, s => (denC K call vars res b h s).bind fun e s => match e with
    | .exit j => bif Nat.beq j id then .leaf .normal s else .leaf (.exit j) s
    | e => .leaf e s
  | .loop b, h, s => (match h with | .loop ids σ ws h1 => loopW (denC K call vars res b h1) (s.mark vars [] ids) σ ws | _ => .fail)
  | .exit id, h, s => (match h with | .last ids => .leaf (.exit id) (s.keepI vars ids) | _ => .fail)
  | .ret, h, s => (match h with | .last ids => (match readAll K s res with | some vs => .leaf (.ret vs) (({ s with tm := [] } : AS).keepI [] ids) | none => .fail) | _ => .fail)
  | _, _, _ => .fail

/-! ### Functions that have been looked at -/
mutual
/-- A value, its boxes named anew. -/
def AV.ren (mp : Nat → Option Nat) : AV → AV
  | .sl i => (match mp i with | some j => .sl j | none => .undef)
  | .ptr i p => (match mp i with | some j => .ptr j p | none => .undef)
  | .pv t x => .pv t x | .lit b => .lit b | .nil k => .nil k
  | .clo f cs => .clo f (renL mp cs) | .agg fs => .agg (renL mp fs) | .tup fs => .tup (renL mp fs)
  | _ => .undef
def renL (mp : Nat → Option Nat) : List AV → List AV
  | [] => [] | v :: r => v.ren mp :: renL mp r
end
def Bx.ren (mp : Nat → Option Nat) : Bx → Bx
  | .var v => .var (v.ren mp) | b => b
/-- no borrowed row in it -/
def Ty.noB : Ty → Bool
  | .pair a b => a.noB && b.noB | .st a => a.noB | .arr _ a => a.noB | .sl b a => (match b with | true => false | false => a.noB) | _ => true
mutual
/-- nothing lent in it -/
def AV.noB : AV → Bool
  | .pv t _ => t.noB | .fad _ _ => false | .clo _ cs => noBL cs | .agg fs => noBL fs | .tup fs => noBL fs | _ => true
def noBL : List AV → Bool
  | [] => true | v :: r => v.noB && noBL r
end
def Bx.noB : Bx → Bool | .var v => v.noB | .buf t _ => t.noB | .cst _ => false
def AS.kills (s : AS) : List Nat → AS
  | [] => s | i :: r => (s.kill i).kills r
/-- A row is lent. -/
def lendV (s : AS) : SV → AV → AV
  | .hole (.sl true _), v => (match s.list (s.rv v) with | some l => (match s.rv v with | .pv .str _ => v | _ => .pv (.sl true l.t) l.xs) | none => v)
  | _, v => v
def lendL (s : AS) : List SV → List AV → List AV
  | σ :: r, v :: q => lendV s σ v :: lendL s r q | _, l => l
/-- whose boxes are lent -/
def lentV (s : AS) : SV → AV → List Nat
  | .hole (.sl true _), v => (match s.rv v with | .sl i => [i] | .slr i _ _ => [i] | .asl i _ _ _ => [i] | _ => [])
  | _, _ => []
def lentL (s : AS) : List SV → List AV → List Nat
  | σ :: r, v :: q => List.append (lentV s σ v) (lentL s r q) | _, _ => []
def ghostV (m : IdMap) : Nat × SB → AV
  | (i, .var _) => .ptr (m.get i) [] | (i, _) => .sl (m.get i)
def s00 : AS := { tm := [], bx := [], env := [], benv := [], base := 1, nx := 2, up := [] }
structure Smry where
  f : FuncId
  σ : SS
  ws : List Way
  M : HL σ.holes → PO (Ways ws)
/-- what is left for a function to see -/
def smallS (s : AS) (as : List AV) (σ : SS) (m : IdMap) : AS :=
  { s with tm := as, bx := s.bx.filter fun x => σ.bx.any fun y => Nat.beq (m.get y.1) x.1, up := [σ.bx.map (ghostV m)], base := 1, nx := 2 }
/-- a box, laid open -/
def AS.ro (s : AS) (b : Bx) : Bx := match s.rb b with | .var v => .var (s.rv v) | b => b
/-- a passed box is where, and what, it was -/
def goodG (s : AS) (m : IdMap) (r : AS) (g : AV) (i : Nat) : Bool :=
  (match g with | .ptr j [] => Nat.beq i j | _ => false) && (match s.box (m.get i), r.box i with | some (.var v), some (.var v') => (s.rv v).alike (r.rv v') | _, _ => false)
/-- passed boxes that are no longer where, or what, they were -/
def badOf (s : AS) (m : IdMap) (r : AS) : List AV → List (Nat × SB) → List Nat
  | g :: gs, (i, _) :: q => bif goodG s m r g i then badOf s m r gs q else m.get i :: badOf s m r gs q
  | [], q => q.map fun x => m.get x.1
  | _, [] => []
def mpOf (r : AS) (to : Nat → Nat) (i : Nat) : Option Nat := bif r.bx.any (fun x => Nat.beq i x.1) then some (to i) else none
/-- what is behind a call that was looked at on its own -/
def backS (s1 r : AS) (to : Nat → Nat) (T : List Nat) : AS :=
  let news := r.bx.map fun x => (to x.1, Bx.ren (mpOf r to) (r.ro x.2))
  { s1 with bx := List.append news (s1.bx.filter fun x => !(T.any (Nat.beq x.1)) && !(news.any fun y => Nat.beq x.1 y.1)) }
def retA : List AV → AV
  | [v] => v | vs => .tup vs
def passB (σ : SS) (i : Nat) : Bool := σ.bx.any fun x => Nat.beq i x.1
def toOf (s : AS) (o : Oper) (m : IdMap) (σ : SS) (i : Nat) : Nat := bif passB σ i then m.get i else Nat.add (Nat.mul (Nat.succ (siteT s o)) 1000000) i
def headU : List (List AV) → List AV | l :: _ => l | [] => []
def Smry.back (s : AS) (o : Oper) (m : IdMap) (σ : SS) (L : Bool) (e : Ex) (r : AS) : Tree :=
  match e with
  | .ret vs =>
    let to := toOf s o m σ
    let s1 := s.kills (List.append (badOf s m r (headU r.up) σ.bx) ((r.bx.filter fun x => !passB σ x.1).map fun x => to x.1))
    okT (nodupN (r.bx.map (·.1)) && nodupN (r.bx.map fun x => to x.1) && (!L || (noBL vs && r.bx.all fun x => (r.ro x.2).noB))) (retT (backS s1 r to (σ.bx.map fun x => m.get x.1)) o ((retA vs).ren (mpOf r to)))
  | _ => .fail
def someL : List Nat → Bool | [] => false | _ :: _ => true
def Smry.apply (S : Smry) (o : Oper) (as : List AV) (s : AS) : Option Tree :=
  let m := findB s S.σ.bx (findL s S.σ.tm as [])
  let sB := smallS s (lendL s S.σ.tm as) S.σ m
  let lent := lentL s S.σ.tm as
  bif S.σ.ok sB m [] && (lent.all fun i => !(S.σ.bx.any fun y => Nat.beq (m.get y.1) i)) then
    (match S.σ.get sB m with
      | some l => (match HL.mk S.σ.holes l with
        | some d => some (bndT (Ways.dflt S.ws) (S.M d) fun x => (Ways.tree s00 S.ws x).bind (Smry.back s o m S.σ (someL lent)))
        | none => none)
      | none => none)
  else none
def sumOf : List Smry → FuncId → Oper → List AV → AS → Option Tree
  | [], _, _, _, _ => none
  | S :: l, f, o, as, s => bif Nat.beq S.f f then (match S.apply o as s with | some t => some t | none => sumOf l f o as s) else sumOf l f o as s
def callS (l : List Smry) (o : Oper) (v : AV) (as : List AV) (s : AS) : Tree :=
  match v with
  | .clo f cs => (match sumOf l f o (List.append as cs) s with | some t => t | none => .fail)
  | _ => .fail
def endT (K : Kit) (res : List ResultVar) (e : Ex) (s : AS) : Tree :=
  match e with
  | .normal => (match readAll K s res with | some vs => .leaf (.ret vs) { s with tm := [] } | none => .fail)
  | .ret vs => .leaf (.ret vs) s
  | .exit _ => .fail
def startS (σ : SS) (nt : Nat) (d : HL σ.holes) : AS := let s := (σ.fill s00 (HL.out _ d)).1; { s with tm := List.append s.tm (repL .undef (Nat.sub nt (len s.tm))) }
/-- A function's run. -/
noncomputable def smryRun (K : Kit) (l : List Smry) (f : FuncId) (h : Hn) (σ : SS) (ws : List Way) (d : HL σ.holes) : PO (Ways ws) :=
  match K.fn f with
  | none => pOpt none
  | some (nt, res, code) => ((denC K (callS l) (K.vars f) res code h (startS σ nt d)).bind (endT K res)).run fun e s => pOpt (Ways.take ws e s)
end Go.Xr

set_option linter.unusedVariables false
set_option linter.unusedSimpArgs false
namespace Go.Xr
open Go

/-! ### What holds at each end of a tree -/
def Tree.All (R : Ex → AS → Prop) : Tree → Prop
  | .leaf e s => R e s
  | .chk _ k => k.All R
  | .br _ x y => x.All R ∧ y.All R
  | .amb x y => x.All R ∧ y.All R
  | .bnd D _ _ k => ∀ d : D, (k d).All R
  | .cases A B _ _ _ k k' => (∀ d : A, (k d).All R) ∧ ∀ d : B, (k' d).All R
  | .fail => True
theorem Tree.All.mono {R R' : Ex → AS → Prop} (h : ∀ e s, R e s → R' e s) : ∀ t : Tree, t.All R → t.All R'
  | .leaf e s, k => h e s k
  | .chk b t, k => All.mono h t k
  | .br b x y, k => ⟨All.mono h x k.1, All.mono h y k.2⟩
  | .amb x y, k => ⟨All.mono h x k.1, All.mono h y k.2⟩
  | .bnd D _ m f, k => fun d => All.mono h (f d) (k d)
  | .cases A B _ _ x f f', k => ⟨fun d => All.mono h (f d) (k.1 d), fun d => All.mono h (f' d) (k.2 d)⟩
  | .fail, _ => trivial
theorem Tree.all_bind {R : Ex → AS → Prop} {f : Ex → AS → Tree} : ∀ t : Tree, (t.All fun e s => (f e s).All R) → (t.bind f).All R
  | .leaf e s, k => k
  | .chk b t, k => all_bind t k
  | .br b x y, k => ⟨all_bind x k.1, all_bind y k.2⟩
  | .amb x y, k => ⟨all_bind x k.1, all_bind y k.2⟩
  | .bnd D _ m g, k => fun d => all_bind (g d) (k d)
  | .cases A B _ _ x g g', k => ⟨fun d => all_bind (g d) (k.1 d), fun d => all_bind (g' d) (k.2 d)⟩
  | .fail, _ => trivial
theorem Tree.sat_all {Q R : Ex → AS → Prop} : ∀ t : Tree, t.sat Q → t.All R → t.sat fun e s => Q e s ∧ R e s
  | .leaf e s, k, r => ⟨k, r⟩
  | .chk b t, k, r => ⟨k.1, sat_all t k.2 r⟩
  | .br b x y, k, r => ⟨fun e => sat_all x (k.1 e) r.1, fun e => sat_all y (k.2 e) r.2⟩
  | .amb x y, k, r => ⟨sat_all x k.1 r.1, sat_all y k.2 r.2⟩
  | .bnd D _ m g, ⟨d, e, k⟩, r => ⟨d, e, sat_all (g d) k (r d)⟩
  | .cases A B _ _ x g g', k, r => ⟨fun d e => sat_all (g d) (k.1 d e) (r.1 d), fun d e => sat_all (g' d) (k.2 d e) (r.2 d)⟩
  | .fail, k, _ => k
/-- Constants stay as they are. -/
def Ext (s s' : AS) : Prop := (∃ l, s'.env = s.env ++ l) ∧ ∃ l, s'.benv = s.benv ++ l
theorem Ext.refl (s : AS) : Ext s s := ⟨⟨[], by simp⟩, [], by simp⟩
theorem Ext.trans {s s' s'' : AS} (h : Ext s s') (k : Ext s' s'') : Ext s s'' := by
  obtain ⟨⟨l, h1⟩, m, h2⟩ := h
  obtain ⟨⟨l', k1⟩, m', k2⟩ := k
  exact ⟨⟨l ++ l', by rw [k1, h1, List.append_assoc]⟩, m ++ m', by rw [k2, h2, List.append_assoc]⟩
theorem Ext.of {s s' : AS} (h1 : s'.env = s.env) (h2 : s'.benv = s.benv) : Ext s s' := ⟨⟨[], by simpa using h1⟩, [], by simpa using h2⟩
section
variable {K : Kit} {s : AS} {o : Oper} {call : Oper → AV → List AV → AS → Tree}
abbrev EX (s : AS) : Ex → AS → Prop := fun _ s' => Ext s s'
theorem ok_all {R : Ex → AS → Prop} {b : Bool} {t : Tree} (h : t.All R) : (okT b t).All R := by cases b <;> first | exact h | exact trivial
theorem ret_all {v : AV} {s' : AS} (h1 : s'.env = s.env) (h2 : s'.benv = s.benv) : (retT s' o v).All (EX s) := by
  rw [retT_eq]
  refine Ext.of ?_ ?_ <;> unfold AS.putO <;> split <;> assumption
theorem skip_all {s' : AS} (h1 : s'.env = s.env) (h2 : s'.benv = s.benv) : (skipT s' o).All (EX s) := by
  rw [skipT_eq]
  refine Ext.of ?_ ?_ <;> unfold AS.putO <;> split <;> assumption
theorem zeroS_env {site : Nat} {T : TypeId} : (K.zeroS site T s).env = s.env ∧ (K.zeroS site T s).benv = s.benv := by
  unfold Kit.zeroS
  split
  · split <;> exact ⟨rfl, rfl⟩
  · exact ⟨rfl, rfl⟩
theorem zerosS_env : ∀ (fs : List TypeId) (site : Nat), (K.zerosS site fs s).env = s.env ∧ (K.zerosS site fs s).benv = s.benv
  | [], _ => ⟨rfl, rfl⟩
  | T :: r, site => by
    have h := zerosS_env r (Nat.add site 10)
    have h2 := zeroS_env (K := K) (s := K.zerosS (Nat.add site 10) r s) (site := site) (T := T)
    exact ⟨h2.1.trans h.1, h2.2.trans h.2⟩
theorem zeroW_env {site : Nat} {T : TypeId} : (K.zeroW site T s).env = s.env ∧ (K.zeroW site T s).benv = s.benv := by
  unfold Kit.zeroW
  split
  · exact zerosS_env _ _
  · exact zeroS_env
theorem chk_all {R : Ex → AS → Prop} {b : PB} {t : Tree} (h : t.All R) : (Tree.chk b t).All R := h
theorem br_all {R : Ex → AS → Prop} {b : PB} {t t' : Tree} (h : t.All R) (h' : t'.All R) : (Tree.br b t t').All R := ⟨h, h'⟩
theorem binT_ext {op : BinOp} {T : TypeId} {x y : AV} : (binT K s o op T x y).All (EX s) := by
  unfold binT
  dsimp only
  split
  · exact ok_all (ret_all rfl rfl)
  · exact ok_all (ret_all rfl rfl)
  · exact ok_all (ret_all rfl rfl)
  · exact ok_all (chk_all (ret_all rfl rfl))
  · exact ok_all (chk_all (ret_all rfl rfl))
  · exact chk_all (ret_all rfl rfl)
  · exact chk_all (ret_all rfl rfl)
  · exact ok_all (ret_all rfl rfl)
  · exact ok_all (ret_all rfl rfl)
  · exact ok_all (ret_all rfl rfl)
  · exact ok_all (ret_all rfl rfl)
  · exact ok_all (ret_all rfl rfl)
  · exact ok_all (ret_all rfl rfl)
  · exact ok_all (ret_all rfl rfl)
  · exact ok_all (ret_all rfl rfl)
  · exact ok_all (ret_all rfl rfl)
  · exact ok_all (ret_all rfl rfl)
  · exact ok_all (ret_all rfl rfl)
  · split
    · refine ok_all ?_
      split
      · exact ret_all rfl rfl
      · exact trivial
    · exact trivial
  · split
    · refine ok_all ?_
      split
      · exact ret_all rfl rfl
      · exact trivial
    · exact trivial
  · exact trivial
theorem eqnT_ext {op : BinOp} {T : TypeId} {x y : AV} : (eqnT K s o op T x y).All (EX s) := by
  unfold eqnT nilT
  have k : ∀ v, (retT s o v).All (EX s) := fun v => ret_all rfl rfl
  split
  · split
    · exact ok_all ⟨⟨k _, k _⟩, k _⟩
    · exact trivial
  · split
    · exact ok_all ⟨⟨k _, k _⟩, k _⟩
    · exact trivial
  · exact binT_ext
theorem loadT_ext {T : TypeId} {x : AV} : (loadT K s o T x).All (EX s) := by
  unfold loadT
  repeat' first | split | exact ret_all rfl rfl | exact skip_all rfl rfl | exact trivial | apply ok_all | apply chk_all
theorem storeT_ext {i : Nat} {p : List Stp} {x : AV} : (storeT s o i p x).All (EX s) := by
  unfold storeT
  repeat' first | split | exact ret_all rfl rfl | exact skip_all rfl rfl | exact trivial | apply ok_all | apply chk_all
theorem unT_ext {op : UnOp} {x : AV} : (unT s o op x).All (EX s) := by
  unfold unT
  repeat' first | split | exact ret_all rfl rfl | exact skip_all rfl rfl | exact trivial | apply ok_all | apply chk_all
theorem convT_ext {T D : TypeId} {x : AV} : (convT K s o T D x).All (EX s) := by
  unfold convT
  repeat' first | split | exact ret_all rfl rfl | exact skip_all rfl rfl | exact trivial | apply ok_all | apply chk_all
theorem bif_all {R : Ex → AS → Prop} {b : Bool} {t t' : Tree} (h : t.All R) (h' : t'.All R) : (bif b then t else t').All R := by cases b <;> assumption
theorem bnd_all {x y : Option PI} {f : PI → PI → Tree} (h : ∀ l h, (f l h).All (EX s)) : (match x, y with | some l, some h => f l h | _, _ => .fail).All (EX s) := by
  cases x <;> cases y <;> first | exact h _ _ | exact trivial
theorem sliceT_ext {T : TypeId} {x : AV} {lo hi : Option AV} : (sliceT K s o T x lo hi).All (EX s) := by
  unfold sliceT
  split
  · split
    · exact ok_all (bif_all (ret_all rfl rfl) (bnd_all fun l h => chk_all (ret_all rfl rfl)))
    · exact trivial
  · split
    · exact ok_all (bif_all (ret_all rfl rfl) (bnd_all fun l h => chk_all (ret_all rfl rfl)))
    · exact trivial
  · split
    · exact ok_all (bif_all (ret_all rfl rfl) (bnd_all fun l h => chk_all (ret_all rfl rfl)))
    · exact trivial
  · split
    · exact ok_all (bnd_all fun l h => chk_all (ret_all rfl rfl))
    · exact trivial
  · exact trivial
theorem fieldAddrT_ext {T : TypeId} {x : AV} {f : Nat} : (fieldAddrT K s o T x f).All (EX s) := by
  unfold fieldAddrT
  repeat' first | split | exact ret_all rfl rfl | exact skip_all rfl rfl | exact trivial | apply ok_all | apply chk_all
theorem idxAddrT_ext {T : TypeId} {x y : AV} : (idxAddrT K s o T x y).All (EX s) := by
  unfold idxAddrT
  repeat' first | split | exact ret_all rfl rfl | exact skip_all rfl rfl | exact trivial | apply ok_all | apply chk_all
theorem lenT_ext {T : TypeId} {x : AV} : (lenT K s o T x).All (EX s) := by
  unfold lenT
  repeat' first | split | exact ret_all rfl rfl | exact skip_all rfl rfl | exact trivial | apply ok_all | apply chk_all
theorem appendT_ext {T T' : TypeId} {x y : AV} : (appendT K s o T T' x y).All (EX s) := by
  unfold appendT
  repeat' first | split | exact ret_all rfl rfl | exact skip_all rfl rfl | exact trivial | apply ok_all | apply chk_all
theorem minmaxT_ext {b : Bool} {x y : AV} : (minmaxT s o b x y).All (EX s) := by
  unfold minmaxT
  repeat' first | split | exact ret_all rfl rfl | exact skip_all rfl rfl | exact trivial | apply ok_all | apply chk_all
theorem opT_ext (hc : ∀ o v as s, (call o v as s).All (EX s)) : (opT K call s o).All (EX s) := by
  unfold opT
  split
  · exact ret_all rfl rfl
  · split
    · split <;> first | exact ret_all rfl rfl | exact trivial
    · exact ret_all rfl rfl
  · split <;> first | exact ret_all rfl rfl | exact ⟨ret_all rfl rfl, ret_all rfl rfl⟩ | exact trivial
  · exact ok_all (ret_all zeroW_env.1 zeroW_env.2)
  · exact ok_all (ret_all rfl rfl)
  · unfold buildT
    split
    · repeat' split
      all_goals first | exact ret_all rfl rfl | exact trivial
    · repeat' split
      all_goals first | exact ret_all rfl rfl | exact trivial
    · dsimp only
      split
      · exact ret_all (zerosS_env _ _).1 (zerosS_env _ _).2
      · exact trivial
    · exact trivial
  · repeat' first | split | exact ret_all rfl rfl | exact skip_all rfl rfl | exact trivial | apply ok_all | apply chk_all
  · exact loadT_ext
  · split
    · exact ok_all storeT_ext
    · exact trivial
  · repeat' first | split | exact ret_all rfl rfl | exact skip_all rfl rfl | exact trivial | apply ok_all | apply chk_all
  · exact eqnT_ext
  · exact unT_ext
  · exact convT_ext
  · repeat' first | split | exact ret_all rfl rfl | exact skip_all rfl rfl | exact trivial | apply ok_all | apply chk_all
  · exact sliceT_ext
  · exact fieldAddrT_ext
  · repeat' first | split | exact ret_all rfl rfl | exact skip_all rfl rfl | exact trivial | apply ok_all | apply chk_all
  · exact idxAddrT_ext
  · repeat' first | split | exact ret_all rfl rfl | exact skip_all rfl rfl | exact trivial | apply ok_all | apply chk_all
  · repeat' first | split | exact ret_all rfl rfl | exact skip_all rfl rfl | exact trivial | apply ok_all | apply chk_all
  · exact ok_all (ret_all rfl rfl)
  · split
    · unfold builtinT
      split
      · exact lenT_ext
      · exact appendT_ext
      · exact minmaxT_ext
      · exact minmaxT_ext
      · exact trivial
    · exact hc _ _ _ _
    · exact trivial
  · exact trivial
theorem opsT_ext (hc : ∀ o v as s, (call o v as s).All (EX s)) (ops : Array Oper) : ∀ (l : List Oper) (s : AS), (opsT K call ops l s).All (EX s)
  | [], s => Ext.refl s
  | o :: rest, s => by
    have next : ∀ (s0 : AS) (t : Tree), t.All (EX s0) → (t.seq (opsT K call ops rest)).All (EX s0) := by
      intro s0 t ht
      refine Tree.all_bind t (Tree.All.mono ?_ t ht)
      intro e s' h
      cases e with
      | normal => exact Tree.All.mono (fun e s'' h' => Ext.trans h h') _ (opsT_ext hc ops rest s')
      | exit id => exact h
      | ret vs => exact h
    have put : ∀ (d : Nat) (v : AV) (t : Tree), t.All (EX (s.put d v)) → t.All (EX s) := fun d v t ht => Tree.All.mono (fun e s' h => h) t ht
    unfold opsT
    split
    · exact next s _ (opT_ext hc)
    · split
      · exact trivial
      · split
        · exact next s _ (bif_all (opT_ext hc) (skip_all rfl rfl))
        · exact br_all (put _ (.lit true) _ (next _ _ (bif_all (opT_ext hc) (skip_all rfl rfl)))) (put _ (.lit false) _ (next _ _ (bif_all (skip_all rfl rfl) (opT_ext hc))))
        · exact trivial
theorem execG_ext (hc : ∀ o v as s, (call o v as s).All (EX s)) {ops : Array Oper} {next : AS → Tree} (hn : ∀ s, (next s).All (EX s)) : (execG K call ops o s next).All (EX s) := by
  have seq : ∀ (s0 : AS) (t : Tree), t.All (EX s0) → (t.seq next).All (EX s0) := by
    intro s0 t ht
    refine Tree.all_bind t (Tree.All.mono ?_ t ht)
    intro e s' h
    cases e with
    | normal => exact Tree.All.mono (fun e s'' h' => Ext.trans h h') _ (hn s')
    | exit id => exact h
    | ret vs => exact h
  have put : ∀ (d : Nat) (v : AV) (t : Tree), t.All (EX (s.put d v)) → t.All (EX s) := fun d v t ht => Tree.All.mono (fun e s' h => h) t ht
  unfold execG
  split
  · exact seq s _ (opT_ext hc)
  · split
    · exact trivial
    · split
      · exact seq s _ (bif_all (opT_ext hc) (skip_all rfl rfl))
      · exact br_all (put _ (.lit true) _ (seq _ _ (bif_all (opT_ext hc) (skip_all rfl rfl)))) (put _ (.lit false) _ (seq _ _ (bif_all (skip_all rfl rfl) (opT_ext hc))))
      · exact trivial
theorem ambT_all {R : Ex → AS → Prop} : ∀ l : List Tree, (∀ t ∈ l, t.All R) → (ambT l).All R
  | [], _ => trivial
  | [t], h => h t (by simp)
  | t :: t' :: r, h => ⟨h t (by simp), ambT_all (t' :: r) fun x hx => h x (List.mem_cons_of_mem _ hx)⟩
theorem regT_ext (hc : ∀ o v as s, (call o v as s).All (EX s)) {ops : Array Oper} : ∀ (n L : Nat) (rest : List RO) (s : AS), (regT K call ops n L rest s).All (EX s)
  | 0, L, [], s => Ext.refl s
  | 0, L, _ :: _, s => trivial
  | n + 1, L, rest, s => by
    unfold regT
    split
    · exact Ext.refl s
    · split
      · exact execG_ext hc (fun s => regT_ext hc n _ _ s)
      · refine ambT_all _ fun t ht => ?_
        obtain ⟨x, _, rfl⟩ := List.mem_map.1 ht
        exact execG_ext hc (fun s => regT_ext hc n _ _ s)
theorem regionT_ext (hc : ∀ o v as s, (call o v as s).All (EX s)) {ops : Array Oper} {s : AS} : (regionT K call ops s).All (EX s) := ok_all (regT_ext hc _ _ _ _)
end
end Go.Xr

set_option linter.unusedVariables false
set_option linter.unusedSimpArgs false
namespace Go.Xr
open Go

section
variable {F : Fence} {n : Nat} {P : Program} {K : Kit} {o : Oper} {a : Act} {w w' : World} {Qx : Exit → Act → World → Prop} {u : Value}
variable {b : Base} {us : List (Array Value)} {c c' : Cx} {s s' : AS} {Q : Ex → AS → Prop} {T : TypeId} {call : Oper → AV → List AV → AS → Tree}
/-- A function's results. -/
def resRun (P : Program) (a : Act) (w : World) : List ResultVar → List Value → Prop
  | [], vs => vs = []
  | r :: rs, vs => ∃ v q, vs = v :: q ∧ (match r with
      | .tmp t => (pure (a.tmps.getD t undef) : Sem Value)
      | .cell x t => do loadVar t (← asAddr (a.tmps.getD x undef))).run P w = .ok v w ∧ resRun P a w rs q
/-- What holds at each end of a function's code. -/
def AbsE (P : Program) (res : List ResultVar) (b : Base) (us : List (Array Value)) (Q : Ex → AS → Prop) : Exit → Act → World → Prop
  | .normal, a, w => Abs b us Q a w
  | .exit id, a, w => ∃ c s, c.w = w ∧ Q (.exit id) s ∧ St c us s a ∧ Fr b c s
  | .ret, a, w => ∃ c s vs rs, c.w = w ∧ Q (.ret vs) s ∧ St c us s a ∧ Fr b c s ∧ resRun P a w res rs ∧ AVRL c.w c.E (c.I s) vs rs
  | _, _, _ => False
theorem AbsE.mono {res : List ResultVar} {Q Q' : Ex → AS → Prop} (h : ∀ e s, Q e s → Q' e s) : ∀ e a w, AbsE P res b us Q e a w → AbsE P res b us Q' e a w
  | .normal, a, w, ⟨c, s, h1, h2, h3⟩ => ⟨c, s, h1, h _ _ h2, h3⟩
  | .exit id, a, w, ⟨c, s, h1, h2, h3⟩ => ⟨c, s, h1, h _ _ h2, h3⟩
  | .ret, a, w, ⟨c, s, vs, rs, h1, h2, h3⟩ => ⟨c, s, vs, rs, h1, h _ _ h2, h3⟩
  | .goto _, _, _, h => h.elim
  | .panic _, _, _, h => h.elim
  | .outgrown, _, _, h => h.elim
/-- The ends of a tree that goes on with another one. -/
def SeqQ (f : AS → Tree) (Q : Ex → AS → Prop) : Ex → AS → Prop := fun e s => match e with | .normal => (f s).sat Q | e => Q e s
theorem seq_sat {t : Tree} {f : AS → Tree} (h : (t.seq f).sat Q) : t.sat (SeqQ f Q) :=
  Tree.sat_mono (fun e s k => by cases e <;> exact k) t (Tree.sat_bind t h)
theorem opsT_sound (hF : HF F) (hK : KitOK P K) (hcall : CallSound F n P call) {res : List ResultVar} (ops : Array Oper) : ∀ (rest : List Oper) {c : Cx} {s : AS} {a : Act}, St c us s a → Fr b c s → (opsT K call ops rest s).sat Q →
    wpListIn F n P ops (AbsE P res b us Q) rest a c.w
  | [], c, s, a, h, hfr, hs => ⟨c, s, rfl, hs, h, hfr⟩
  | o :: rest, c, s, a, h, hfr, hs => by
    have next : ∀ a' w', Abs b us (SeqQ (opsT K call ops rest) Q) a' w' → wpListIn F n P ops (AbsE P res b us Q) rest a' w' := by
      rintro a' w' ⟨c', s', rfl, hq, h1, h2⟩
      exact opsT_sound hF hK hcall ops rest h1 h2 hq
    have doit : ∀ {s' : AS}, St c us s' a → Fr b c s' → ((opT K call s' o).seq (opsT K call ops rest)).sat Q → o.wpIn F n P a c.w (wpListIn F n P ops (AbsE P res b us Q) rest) (AbsE P res b us Q) := by
      intro s' h1 h2 h3
      have h4 : o.wpIn F n P a c.w (Abs b us (SeqQ (opsT K call ops rest) Q)) (AbsE P res b us Q) := opT_sound hF hK hcall h1 h2 (seq_sat h3)
      exact Oper.wpIn_mono next h4
    have skip : ∀ {s' : AS}, St c us s' a → Fr b c s' → ((skipT s' o).seq (opsT K call ops rest)).sat Q → (∀ f, o.about P c.w a.eval = some f → F.fn f) ∧ wpListIn F n P ops (AbsE P res b us Q) rest (a.put o.dst undef) c.w := by
      intro s' h1 h2 h3
      have h4 := seq_sat h3
      rw [skipT_eq] at h4
      exact ⟨fun f _ => hF.1 f, next _ _ (skip_abs h1 h2 h4)⟩
    unfold opsT at hs
    simp only [wpListIn]
    split at hs
    · rename_i hg
      rw [if_pos (by simp [Region.wanted, hg])]
      exact doit h hfr hs
    · rename_i j want hg
      split at hs
      · exact hs.elim
      · rename_i d hd
        have hy : ∀ b' : Bool, a.tmps.getD d undef = .bool b' → d < a.tmps.size → Region.wanted o (yielded ops a.tmps) = (b' == want) := by
          intro b' e hlt
          have e2 : ((ops[j]?).bind (·.dst)) = some d := by
            rw [nth_eq] at hd
            simp only [Array.getElem?_toList] at hd
            cases ho : ops[j]? with
            | none => rw [ho] at hd; cases hd
            | some o' => rw [ho] at hd; exact hd
          have e3 : a.tmps[d]? = some (.bool b') := by
            rw [Array.getElem?_eq_getElem hlt]
            simpa [Array.getD, hlt] using e
          simp only [Region.wanted, hg, yielded, e2, Option.bind_some, e3]
          cases b' <;> cases want <;> rfl
        cases hn : nth s.tm d with
        | none =>
          have : nthD .undef s.tm d = .undef := by rw [nthD_eq, hn]; rfl
          rw [this] at hs
          exact hs.elim
        | some v =>
          obtain ⟨hlt, hv⟩ := h.tm d v hn
          have e : nthD .undef s.tm d = v := by rw [nthD_eq, hn]; rfl
          rw [e] at hs
          split at hs
          · rename_i b' hb
            rw [hb] at hv
            have hw := hy b' (AVR_lit.1 hv) hlt
            rw [hw]
            cases hbw : (b' == want) with
            | true => rw [hbw] at hs; rw [if_pos rfl]; exact doit h hfr hs
            | false => rw [hbw] at hs; rw [if_neg (by simp)]; exact skip h hfr hs
          · rename_i b' hb
            rw [hb] at hv
            have hvb := AVR_bool.1 hv
            have hw := hy b' hvb hlt
            rw [hw]
            have hlit : ∀ x : Bool, x = b' → St c us (s.put d (.lit x)) a := fun x hx => h.refine fun _ _ => AVR_lit.2 (by rw [hvb, hx])
            cases b' with
            | true =>
              have hs := hs.1 rfl
              cases want with
              | true => rw [if_pos (by simp)]; exact doit (hlit true rfl) (hfr.refine d _) hs
              | false => rw [if_neg (by simp)]; exact skip (hlit true rfl) (hfr.refine d _) hs
            | false =>
              have hs := hs.2 rfl
              cases want with
              | true => rw [if_neg (by simp)]; exact skip (hlit false rfl) (hfr.refine d _) hs
              | false => rw [if_pos (by simp)]; exact doit (hlit false rfl) (hfr.refine d _) hs
          · exact hs.elim
/-! dropping what is not needed -/
theorem nth_keepL (vars : List Nat) : ∀ (l : List AV) (k0 k : Nat) (v : AV), nth (keepL vars k0 l) k = some v → ∃ v0, nth l k = some v0 ∧ (v = v0 ∨ v = .undef)
  | x :: r, k0, 0, v, h => by
    simp only [keepL, nth, Option.some.injEq] at h
    subst h
    refine ⟨x, rfl, ?_⟩
    cases vars.any (Nat.beq k0) with
    | true => exact .inl rfl
    | false => exact .inr rfl
  | x :: r, k0, k + 1, v, h => nth_keepL vars r _ k v (by simpa [keepL, nth] using h)
  | [], k0, k, v, h => by simp [keepL, nth] at h
theorem lookup_filter {α : Type} {f : Nat → Bool} : ∀ (l : List (Nat × α)) (i : Nat), lookupN (l.filter fun x => f x.1) i = if f i then lookupN l i else none
  | [], i => by simp [lookupN]
  | (k, x) :: r, i => by
    simp only [List.filter_cons]
    have ih := lookup_filter (f := f) r i
    cases hb : Nat.beq i k with
    | true =>
      have e := Nat.eq_of_beq_eq_true hb
      subst e
      cases hf : f i with
      | true => simp [lookupN, hf]
      | false => simp only [hf, Bool.false_eq_true, if_false] at ih ⊢; exact ih
    | false =>
      cases hf : f k with
      | true => simp only [if_true, lookupN, hb, cond_false]; exact ih
      | false => simp only [Bool.false_eq_true, if_false, lookupN, hb, cond_false]; exact ih
/-- A state with fewer boxes and fewer temporaries. -/
theorem St.less (h : St c us s a) {tm : List AV} {f : Nat → Bool} {up : List (List AV)} (ht : ∀ k v, nth tm k = some v → ∃ v0, nth s.tm k = some v0 ∧ (v = v0 ∨ v = .undef)) (hu : up = s.up) :
    St c us { s with tm := tm, bx := s.bx.filter fun x => f x.1, up := up } a := by
  subst hu
  generalize hs' : ({ s with tm := tm, bx := s.bx.filter fun x => f x.1, up := s.up } : AS) = s'
  have hrv : ∀ v, s'.rv v = s.rv v := fun v => by subst hs'; rfl
  have hbx : ∀ i, s'.box i = if f i then s.box i else none := by
    intro i
    subst hs'
    unfold AS.box
    simp only [lookup_filter]
    split <;> rfl
  have hI : ∀ i, c.I s' i = c.I s i ∨ c.I s' i = none := by
    intro i
    unfold Cx.I
    rw [hbx i]
    have : s'.rv = s.rv := funext hrv
    rw [this]
    split
    · exact .inl rfl
    · exact .inr rfl
  have hE : ∀ b k, c.E b k → c.E b k ∧ c.w.heap[k]? = c.w.heap[k]? := fun b k hk => ⟨hk, rfl⟩
  have hup : s'.up = s.up := by subst hs'; rfl
  have htm : s'.tm = tm := by subst hs'; rfl
  refine ⟨?_, h.df, ?_, ?_, ?_, ?_, h.lt⟩
  · intro k v hv
    rw [htm] at hv
    obtain ⟨v0, h1, h2⟩ := ht k v hv
    obtain ⟨h3, h4⟩ := h.tm k v0 h1
    refine ⟨h3, ?_⟩
    rw [hrv]
    rcases h2 with rfl | rfl
    · exact AVR.mono hE _ _ (fun i _ => hI i) h4
    · simp only [AS.rv, AVR]
  · have : s'.rv = s.rv := funext hrv
    rw [this, hup]
    exact UpOK.mono hE s.up us (fun l _ k v _ i _ => hI i) h.up
  · intro i bx hi
    rw [hbx i] at hi
    split at hi
    · have hok := h.bx i bx hi
      cases bx with
      | cst k => exact hok
      | buf t xs => exact hok
      | var v =>
        obtain ⟨blk, cs, T, h1, h2, h3⟩ := hok
        refine ⟨blk, cs, T, h1, h2, ?_⟩
        rw [hrv]
        exact h3.mono hE fun i _ => hI i
    · cases hi
  · intro i j x y hi hj
    rw [hbx] at hi hj
    exact h.inj i j x y (by split at hi <;> first | exact hi | exact (hi rfl).elim) (by split at hj <;> first | exact hj | exact (hj rfl).elim)
  · intro i x hi
    rw [hbx] at hi
    exact h.own i x (by split at hi <;> first | exact hi | exact (hi rfl).elim)
theorem Fr.less (h : Fr b c s) {tm : List AV} {f : Nat → Bool} {up : List (List AV)} : Fr b c { s with tm := tm, bx := s.bx.filter fun x => f x.1, up := up } where
  os := h.os
  tape := h.tape
  output := h.output
  size := h.size
  block := h.block
  own := fun i x hi hx => h.own i x (by
    unfold AS.box at *
    simp only [lookup_filter] at hi
    split at hi
    · exact hi
    · exact (hi rfl).elim) hx
  fz := h.fz
  fz' := h.fz'
  bo := h.bo
theorem St.keepI (h : St c us s a) (vars ids : List Nat) : St c us (s.keepI vars ids) a :=
  h.less (f := fun i => ids.any (Nat.beq i)) (fun k v hv => nth_keepL vars s.tm 0 k v hv) rfl
theorem Fr.keepI (h : Fr b c s) (vars ids : List Nat) : Fr b c (s.keepI vars ids) := h.less (f := fun i => ids.any (Nat.beq i))
theorem keep_ext {vars ids : List Nat} : Ext s (s.keepI vars ids) := Ext.of rfl rfl
end
end Go.Xr

set_option linter.unusedVariables false
set_option linter.unusedSimpArgs false
namespace Go.Xr
open Go

def rvE (env : List AV) (v : AV) : AV := match v with | .cst n => nthD .undef env n | v => v
theorem rv_eq {s : AS} {v : AV} : s.rv v = rvE s.env v := by cases v <;> rfl
theorem rvE_ne {env : List AV} {v : AV} (h : ∀ k, v ≠ .cst k) : rvE env v = v := by cases v <;> first | rfl | exact (h _ rfl).elim
theorem nthD_app {α : Type} (d : α) : ∀ (l m : List α) (k : Nat), k < l.length → nthD d (l ++ m) k = nthD d l k
  | x :: l, m, 0, _ => rfl
  | x :: l, m, k + 1, h => nthD_app d l m k (by simpa using h)
  | [], _, k, h => by simp at h
theorem nthD_last {α : Type} (d x : α) : ∀ (l m : List α), nthD d (l ++ x :: m) l.length = x
  | [], m => rfl
  | y :: l, m => nthD_last d x l m
theorem nthD_out {α : Type} (d : α) : ∀ (l : List α) (k : Nat), l.length ≤ k → nthD d l k = d
  | [], k, _ => rfl
  | x :: l, k + 1, h => nthD_out d l k (by simpa using h)
  | x :: l, 0, h => by simp at h
def Mk (x y : AV) : Prop := y = x ∨ y = .undef ∨ ∃ b, x = .lit b ∧ y = .pv .bool b
theorem inR_spec {e0 m : List AV} {v : AV} : rvE (e0 ++ m) (inR (len e0) v) = rvE e0 v := by
  cases v with
  | cst k =>
    simp only [inR]
    cases hb : Nat.blt k (len e0) with
    | true =>
      have := blt_of hb
      rw [len_eq] at this
      exact nthD_app _ e0 m k this
    | false =>
      have : e0.length ≤ k := by
        rcases Nat.lt_or_ge k e0.length with h | h
        · rw [← len_eq] at h
          have : Nat.blt k (len e0) = true := Nat.ble_eq_true_of_le h
          rw [this] at hb; cases hb
        · exact h
      show AV.undef = nthD .undef e0 k
      rw [nthD_out _ e0 k this]
  | _ => rfl
theorem mark1_spec {e0 e : List AV} {v : AV} {keep lead : Bool} (he : ∃ m, e = e0 ++ m) : (∃ m, (mark1 keep lead (inR (len e0) v) e).2 = e ++ m) ∧ ∀ m, Mk (rvE e0 v) (rvE ((mark1 keep lead (inR (len e0) v) e).2 ++ m) (mark1 keep lead (inR (len e0) v) e).1) := by
  obtain ⟨m0, he⟩ := he
  have hin : ∀ m, rvE (e ++ m) (inR (len e0) v) = rvE e0 v := fun m => by rw [he, List.append_assoc]; exact inR_spec
  unfold mark1
  cases lead with
  | true => exact ⟨⟨[], by simp⟩, fun m => .inl (hin m)⟩
  | false =>
    simp only [cond_false]
    generalize inR (len e0) v = u at *
    cases keep with
    | false =>
      cases u <;> exact ⟨⟨[], by simp⟩, fun m => .inr (.inl rfl)⟩
    | true =>
      have other : (∀ k, u ≠ .cst k) → (∃ m, (AV.cst (len e), List.append e [u]).2 = e ++ m) ∧ ∀ m, Mk (rvE e0 v) (rvE ((AV.cst (len e), List.append e [u]).2 ++ m) (AV.cst (len e), List.append e [u]).1) := by
        intro h1
        refine ⟨⟨[u], rfl⟩, fun m => .inl ?_⟩
        have e2 := hin []
        rw [rvE_ne h1] at e2
        rw [← e2]
        simp only [rvE, len_eq]
        rw [show List.append e [u] ++ m = e ++ u :: m by simp]
        exact nthD_last _ _ e m
      cases u with
      | cst k => exact ⟨⟨[], by simp⟩, fun m => .inl (hin m)⟩
      | undef => exact ⟨⟨[], by simp⟩, fun m => .inr (.inl rfl)⟩
      | lit b =>
        refine ⟨⟨[.pv .bool (pB b)], rfl⟩, fun m => .inr (.inr ⟨b, (hin []).symm, ?_⟩)⟩
        simp only [cond_true, rvE, len_eq]
        rw [show List.append e [AV.pv .bool (pB b)] ++ m = e ++ AV.pv .bool (pB b) :: m by simp]
        exact nthD_last _ _ e m
      | _ => exact other (by intro k h; cases h)
theorem markL_spec (e0 : List AV) (vars : Option (List Nat)) (lead : List Nat) : ∀ (l : List AV) (k0 : Nat) (e : List AV), (∃ m, e = e0 ++ m) →
    (∃ m, (markL (len e0) vars lead k0 l e).2 = e ++ m) ∧ ∀ m j v', nth (markL (len e0) vars lead k0 l e).1 j = some v' → ∃ v, nth l j = some v ∧ Mk (rvE e0 v) (rvE ((markL (len e0) vars lead k0 l e).2 ++ m) v')
  | [], k0, e, _ => ⟨⟨[], by simp [markL]⟩, fun m j v' h => by simp [markL, nth] at h⟩
  | v :: r, k0, e, he => by
    obtain ⟨⟨m1, hm1⟩, hx2⟩ := mark1_spec (v := v) (keep := keepV vars k0) (lead := lead.any (Nat.beq k0)) he
    obtain ⟨m0, he⟩ := he
    generalize hx : mark1 (keepV vars k0) (lead.any (Nat.beq k0)) (inR (len e0) v) e = x at *
    obtain ⟨⟨m2, hm2⟩, ih2⟩ := markL_spec e0 vars lead r (Nat.succ k0) x.2 ⟨m0 ++ m1, by rw [hm1, he, List.append_assoc]⟩
    have e1 : markL (len e0) vars lead k0 (v :: r) e = (x.1 :: (markL (len e0) vars lead (Nat.succ k0) r x.2).1, (markL (len e0) vars lead (Nat.succ k0) r x.2).2) := by simp only [markL, hx]
    rw [e1]
    refine ⟨⟨m1 ++ m2, by rw [hm2, hm1, List.append_assoc]⟩, ?_⟩
    intro m j v' hj
    cases j with
    | zero =>
      simp only [nth, Option.some.injEq] at hj
      subst hj
      refine ⟨v, rfl, ?_⟩
      rw [hm2, List.append_assoc]
      exact hx2 _
    | succ j => exact ih2 m j v' hj
theorem Mk.avr {w : World} {E : Bool → Nat → Prop} {I : Nat → Option BI} {x y : AV} {u : Value} (h : Mk x y) (k : AVR w E I x u) : AVR w E I y u := by
  rcases h with rfl | rfl | ⟨b, rfl, rfl⟩
  · exact k
  · simp only [AVR]
  · exact AVR_bool.2 (AVR_lit.1 k)
theorem markU_spec (e0 : List AV) : ∀ (l : List (List AV)) (e : List AV), (∃ m, e = e0 ++ m) →
    (∃ m, (markU (len e0) l e).2 = e ++ m) ∧ ∀ (m : List AV) {w : World} {E : Bool → Nat → Prop} {I : Nat → Option BI} (us : List (Array Value)), UpOK w E I (rvE e0) l us → UpOK w E I (rvE ((markU (len e0) l e).2 ++ m)) (markU (len e0) l e).1 us
  | [], e, _ => ⟨⟨[], by simp [markU]⟩, fun m => by intros; trivial⟩
  | l :: r, e, he => by
    obtain ⟨⟨m1, h1⟩, h2⟩ := markL_spec e0 none [] l 0 e he
    obtain ⟨m0, he⟩ := he
    obtain ⟨⟨m2, h3⟩, h4⟩ := markU_spec e0 r (markL (len e0) none [] 0 l e).2 ⟨m0 ++ m1, by rw [h1, he, List.append_assoc]⟩
    refine ⟨⟨m1 ++ m2, by show (markU (len e0) r _).2 = _; rw [h3, h1, List.append_assoc]⟩, ?_⟩
    rintro m w E I us ⟨u, q, e1, k1, k2⟩
    refine ⟨u, q, e1, ?_, h4 m q k2⟩
    intro k v' hv
    obtain ⟨v, hv0, hmk⟩ := h2 (m2 ++ m) k v' hv
    obtain ⟨j1, j2⟩ := k1 k v hv0
    refine ⟨j1, ?_⟩
    have : (markU (len e0) (l :: r) e).2 ++ m = (markL (len e0) none [] 0 l e).2 ++ (m2 ++ m) := by
      show (markU (len e0) r _).2 ++ m = _
      rw [h3, List.append_assoc]
    rw [this]
    exact hmk.avr j2
def rbE (benv : List Bx) (b : Bx) : Bx := match b with
  | .cst n => (match nthD (.var .undef) benv n with | .var (.cst _) => .var .undef | b => b)
  | b => b
theorem rb_eq {s : AS} {b : Bx} : s.rb b = rbE s.benv b := by cases b <;> rfl
theorem rbE_app {b0 m : List Bx} {n : Nat} (h : n < b0.length) : rbE (b0 ++ m) (.cst n) = rbE b0 (.cst n) := by simp only [rbE, nthD_app _ b0 m n h]
theorem rbE_var {b0 : List Bx} {n : Nat} {v : AV} (h : rbE b0 (.cst n) = .var v) : ∀ k, v ≠ .cst k := by
  intro k e
  subst e
  simp only [rbE] at h
  split at h
  · cases h
  · rename_i h1
    exact h1 _ h
/-- a box's content, before and behind -/
def BMk (rv : AV → AV) (x y : Bx) : Prop := (∃ t xs, x = .buf t xs ∧ y = .buf t xs) ∨ (∃ v v', x = .var v ∧ y = .var v' ∧ (∀ k, v' ≠ .cst k) ∧ v' = rv v) ∨ (∃ k, x = .cst k) ∨ ∃ v k, x = .var v ∧ rv v = .cst k
theorem markB_spec {rv : AV → AV} (hrv : ∀ v, (∀ k, v ≠ .cst k) → rv v = v) (b0 : List Bx) : ∀ (l : List (Nat × Bx)) (e : List Bx), (∃ m, e = b0 ++ m) →
    (∃ m, (markB rv (len b0) l e).2 = e ++ m) ∧ ∀ m i, (lookupN (markB rv (len b0) l e).1 i = none ∧ lookupN l i = none) ∨ ∃ x y, lookupN l i = some x ∧ lookupN (markB rv (len b0) l e).1 i = some y ∧ BMk rv (rbE b0 x) (rbE ((markB rv (len b0) l e).2 ++ m) y)
  | [], e, _ => ⟨⟨[], by simp [markB]⟩, fun m i => .inl ⟨rfl, rfl⟩⟩
  | (i0, bx) :: r, e, he => by
    obtain ⟨m0, he⟩ := he
    have key : ∃ (y : Bx) (e' : List Bx), markB rv (len b0) ((i0, bx) :: r) e = ((i0, y) :: (markB rv (len b0) r e').1, (markB rv (len b0) r e').2) ∧ (∃ m, e' = e ++ m) ∧ ∀ m, BMk rv (rbE b0 bx) (rbE (e' ++ m) y) := by
      cases bx with
      | cst n =>
        refine ⟨_, e, rfl, ⟨[], by simp⟩, fun m => ?_⟩
        cases hb : Nat.blt n (len b0) with
        | true =>
          have hlt := blt_of hb
          rw [len_eq] at hlt
          simp only [cond_true]
          rw [he, List.append_assoc, rbE_app hlt]
          cases hx : rbE b0 (.cst n) with
          | var v => exact .inr (.inl ⟨v, v, rfl, rfl, rbE_var hx, (hrv v (rbE_var hx)).symm⟩)
          | buf t xs => exact .inl ⟨t, xs, rfl, rfl⟩
          | cst k => exact .inr (.inr (.inl ⟨k, rfl⟩))
        | false =>
          have hge : b0.length ≤ n := by
            rcases Nat.lt_or_ge n b0.length with h | h
            · rw [← len_eq] at h
              have : Nat.blt n (len b0) = true := Nat.ble_eq_true_of_le h
              rw [this] at hb; cases hb
            · exact h
          have : rbE b0 (.cst n) = .var .undef := by simp only [rbE, nthD_out _ b0 n hge]
          rw [this]
          exact .inr (.inl ⟨.undef, .undef, rfl, rfl, (by intro k h; cases h), (hrv _ (by intro k h; cases h)).symm⟩)
      | var v =>
        refine ⟨_, _, rfl, ⟨[.var (rv v)], rfl⟩, fun m => ?_⟩
        by_cases hc : ∃ k, rv v = .cst k
        · obtain ⟨k, hk⟩ := hc
          exact .inr (.inr (.inr ⟨v, k, rfl, hk⟩))
        have hv : ∀ k, rv v ≠ .cst k := fun k e => hc ⟨k, e⟩
        have e1 : rbE (List.append e [Bx.var (rv v)] ++ m) (.cst (len e)) = .var (rv v) := by
          simp only [rbE, len_eq]
          rw [show List.append e [Bx.var (rv v)] ++ m = e ++ Bx.var (rv v) :: m by simp, nthD_last]
          split
          · rename_i k hk; simp only [Bx.var.injEq] at hk; exact (hv k hk).elim
          · rfl
        rw [e1]
        exact .inr (.inl ⟨v, rv v, rfl, rfl, hv, rfl⟩)
      | buf t xs =>
        refine ⟨_, _, rfl, ⟨[.buf t xs], rfl⟩, fun m => ?_⟩
        have e1 : rbE (List.append e [Bx.buf t xs] ++ m) (.cst (len e)) = .buf t xs := by
          simp only [rbE, len_eq]
          rw [show List.append e [Bx.buf t xs] ++ m = e ++ Bx.buf t xs :: m by simp, nthD_last]
        rw [e1]
        exact .inl ⟨t, xs, rfl, rfl⟩
    obtain ⟨y, e', h1, ⟨m1, h2⟩, h3⟩ := key
    obtain ⟨⟨m2, h4⟩, h5⟩ := markB_spec hrv b0 r e' ⟨m0 ++ m1, by rw [h2, he, List.append_assoc]⟩
    rw [h1]
    refine ⟨⟨m1 ++ m2, by show (markB rv (len b0) r e').2 = _; rw [h4, h2, List.append_assoc]⟩, ?_⟩
    intro m i
    simp only [lookupN]
    cases hb : Nat.beq i i0 with
    | true =>
      right
      refine ⟨bx, y, rfl, rfl, ?_⟩
      show BMk rv (rbE b0 bx) (rbE ((markB rv (len b0) r e').2 ++ m) y)
      rw [h4, List.append_assoc]
      exact h3 _
    | false =>
      simp only [cond_false]
      exact h5 m i
section
variable {b : Base} {us : List (Array Value)} {c : Cx} {s : AS} {a : Act}
/-- What is there is made constant. -/
theorem St.mark (h0 : St c us s a) (hfr0 : Fr b c s) (vars lead ids : List Nat) : St c us (s.mark vars lead ids) a ∧ Fr b c (s.mark vars lead ids) ∧ Ext s (s.mark vars lead ids) := by
  have h := h0.keepI (List.append lead vars) ids
  have hfr := hfr0.keepI (List.append lead vars) ids
  have hext : Ext s (s.keepI (List.append lead vars) ids) := keep_ext
  generalize hk : s.keepI (List.append lead vars) ids = k at *
  have hm : s.mark vars lead ids = { k with tm := (markL (len k.env) (some vars) lead 0 k.tm k.env).1, env := (markU (len k.env) k.up (markL (len k.env) (some vars) lead 0 k.tm k.env).2).2, bx := (markB k.rv (len k.benv) k.bx k.benv).1, benv := (markB k.rv (len k.benv) k.bx k.benv).2, up := (markU (len k.env) k.up (markL (len k.env) (some vars) lead 0 k.tm k.env).2).1 } := by
    rw [← hk]; rfl
  generalize hx : markL (len k.env) (some vars) lead 0 k.tm k.env = x at *
  obtain ⟨⟨m1, e1⟩, l1⟩ := markL_spec k.env (some vars) lead k.tm 0 k.env ⟨[], by simp⟩
  rw [hx] at e1 l1
  generalize hy : markU (len k.env) k.up x.2 = y at *
  obtain ⟨⟨m2, e2⟩, l2⟩ := markU_spec k.env k.up x.2 ⟨m1, e1⟩
  rw [hy] at e2 l2
  have hrvk : ∀ v, (∀ j, v ≠ .cst j) → k.rv v = v := fun v hv => by rw [rv_eq]; exact rvE_ne hv
  generalize hz : markB k.rv (len k.benv) k.bx k.benv = z at *
  obtain ⟨⟨m3, e3⟩, l3⟩ := markB_spec hrvk k.benv k.bx k.benv ⟨[], by simp⟩
  rw [hz] at e3 l3
  generalize hs' : s.mark vars lead ids = s' at *
  have henv : s'.env = y.2 := by rw [hm]
  have hbenv : s'.benv = z.2 := by rw [hm]
  have htm : s'.tm = x.1 := by rw [hm]
  have hup : s'.up = y.1 := by rw [hm]
  have hbx : s'.bx = z.1 := by rw [hm]
  have box : ∀ i, (s'.box i = none ∧ k.box i = none) ∨ (∃ t xs, k.box i = some (.buf t xs) ∧ s'.box i = some (.buf t xs)) ∨ (∃ v v', k.box i = some (.var v) ∧ s'.box i = some (.var v') ∧ s'.rv v' = k.rv v) := by
    intro i
    have hb1 : s'.box i = (lookupN z.1 i).map (rbE z.2) := by
      unfold AS.box
      rw [hbx]
      congr 1
      funext b
      rw [rb_eq, hbenv]
    have hb2 : k.box i = (lookupN k.bx i).map (rbE k.benv) := by
      unfold AS.box
      have : k.rb = rbE k.benv := funext fun b => rb_eq
      rw [this]
    rcases l3 [] i with ⟨n1, n2⟩ | ⟨p, q, n1, n2, n3⟩
    · left; rw [hb1, hb2, n1, n2]; exact ⟨rfl, rfl⟩
    · rw [List.append_nil] at n3
      rw [n1] at hb2
      rw [n2] at hb1
      simp only [Option.map_some] at hb1 hb2
      rcases n3 with ⟨t, xs, q1, q2⟩ | ⟨v, v', q1, q2, q3, q4⟩ | ⟨j, q1⟩ | ⟨v, j, q1, q2⟩
      · right; left; exact ⟨t, xs, by rw [hb2, q1], by rw [hb1, q2]⟩
      · right; right
        refine ⟨v, v', by rw [hb2, q1], by rw [hb1, q2], ?_⟩
        rw [rv_eq, rvE_ne q3, q4]
      · rw [q1] at hb2
        exact (h.bx i _ hb2).elim
      · rw [q1] at hb2
        obtain ⟨blk, cs, T, _, _, h3⟩ := h.bx i _ hb2
        exact (h3.ne_cst j q2).elim
  have hI : c.I s' = c.I k := by
    funext i
    unfold Cx.I
    rcases box i with ⟨n1, n2⟩ | ⟨t, xs, n1, n2⟩ | ⟨v, v', n1, n2, n3⟩
    · rw [n1, n2]; rfl
    · rw [n1, n2]; rfl
    · rw [n1, n2]; simp only [boxI, n3]
  have hnone : ∀ i, s'.box i ≠ none → k.box i ≠ none := by
    intro i hi
    rcases box i with ⟨n1, n2⟩ | ⟨t, xs, n1, n2⟩ | ⟨v, v', n1, n2, n3⟩
    · exact (hi n1).elim
    · rw [n1]; simp
    · rw [n1]; simp
  refine ⟨⟨?_, h.df, ?_, ?_, ?_, ?_, h.lt⟩, ⟨hfr.os, hfr.tape, hfr.output, hfr.size, hfr.block, fun i z hi hz => hfr.own i z (hnone i hi) hz, hfr.fz, hfr.fz', hfr.bo⟩, ?_⟩
  · intro j v' hv
    rw [htm] at hv
    obtain ⟨v, hv0, hmk⟩ := l1 m2 j v' hv
    obtain ⟨h1, h2⟩ := h.tm j v hv0
    refine ⟨h1, ?_⟩
    rw [hI, rv_eq, henv, e2]
    rw [rv_eq] at h2
    exact hmk.avr h2
  · rw [hI, hup]
    have : s'.rv = rvE y.2 := by funext v; rw [rv_eq, henv]
    rw [this]
    have hu := h.up
    have hr : k.rv = rvE k.env := funext fun v => rv_eq
    rw [hr] at hu
    have := l2 [] us hu
    rwa [List.append_nil] at this
  · intro i bx hi
    rcases box i with ⟨n1, n2⟩ | ⟨t, xs, n1, n2⟩ | ⟨v, v', n1, n2, n3⟩
    · rw [n1] at hi; cases hi
    · rw [n2] at hi; cases hi; exact h.bx i _ n1
    · rw [n2] at hi
      cases hi
      obtain ⟨blk, cs, T, h1, h2, h3⟩ := h.bx i _ n1
      exact ⟨blk, cs, T, h1, h2, by rw [hI, n3]; exact h3⟩
  · exact fun i j x y hi hj => h.inj i j x y (hnone i hi) (hnone j hj)
  · exact fun i x hi => h.own i x (hnone i hi)
  · refine hext.trans ⟨⟨m1 ++ m2, by rw [henv, e2, e1, List.append_assoc]⟩, m3, by rw [hbenv, e3]⟩
end
end Go.Xr

