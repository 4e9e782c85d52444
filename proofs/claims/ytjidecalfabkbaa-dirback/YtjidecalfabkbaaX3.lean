import Derived.Test.YtjidecalfabkbaaX2
import Derived.OrdersIn
import Derived.Test.YtjidecalfabkbaaX1
import Derived.TacticsIn
import Derived.LoopNIn
import Derived.RangeFuncLeaves
import Derived.RangeFuncRecord
/- the executor, part 3 -/
set_option linter.unusedVariables false
set_option linter.unusedSimpArgs false
set_option linter.unusedSectionVars false
namespace Go.Xr
open Go
section
variable {P : Program} {b : Base} {us : List (Array Value)} {c : Cx} {s : AS} {a : Act} {u : Value}
theorem step_same {i : Nat} (hi : ∀ x, c.ρ i = some x → x.1 < c.w.heap.size) (hb : s.box i ≠ none) : Step1 c c s i where
  fz := rfl
  bo := rfl
  ρ := fun j _ => rfl
  sz := Nat.le_refl _
  os := rfl
  tape := rfl
  output := rfl
  lp := rfl
  mks := rfl
  w := fun k hk => .inl rfl
  i := fun x hx => ⟨hi x hx, .inr ⟨hb, x.2, hx⟩⟩
  cs := fun k hk => rfl
theorem list_blk (h : St c us s a) {x : AV} {l : RL} {blk off m cap : Nat} (hl : s.list x = some l) (hx : AVR c.w c.E (c.I s) x (.slice (some ⟨blk, off, none⟩) m cap)) (hm : m ≠ 0) :
    (∃ b, c.E b blk) ∨ ∃ i, i ∈ (match x with | .sl i => [i] | .slr i _ _ => [i] | .asl i _ _ _ => [i] | _ => []) ∧ s.box i ≠ none ∧ ∃ y, c.ρ i = some y ∧ y.1 = blk := by
  unfold AS.list at hl
  split at hl
  · rename_i b' t xs
    cases hl
    left
    simp only [AVR, RepC, IsV, Ty.isAgg] at hx
    obtain ⟨cs, ⟨ad, cap', rfl, h1, h2, h3⟩, h4⟩ := hx
    simp at h4
    obtain ⟨rfl, rfl, rfl⟩ := h4
    rcases h3 with h3 | ⟨blk', off', cs', h3, h5, _⟩
    · exact (hm h3).elim
    · cases h3; exact ⟨_, h5⟩
  · simp only [AVR, RepC, IsV, Ty.isAgg] at hx
    obtain ⟨cs, ⟨s', rfl, _⟩, h4⟩ := hx
    simp at h4
  · rename_i i
    split at hl
    · rename_i t xs hb
      right
      refine ⟨i, by simp, by rw [hb]; simp, ?_⟩
      obtain ⟨hm', hbx⟩ := h.bx i _ hb
      have hI : c.I s i = some (.buf .sl t (List.length xs) ((c.ρ i).map fun x => (x.1, x.2, roomOf c.w x.1 x.2))) := by simp [Cx.I, boxI, hb]
      cases hρ : c.ρ i with
      | none => rw [hρ] at hI; simp only [AVR, SlAt, hI, Option.map_none] at hx; simp at hx; exact (hm hx.1).elim
      | some y =>
        rw [hρ] at hI
        simp only [AVR, SlAt, hI, Option.map_some] at hx
        obtain ⟨cap', e, _⟩ := hx
        simp at e
        exact ⟨y, rfl, e.1.1.symm⟩
    · cases hl
  · rename_i i off' len
    split at hl
    · rename_i t xs hb
      right
      refine ⟨i, by simp, by rw [hb]; simp, ?_⟩
      have hI : c.I s i = some (.buf .sl t (List.length xs) ((c.ρ i).map fun x => (x.1, x.2, roomOf c.w x.1 x.2))) := by simp [Cx.I, boxI, hb]
      simp only [AVR, SlrAt, hI] at hx
      obtain ⟨_, _, _, ad, cap', e, _, a5, _⟩ := hx
      simp at e
      obtain ⟨rfl, e2, _⟩ := e
      rcases a5 with a5 | ⟨blk', base, room, a6, a7⟩
      · rw [a5] at e2; exact (hm e2).elim
      · cases hρ : c.ρ i with
        | none => rw [hρ] at a6; cases a6
        | some y =>
          rw [hρ] at a6
          simp at a6 a7
          exact ⟨y, rfl, by rw [a6.1, a7.1]⟩
    · cases hl
  · rename_i i p off' len
    split at hl
    · rename_i v hb
      right
      refine ⟨i, by simp, by rw [hb]; simp, ?_⟩
      obtain ⟨blk', cs, T, h1, h2, h3⟩ := h.bx i _ hb
      have hI : c.I s i = some (.var blk' (fun p => offA p (s.rv v)) (fun p => arrA p (s.rv v))) := by simp [Cx.I, boxI, hb, h1]
      simp only [AVR, AslAt, hI] at hx
      obtain ⟨n1, sz, o', _, _, _, _, _, _, ad, cap', e, _, _, a7⟩ := hx
      simp at e
      obtain ⟨rfl, e2, _⟩ := e
      rcases a7 with a7 | a7
      · rw [a7] at e2; exact (hm e2).elim
      · simp at a7
        exact ⟨_, h1, a7.1.symm⟩
    · cases hl
  · cases hl
section
variable {w : World}
def RowOK (w : World) (E : Bool → Nat → Prop) (I : Nat → Option BI) (rv : AV → AV) (row : List AV) (u : Array Value) : Prop := ∀ k v, nth row k = some v → k < u.size ∧ AVR w E I (rv v) (u.getD k undef)
end
theorem lookup_filter {α : Type} {f : Nat → Bool} : ∀ (l : List (Nat × α)) (i : Nat), lookupN (l.filter fun x => f x.1) i = if f i then lookupN l i else none
  | [], i => by simp [lookupN]
  | (k, x) :: r, i => by
    simp only [List.filter_cons]
    have ih := lookup_filter (f := f) r i
    cases hb : Nat.beq i k with
    | true =>
      have e := Nat.eq_of_beq_eq_true hb
      subst e
      cases hf : f i with
      | true => simp [lookupN, hf]
      | false => simp only [hf, Bool.false_eq_true, if_false] at ih ⊢; exact ih
    | false =>
      cases hf : f k with
      | true => simp only [if_true, lookupN, hb, cond_false]; exact ih
      | false => simp only [Bool.false_eq_true, if_false, lookupN, hb, cond_false]; exact ih
theorem St.less (h : St c us s a) {tm : List AV} {f : Nat → Bool} {up : List (List AV)} (ht : ∀ k v, nth tm k = some v → ∃ v0, nth s.tm k = some v0 ∧ (v = v0 ∨ v = .undef)) (hu : up = s.up) :
    St c us { s with tm := tm, bx := s.bx.filter fun x => f x.1, up := up } a := by
  subst hu
  generalize hs' : ({ s with tm := tm, bx := s.bx.filter fun x => f x.1, up := s.up } : AS) = s'
  have hrv : ∀ v, s'.rv v = s.rv v := fun v => by subst hs'; rfl
  have hbx : ∀ i, s'.box i = if f i then s.box i else none := by
    intro i
    subst hs'
    unfold AS.box
    simp only [lookup_filter]
    split <;> rfl
  have hI : ∀ i, c.I s' i = c.I s i ∨ c.I s' i = none := by
    intro i
    unfold Cx.I
    rw [hbx i]
    have : s'.rv = s.rv := funext hrv
    rw [this]
    split
    · exact .inl rfl
    · exact .inr rfl
  have hE : ∀ b k, c.E b k → c.E b k ∧ c.w.heap[k]? = c.w.heap[k]? := fun b k hk => ⟨hk, rfl⟩
  have hup : s'.up = s.up := by subst hs'; rfl
  have htm : s'.tm = tm := by subst hs'; rfl
  refine ⟨?_, h.df, ?_, ?_, ?_, ?_, h.lt, h.mksOf fun i hi => by rw [hbx] at hi; split at hi <;> first | exact hi | exact (hi rfl).elim, h.lv⟩
  · intro k v hv
    rw [htm] at hv
    obtain ⟨v0, h1, h2⟩ := ht k v hv
    obtain ⟨h3, h4⟩ := h.tm k v0 h1
    refine ⟨h3, ?_⟩
    rw [hrv]
    rcases h2 with rfl | rfl
    · exact AVR.mono hE _ _ (fun i _ => hI i) h4
    · simp only [AS.rv, AVR]
  · have : s'.rv = s.rv := funext hrv
    rw [this, hup]
    exact UpOK.mono hE s.up us (fun l _ k v _ i _ => hI i) h.up
  · intro i bx hi
    rw [hbx i] at hi
    split at hi
    · have hok := h.bx i bx hi
      cases bx with
      | cst k => exact hok
      | buf kd t xs => cases kd <;> exact hok
      | var v =>
        obtain ⟨blk, cs, T, h1, h2, h3⟩ := hok
        refine ⟨blk, cs, T, h1, h2, ?_⟩
        rw [hrv]
        exact h3.mono hE fun i _ => hI i
    · cases hi
  · intro i j x y hi hj
    rw [hbx] at hi hj
    exact h.inj i j x y (by split at hi <;> first | exact hi | exact (hi rfl).elim) (by split at hj <;> first | exact hj | exact (hj rfl).elim)
  · intro i x hi
    rw [hbx] at hi
    exact h.own i x (by split at hi <;> first | exact hi | exact (hi rfl).elim)
theorem Fr.less (h : Fr b c s) {tm : List AV} {f : Nat → Bool} {up : List (List AV)} : Fr b c { s with tm := tm, bx := s.bx.filter fun x => f x.1, up := up } where
  os := h.os
  tape := h.tape
  output := h.output
  size := h.size
  block := h.block
  own := fun i x hi hx => h.own i x (by
    unfold AS.box at *
    simp only [lookup_filter] at hi
    split at hi
    · exact hi
    · exact (hi rfl).elim) hx
  fz := h.fz
  fz' := h.fz'
  bo := h.bo
  lp := h.lp
  mks := h.mks
  mks' := h.mks'
  cs := h.cs
theorem St.dropBox (h : St c us s a) (i : Nat) : St c us (s.dropBox i) a := h.less (tm := s.tm) (f := fun j => !(Nat.beq j i)) (up := s.up) (fun k v hv => ⟨v, hv, .inl rfl⟩) rfl
theorem Fr.dropBox (h : Fr b c s) (i : Nat) : Fr b c (s.dropBox i) := h.less (tm := s.tm) (f := fun j => !(Nat.beq j i)) (up := s.up)
theorem box_drop {i j : Nat} : (s.dropBox i).box j = if j = i then none else s.box j := by
  unfold AS.dropBox AS.box
  simp only [lookup_filter (f := fun j => !(Nat.beq j i))]
  by_cases e : j = i
  · subst e; simp
  · have : Nat.beq j i = false := by
      cases hb : Nat.beq j i with
      | true => exact (e (Nat.eq_of_beq_eq_true hb)).elim
      | false => rfl
    rw [this, if_neg e]; rfl
theorem St.retm (h : St c us s a) {tm : List AV} {t : Array Value} (ht : RowOK c.w c.E (c.I s) s.rv tm t) {ds : List Deferred} (hd : Marks c ds) : St c us { s with tm := tm } { tmps := t, defers := ds } :=
  ⟨ht, hd, h.up, h.bx, h.inj, h.own, h.lt, h.mks, h.lv⟩
theorem freeze_ok (h : St c us s a) (hfr : Fr b c s) {i : Nat} {t : Ty} {xs : PL t.T} (hb : s.box i = some (.buf .sl t xs)) : ∃ c' : Cx, c'.w = c.w ∧ St c' us (s.freeze i) a ∧ Fr b c' (s.freeze i) := by
  have hbi : s.box i ≠ none := by rw [hb]; simp
  obtain ⟨hk, _⟩ := h.kill i
  have hd := hk.dropBox i
  have hfd := (hfr.kill i).dropBox i
  have hfz : AS.freeze s i = { (s.kill i).dropBox i with tm := s.tm.map (frzT s i) } := rfl
  generalize hs2 : (s.kill i).dropBox i = s2 at *
  have hbox : ∀ j, s2.box j ≠ none → j ≠ i ∧ s.box j ≠ none := by
    intro j hj
    rw [← hs2, box_drop] at hj
    by_cases e : j = i
    · rw [if_pos e] at hj; exact (hj rfl).elim
    · rw [if_neg e] at hj; exact ⟨e, box_kill_none.1 hj⟩
  let fz' : Nat → Prop := fun k => c.fz k ∨ ∃ y, c.ρ i = some y ∧ y.1 = k
  have hE : ∀ b k, c.E b k → ({ c with fz := fz' } : Cx).E b k ∧ c.w.heap[k]? = c.w.heap[k]? := by
    intro b k hk
    refine ⟨?_, rfl⟩
    rcases hk with hk | hk
    · exact .inl (.inl hk)
    · exact .inr hk
  have hI : ∀ j, ({ c with fz := fz' } : Cx).I s2 j = c.I s2 j := fun j => rfl
  have hIs : ∀ j, c.I s2 j = c.I s j ∨ c.I s2 j = none := by
    intro j
    have hrv : s2.rv = s.rv := by rw [← hs2]; rfl
    by_cases e : j = i
    · right
      unfold Cx.I
      rw [← hs2, box_drop, if_pos e]
      rfl
    · left
      have : c.I (s.kill i) j = c.I s j := kill_I h
      rw [← this]
      unfold Cx.I
      rw [← hs2, box_drop, if_neg e]
      rfl
  have st2 : St { c with fz := fz' } us s2 a := by
    refine ⟨fun k v hv => ⟨(hd.tm k v hv).1, AVR.mono hE _ _ (fun j _ => .inl (hI j)) (hd.tm k v hv).2⟩, hd.df, UpOK.mono hE s2.up us (fun l _ k v _ j _ => .inl (hI j)) hd.up, ?_, hd.inj, ?_, ?_, ?_, hd.lv⟩
    · intro j bx hj
      have hok := hd.bx j bx hj
      cases bx with
      | cst k => exact hok
      | var v =>
        obtain ⟨blk, cs, T, q1, q2, q3⟩ := hok
        exact ⟨blk, cs, T, q1, q2, q3.mono hE (fun j _ => .inl (hI j))⟩
      | buf kd t xs => exact BoxOK.buf_mono (c := c) (c' := { c with fz := fz' }) (s := s2) (i := j) rfl (fun _ _ => rfl) hE (fun _ => rfl) hok
    · intro j x hj hx
      obtain ⟨k1, k2, k3⟩ := hd.own j x hj hx
      refine ⟨k1, fun hz => ?_, k3⟩
      rcases hz with hz | ⟨y, hy, e⟩
      · exact k2 hz
      · obtain ⟨e1, e2⟩ := hbox j hj
        exact e1 (h.inj j i x y e2 hbi hx hy e.symm)
    · intro k hk
      rcases hk with (hk | ⟨y, hy, rfl⟩) | hk
      · exact h.lt k (.inl hk)
      · exact (h.own i y hbi hy).1
      · exact h.lt k (.inr hk)
    · intro r hr
      obtain ⟨m1, m2, m3, m4⟩ := hd.mks r hr
      refine ⟨m1, fun hz => ?_, m3, m4⟩
      rcases hz with hz | ⟨y, hy, e⟩
      · exact m2 hz
      · exact (h.mks r hr).2.2.2 i y hbi hy e
  refine ⟨{ c with fz := fz' }, rfl, ?_, ?_⟩
  · rw [hfz]
    refine st2.retm (t := a.tmps) ?_ (ds := a.defers) st2.df
    have hrv2 : s2.rv = s.rv := by rw [← hs2]; rfl
    intro k v hv
    rw [nth_map] at hv
    cases hn : nth s.tm k with
    | none => rw [hn] at hv; cases hv
    | some v0 =>
      rw [hn] at hv
      simp only [Option.map_some, Option.some.injEq] at hv
      subst hv
      obtain ⟨h1, h2⟩ := h.tm k v0 hn
      refine ⟨h1, ?_⟩
      rw [hrv2]
      unfold frzT
      cases hnm : (s.rv v0).names i with
      | false =>
        simp only [cond_false]
        exact AVR.mono hE _ _ (fun j _ => hIs j) h2
      | true =>
        simp only [cond_true]
        generalize s.rv v0 = V at *
        have key : ∀ l : RL, s.list V = some l → (∀ y, V ≠ .pv .str y) → (∀ blk off m cap, a.tmps.getD k undef = .slice (some ⟨blk, off, none⟩) m cap → m ≠ 0 → ∃ y, c.ρ i = some y ∧ y.1 = blk) →
            AVR c.w ({ c with fz := fz' } : Cx).E (({ c with fz := fz' } : Cx).I s2) (s.rv (.pv (.sl false l.t) l.xs)) (a.tmps.getD k undef) := by
          intro l hl hstr hj
          obtain ⟨hm, hsp⟩ := list_spec h hl h2
          rcases hsp with ⟨y, e, _⟩ | ⟨ad, cap, hu, g1, g2⟩
          · exact (hstr y e).elim
          · simp only [AS.rv, AVR]
            refine ⟨_, ⟨ad, cap, rfl, g1, hm, ?_⟩, by rw [hu]; rfl⟩
            by_cases h0 : List.length l.xs = 0
            · exact .inl h0
            · rcases g2 with g2 | ⟨blk, off, cs, rfl, g3, g4⟩
              · exact (h0 g2).elim
              · exact .inr ⟨blk, off, cs, rfl, .inl (.inr (hj blk off _ cap hu h0)), g3.mono (fun x cs hx => hx.mono fun b k hk => ⟨(hE b k hk).1, rfl⟩), g4⟩
        have hIi : c.I s i = some (.buf .sl t (List.length xs) ((c.ρ i).map fun x => (x.1, x.2, roomOf c.w x.1 x.2))) := by unfold Cx.I; rw [hb]; rfl
        cases V with
        | sl j =>
          have e : i = j := Nat.eq_of_beq_eq_true (by simpa [AV.names] using hnm)
          subst e
          dsimp only
          split
          · rename_i l hl
            refine key l hl (by simp) ?_
            intro blk off m cap hu hm0
            rw [hu] at h2
            simp only [AVR, SlAt, hIi] at h2
            cases hρ : c.ρ i with
            | none =>
              rw [hρ] at h2
              simp only [Option.map_none] at h2
              obtain ⟨ad, e⟩ := h2
              injection e with e1 e2 e3
              exact (hm0 e2).elim
            | some y =>
              rw [hρ] at h2
              simp only [Option.map_some] at h2
              obtain ⟨cap', e, _⟩ := h2
              injection e with e1 e2 e3
              simp only [Option.some.injEq, Addr.mk.injEq, and_true] at e1
              exact ⟨y, rfl, e1.1.symm⟩
          · simp only [AS.rv, AVR]
        | slr j off len =>
          have e : i = j := Nat.eq_of_beq_eq_true (by simpa [AV.names] using hnm)
          subst e
          dsimp only
          split
          · rename_i l hl
            refine key l hl (by simp) ?_
            intro blk off' m cap hu hm0
            rw [hu] at h2
            simp only [AVR, SlrAt, hIi] at h2
            obtain ⟨_, _, _, ad, cap', e, _, e4, _⟩ := h2
            injection e with e1 e2 e3
            rcases e4 with e4 | ⟨blk2, base, room, e5, e6⟩
            · rw [e4] at e2; exact (hm0 e2).elim
            · cases hρ : c.ρ i with
              | none => rw [hρ] at e5; cases e5
              | some y =>
                rw [hρ] at e5
                simp only [Option.map_some, Option.some.injEq, Prod.mk.injEq] at e5
                rw [← e1] at e6
                simp only [Option.some.injEq, Addr.mk.injEq, and_true] at e6
                exact ⟨y, rfl, by rw [e5.1, e6.1]⟩
          · simp only [AS.rv, AVR]
        | _ => simp only [AS.rv, AVR]
  · rw [hfz]
    refine ⟨hfd.os, hfd.tape, hfd.output, hfd.size, hfd.block, fun j x hj hx => hfd.own j x hj hx, fun k hk => ?_, fun k hk => .inl (hfd.fz' k hk), hfd.bo, hfd.lp, hfd.mks, hfd.mks', hfd.cs⟩
    rcases hk with hk | ⟨y, hy, rfl⟩
    · exact hfr.fz k hk
    · exact .inr (hfr.own i y hbi hy)
theorem frzI_ok (h : St c us s a) (hfr : Fr b c s) {i : Nat} : ∃ c' : Cx, c'.w = c.w ∧ St c' us (frzI s i) a ∧ Fr b c' (frzI s i) := by
  unfold frzI
  split
  · rename_i t xs hb
    exact freeze_ok h hfr hb
  · exact ⟨c, rfl, h, hfr⟩
theorem frzO_ok (h : St c us s a) (hfr : Fr b c s) {x : Operand} : ∃ c' : Cx, c'.w = c.w ∧ St c' us (frzO s x) a ∧ Fr b c' (frzO s x) := by
  unfold frzO
  split
  · exact frzI_ok h hfr
  · exact frzI_ok h hfr
  · exact ⟨c, rfl, h, hfr⟩
theorem frzOs_ok : ∀ (ps : List (Nat × Operand)) {c : Cx} {s : AS}, St c us s a → Fr b c s → ∃ c' : Cx, c'.w = c.w ∧ St c' us (frzOs ps s) a ∧ Fr b c' (frzOs ps s)
  | [], c, s, h, hfr => ⟨c, rfl, h, hfr⟩
  | (k, x) :: ps, c, s, h, hfr => by
    obtain ⟨c1, e1, h1, f1⟩ := frzO_ok h hfr (x := x)
    obtain ⟨c2, e2, h2, f2⟩ := frzOs_ok ps h1 f1
    exact ⟨c2, e2.trans e1, h2, f2⟩
theorem frzP_ok (h : St c us s a) (hfr : Fr b c s) {x y : Operand} : ∃ c' : Cx, c'.w = c.w ∧ St c' us (frzP s x y) a ∧ Fr b c' (frzP s x y) := by
  unfold frzP
  split
  · split
    · exact frzO_ok h hfr
    · exact ⟨c, rfl, h, hfr⟩
  · exact ⟨c, rfl, h, hfr⟩
theorem nilP_ok {K : Kit} {T : TypeId} (h : St c us s a) (hfr : Fr b c s) {x y : Operand} : ∃ c' : Cx, c'.w = c.w ∧ St c' us (nilP K s T x y).1 a ∧ Fr b c' (nilP K s T x y).1 ∧ AVR c'.w c'.E (c'.I (nilP K s T x y).1) (nilP K s T x y).2 (a.eval y) := by
  have hy := h.ev y
  unfold nilP
  split
  · rename_i hv _
    rw [hv] at hy
    split
    · obtain ⟨c', e1, h1, h2, h3, _⟩ := h.nilBuf hfr
      simp only [AVR] at hy
      exact ⟨c', e1, h1, h2, by rw [hy]; exact h3⟩
    · exact ⟨c, rfl, h, hfr, hy⟩
  · exact ⟨c, rfl, h, hfr, hy⟩
theorem nilP_env {K : Kit} {T : TypeId} {x y : Operand} : (nilP K s T x y).1.env = s.env ∧ (nilP K s T x y).1.benv = s.benv := by
  unfold nilP
  split
  · split <;> exact ⟨rfl, rfl⟩
  · exact ⟨rfl, rfl⟩
theorem freeze_env {i : Nat} : (s.freeze i).env = s.env ∧ (s.freeze i).benv = s.benv := ⟨rfl, rfl⟩
theorem frzI_env {i : Nat} : (frzI s i).env = s.env ∧ (frzI s i).benv = s.benv := by unfold frzI; split <;> exact ⟨rfl, rfl⟩
theorem frzO_env {x : Operand} : (frzO s x).env = s.env ∧ (frzO s x).benv = s.benv := by unfold frzO; split <;> first | exact frzI_env | exact ⟨rfl, rfl⟩
theorem frzOs_env : ∀ (ps : List (Nat × Operand)) (s : AS), (frzOs ps s).env = s.env ∧ (frzOs ps s).benv = s.benv
  | [], s => ⟨rfl, rfl⟩
  | (k, x) :: ps, s => by
    obtain ⟨h1, h2⟩ := frzOs_env ps (frzO s x)
    exact ⟨h1.trans frzO_env.1, h2.trans frzO_env.2⟩
theorem frzP_env {x y : Operand} : (frzP s x y).env = s.env ∧ (frzP s x y).benv = s.benv := by
  unfold frzP
  split
  · split
    · exact frzO_env
    · exact ⟨rfl, rfl⟩
  · exact ⟨rfl, rfl⟩
end
end Go.Xr
namespace Go.Xr
open Go
section
variable {F : Fence} {n : Nat} {P : Program} {K : Kit} {o : Oper} {a : Act} {w w' : World} {Qx : Exit → Act → World → Prop} {u : Value}
variable {b : Base} {us : List (Array Value)} {c c' : Cx} {s s' : AS} {Q : Ex → AS → Prop} {T : TypeId} {call : Oper → AV → List AV → AS → Tree}
def Keeps (w w' : World) : Prop := ∀ (k : Nat) (x : Obj), w.heap[k]? = some x → w'.heap[k]? = some x
theorem Keeps.refl (w : World) : Keeps w w := fun _ _ h => h
def CallSound (pf : FuncId → Bool) (P : Program) (L : Nat → Option LD) (us0 : List (Array Value)) (call : Oper → AV → List AV → AS → Tree) : Prop :=
  ∀ (F : Fence) (n : Nat) (pre : List (Array Value)) (b : Base), HF F → (∀ i d, loopB ≤ i → L i = some d → b.lp0 i = some d) →
  ∀ {o : Oper} {cl : Call} {x : Operand} {a : Act} {c : Cx} {s : AS} {us : List (Array Value)} {Q : Ex → AS → Prop} {Qx : Exit → Act → World → Prop}, us = pre ++ us0 →
    o.op = .call cl → cl.callee = .value x → St c us s a → Fr b c s → (call o (s.ev x) (cl.args.toList.map s.ev) s).sat Q → o.wpIn F n P a c.w (fun a' w' => (∀ f, x = .func f → pf f = true → Keeps c.w w') ∧ Abs b us Q a' w') Qx
theorem CallSound.mono {pf : FuncId → Bool} {P : Program} {L L' : Nat → Option LD} {us0 : List (Array Value)} {call : Oper → AV → List AV → AS → Tree} (h : CallSound pf P L us0 call) (hL : ∀ i d, loopB ≤ i → L i = some d → L' i = some d) (pre : List (Array Value))   : CallSound pf P L' (pre ++ us0) call := by
  intro F n pre' b hF hb o cl x a c s us Q Qx hu
  exact h F n (pre' ++ pre) b hF (fun i d hl hi => hb i d hl (hL i d hl hi)) (by rw [hu, List.append_assoc])
theorem zeroO_spec {x : Option Operand} (h : zeroO x = true) : ∃ k, x = some (.const (.int k 0)) := by
  unfold zeroO at h
  split at h
  · rename_i k n
    have := of_decide_eq_true h
    subst this
    exact ⟨k, rfl⟩
  · cases h
theorem builtinT_sound (hF : HF F) (hK : KitOK P K) (h : St c us s a) (hfr : Fr b c s) {cl : Call} {bi : Builtin} (ho : o.op = .call cl) (hc : cl.callee = .builtin bi) (hs : (builtinT K s o bi cl.argTypes.toList (cl.args.toList.map s.ev)).sat Q) :
    o.wpIn F n P a c.w (Abs b us Q) Qx := by
  generalize hTs : cl.argTypes.toList = Ts at hs
  generalize hXs : cl.args.toList.map s.ev = Xs at hs
  unfold builtinT at hs
  split at hs
  · obtain ⟨x, e1, hX⟩ := map1 hXs
    exact lenMap_sound hF hK h hfr ho hc (toList1 hTs) (toList1 e1) hX hs
  · obtain ⟨x, e1, rfl⟩ := map1 hXs
    exact (lenT_sound hF hK h hfr ho hc (toList1 hTs) (toList1 e1) hs).1
  · obtain ⟨x, y, e1, hX, hY⟩ := map2 hXs
    exact appMake_sound hF hK h hfr ho hc (toList2 hTs) (toList2 e1) hX hY hs
  · obtain ⟨x, y, e1, rfl, rfl⟩ := map2 hXs
    exact appendT_sound hF hK h hfr ho hc (toList2 hTs) (toList2 e1) hs
  · obtain ⟨x, e1, hX⟩ := map1 hXs
    exact capNil_sound hF hK h hfr ho hc (toList1 hTs) (toList1 e1) hX hs
  · obtain ⟨x, y, e1, rfl, rfl⟩ := map2 hXs
    exact (minmaxT_sound hF h hfr (mx := false) ho hc (toList2 e1) hs).1
  · obtain ⟨x, y, e1, rfl, rfl⟩ := map2 hXs
    exact (minmaxT_sound hF h hfr (mx := true) ho hc (toList2 e1) hs).1
  · obtain ⟨x, y, e1, rfl, rfl⟩ := map2 hXs
    exact mapDel_sound hF hK h hfr ho hc hTs (toList2 e1) hs
  · obtain ⟨x, e1, rfl⟩ := map1 hXs
    exact mapClear_sound hF hK h hfr ho hc (toList1 hTs) (toList1 e1) hs
  · exact hs.elim
theorem opT_sound (hF : HF F) (hK : KitOK P K) (hcall : CallSound K.pf P b.lp0 us call) (h : St c us s a) (hfr : Fr b c s) (hs : (opT K call s o).sat Q) : o.wpIn F n P a c.w (Abs b us Q) Qx := by
  have hs0 := hs
  unfold opT at hs
  cases ho : o.op with
  | move x => rw [ho] at hs; exact (move_sound hF h hfr (.inl ho) hs).1
  | assign x =>
    rw [ho] at hs
    simp only at hs
    split at hs
    · rename_i hX
      split at hs
      · exact assignNil_sound hF hK h hfr ho hX hs
      · exact hs.elim
    · exact (move_sound hF h hfr (.inr ho) hs).1
  | pick x y z => exact (pick_sound hF h hfr ho hs0).1
  | alloc T => exact alloc_sound hF hK h hfr ho hs0
  | box T x =>
    rw [ho] at hs
    simp only at hs
    split at hs
    · rename_i hX _
      exact boxNil_sound hF h hfr ho hX hs
    · exact box_sound hF h hfr ho rfl hs
  | build T ps =>
    rw [ho] at hs
    simp only at hs
    split at hs
    · obtain ⟨c1, e1, h1, f1⟩ := frzOs_ok ps.toList h hfr
      rw [← e1]
      exact build_sound hF hK h1 f1 ho hs
    · exact build_sound hF hK h hfr ho hs
  | buildSlice T m ps =>
    rw [ho] at hs
    simp only at hs
    split at hs
    · rename_i t hel
      obtain ⟨c1, e1, h1, f1⟩ := frzOs_ok ps.toList h hfr
      rw [← e1]
      exact buildSlice_core hF hK h1 f1 ho hel hs
    · exact hs.elim
  | load T x => rw [ho] at hs; exact loadT_sound hF hK h hfr ho hs
  | store T x y =>
    rw [ho] at hs
    simp only at hs
    obtain ⟨c1, e1, h1, f1⟩ := frzP_ok h hfr (x := x) (y := y)
    obtain ⟨c2, e2, h2, f2, hv⟩ := nilP_ok (K := K) (T := T) h1 f1 (x := x) (y := y)
    rw [← e1, ← e2]
    split at hs
    · rename_i i p hX
      replace hs := sat_ok hs; obtain ⟨hk, hs⟩ := hs
      exact storeT_sound hF hK h2 f2 ho hX (asP_avr hv) hk hs
    · exact hs.elim
  | nilCheck x => exact (nilCheck_sound hF h hfr ho hs0).1
  | binOp op T x y T' =>
    rw [ho] at hs
    simp only at hs
    unfold eqnT at hs
    split at hs
    · rename_i hy
      exact (nilT_sound (bb := true) hF hK h hfr ho hy hs).1
    · rename_i hy
      exact (nilT_sound (bb := false) hF hK h hfr ho hy hs).1
    · exact (binT_sound hF hK h hfr ho hs).1
  | unOp op T x => rw [ho] at hs; exact (unT_sound hF h hfr ho hs).1
  | convert T D x =>
    rw [ho] at hs
    by_cases hD : ∃ e, K.td D = .slice e
    · exact convBytes_sound hF hK h hfr ho hs hD
    · exact convT_sound1 hF hK h hfr ho hs (fun e he => hD ⟨e, he⟩)
  | makeSlice T l m => exact makeSlice_sound hF hK h hfr ho hs0
  | slice T x lo hi mx =>
    rw [ho] at hs
    cases mx with
    | none => exact (sliceT_sound hF hK h hfr ho hs).1
    | some m =>
      obtain ⟨hk, hs⟩ := sat_ok hs
      simp only [Bool.and_eq_true] at hk
      obtain ⟨⟨k1, k2⟩, k3⟩ := hk
      obtain rfl : lo = none := by cases lo <;> first | rfl | cases k1
      obtain ⟨t1, rfl⟩ := zeroO_spec k2
      obtain ⟨t2, e2⟩ := zeroO_spec k3
      cases e2
      exact slice0_sound hF hK h hfr ho hs
  | fieldAddr T x f => rw [ho] at hs; exact (fieldAddrT_sound hF hK h hfr ho hs).1
  | field T x f => exact (fieldT_sound hF hK h hfr ho hs0).1
  | indexAddr T x i => rw [ho] at hs; exact (idxAddrT_sound hF hK h hfr ho hs).1
  | index T x i => exact (indexT_sound hF hK h hfr ho hs0).1
  | makeMap T r =>
    rw [ho] at hs
    cases r with
    | none => exact makeMap_sound hF hK h hfr ho hs
    | some _ => exact hs.elim
  | lookup T m i comma => rw [ho] at hs; exact lookup_sound hF hK h hfr ho hs
  | mapUpdate T m i v =>
    rw [ho] at hs
    simp only at hs
    obtain ⟨c1, e1, h1, f1⟩ := frzO_ok h hfr (x := v)
    rw [← e1]
    exact mapSet_sound hF hK h1 f1 ho hs
  | sliceToArrayPointer A x => rw [ho] at hs; exact arrayAt_sound hF hK h hfr ho hs
  | extract x i => exact (extract_sound hF h hfr ho hs0).1
  | makeFunc fn first cs => exact (makeFunc_sound hF h hfr ho hs0).1
  | call cl =>
    rw [ho] at hs
    simp only at hs
    split at hs
    · rename_i bi hc
      exact builtinT_sound hF hK h hfr ho hc hs
    · rename_i x hc
      exact Oper.wpIn_mono (fun _ _ hh => hh.2) (hcall F n [] b hF (fun _ _ _ h => h) rfl ho hc h hfr hs)
    · exact hs.elim
  | _ => rw [ho] at hs; exact hs.elim
theorem St.refine (h : St c us s a) {d : Nat} {v : AV} (hv : ∀ x, nth s.tm d = some x → AVR c.w c.E (c.I s) v (a.tmps.getD d undef)) : St c us (s.put d v) a := by
  by_cases hd : (nth s.tm d).isSome
  · obtain ⟨x, hx⟩ := Option.isSome_iff_exists.1 hd
    have := h.put (hv x hx) d
    have e : a.put (some d) (a.tmps.getD d undef) = a := by
      have hlt := (h.tm d x hx).1
      cases a with
      | mk tmps defers =>
        simp only [Act.put, Act.mk.injEq, and_true]
        apply Array.ext
        · simp
        · intro i h1 h2
          rw [Array.getElem_setIfInBounds]
          split
          · rename_i e; subst e; simp [Array.getD, h2]
          · rfl
    rwa [e] at this
  · have e : s.put d v = s := by
      have : s.tm.set d v = s.tm := by
        have hn : nth s.tm d = none := by simpa using hd
        rw [nth_eq, List.getElem?_eq_none_iff] at hn
        exact List.set_eq_of_length_le hn
      unfold AS.put
      rw [this]
    rw [e]
    exact h
theorem Fr.refine (h : Fr b c s) (d : Nat) (v : AV) : Fr b c (s.put d v) := h.put d v
theorem skip_abs (h : St c us s a) (hfr : Fr b c s) {d : Option Nat} (hs : Q .normal (s.putO d .undef)) : Abs b us Q (a.put d undef) c.w :=
  ⟨c, _, rfl, hs, h.putO (by simp only [AVR]) d, hfr.putO d .undef⟩
theorem skipG_abs (h : St c us s a) (hfr : Fr b c s) {d : Option Nat} (hs : Q .normal (s.putO d (.tup []))) : Abs b us Q (a.put d undef) c.w :=
  ⟨c, _, rfl, hs, h.putO (by simp only [AVR]; exact ⟨[], rfl, rfl⟩) d, hfr.putO d (.tup [])⟩
end
end Go.Xr
namespace Go.Xr
open Go
inductive SV where
  | undef | hole (t : Ty) | nil (k : NK) | ptr (i : Nat) (p : List Stp) | sl (i : Nat) | mp (i : Nat) | yld (i : Nat)
  | clo (f : FuncId) (cs : List SV) | agg (fs : List SV) | tup (fs : List SV) | cst (n : Nat)
inductive SB where | var (v : SV) | buf (kd : BK) (t : Ty) | cst (n : Nat)
structure SS where
  tm : List SV
  bx : List (Nat × SB)
  up : List (List SV)
inductive SE where | normal | exit (id : Nat) | ret (vs : List SV)
mutual
def SV.holes : SV → List Ty
  | .hole t => [t] | .clo _ cs => holesL cs | .agg fs => holesL fs | .tup fs => holesL fs | _ => []
def holesL : List SV → List Ty
  | [] => [] | v :: r => List.append v.holes (holesL r)
end
def SB.holes : SB → List Ty | .var v => v.holes | .buf _ t => [.sl false t] | .cst _ => []
def SE.holes : SE → List Ty | .ret vs => holesL vs | _ => []
def holesB : List (Nat × SB) → List Ty | [] => [] | (_, b) :: r => List.append b.holes (holesB r)
def holesU : List (List SV) → List Ty | [] => [] | l :: r => List.append (holesL l) (holesU r)
def SS.holes (s : SS) : List Ty := List.append (holesL s.tm) (List.append (holesB s.bx) (holesU s.up))
mutual
def AV.shape : AV → SV
  | .pv t _ => .hole t | .lit _ => .hole .bool | .nil k => .nil k | .ptr i p => (match p with | [] => .ptr i [] | _ => .undef) | .sl i => .sl i | .mp i => .mp i | .yld i => .yld i
  | .clo f cs => .clo f (shapeL cs) | .agg fs => .agg (shapeL fs) | .tup fs => .tup (shapeL fs) | .cst n => .cst n
  | _ => .undef
def shapeL : List AV → List SV
  | [] => [] | v :: r => v.shape :: shapeL r
end
def Bx.shape : Bx → SB | .var v => .var v.shape | .buf kd t _ => .buf kd t | .cst n => .cst n
def AS.low (s : AS) (n : Nat) : AV → AV
  | .cst k => bif Nat.blt k n then .cst k else nthD .undef s.env k
  | v => v
def AS.lowB (s : AS) (m : Nat) : Bx → Bx
  | .cst k => bif Nat.blt k m then .cst k else nthD (.var .undef) s.benv k
  | b => b
def AS.shape (s : AS) (n m : Nat) : SS :=
  { tm := s.tm.map fun v => (s.low n v).shape, bx := s.bx.map fun (i, b) => (i, (match s.lowB m b with | .var v => Bx.var (s.low n v) | b => b).shape), up := s.up.map fun l => l.map fun v => (s.low n v).shape }
def Ex.shape : Ex → SE | .normal => .normal | .exit i => .exit i | .ret vs => .ret (shapeL vs)
mutual
def SV.fill : SV → List PV → AV × List PV
  | .hole t, p :: r => (.pv t ((p.as t).getD t.dflt), r)
  | .hole _, [] => (.undef, [])
  | .undef, r => (.undef, r) | .nil k, r => (.nil k, r) | .ptr i p, r => (.ptr i p, r) | .sl i, r => (.sl i, r) | .mp i, r => (.mp i, r) | .yld i, r => (.yld i, r) | .cst n, r => (.cst n, r)
  | .clo f cs, r => let (l, r) := fillL cs r; (.clo f l, r)
  | .agg fs, r => let (l, r) := fillL fs r; (.agg l, r)
  | .tup fs, r => let (l, r) := fillL fs r; (.tup l, r)
def fillL : List SV → List PV → List AV × List PV
  | [], r => ([], r)
  | v :: vs, r => let (x, r) := v.fill r; let (l, r) := fillL vs r; (x :: l, r)
end
def SB.fill : SB → List PV → Bx × List PV
  | .var v, r => let (x, r) := v.fill r; (.var x, r)
  | .buf kd t, p :: r => (.buf kd t ((p.as (.sl false t)).getD pNil), r)
  | .buf kd t, [] => (.buf kd t pNil, [])
  | .cst n, r => (.cst n, r)
def fillB : List (Nat × SB) → List PV → List (Nat × Bx) × List PV
  | [], r => ([], r)
  | (i, b) :: bs, r => let (x, r) := b.fill r; let (l, r) := fillB bs r; ((i, x) :: l, r)
def fillU : List (List SV) → List PV → List (List AV) × List PV
  | [], r => ([], r)
  | v :: vs, r => let (x, r) := fillL v r; let (l, r) := fillU vs r; (x :: l, r)
def SS.fill (σ : SS) (s : AS) (r : List PV) : AS × List PV :=
  let (tm, r) := fillL σ.tm r; let (bx, r) := fillB σ.bx r; let (up, r) := fillU σ.up r; ({ s with tm := tm, bx := bx, up := up }, r)
def SE.fill : SE → List PV → Ex × List PV
  | .normal, r => (.normal, r) | .exit i, r => (.exit i, r)
  | .ret vs, r => let (l, r) := fillL vs r; (.ret l, r)
abbrev IdMap := List (Nat × Nat)
def IdMap.get (m : IdMap) (i : Nat) : Nat := match lookupN m i with | some j => j | none => i
def IdMap.add (m : IdMap) (i j : Nat) : IdMap := match lookupN m i with | some _ => m | none => (i, j) :: m
mutual
def SV.find (s : AS) : SV → AV → IdMap → IdMap
  | .sl i, v, m => (match s.rv v with | .sl j => m.add i j | _ => m)
  | .mp i, v, m => (match s.rv v with | .mp j => m.add i j | _ => m)
  | .yld i, v, m => (match s.rv v with | .yld j => m.add i j | _ => m)
  | .ptr i _, v, m => (match s.rv v with | .ptr j _ => m.add i j | _ => m)
  | .clo _ cs, v, m => (match s.rv v with | .clo _ ds => findL s cs ds m | _ => m)
  | .agg fs, v, m => (match s.rv v with | .agg gs => findL s fs gs m | _ => m)
  | .tup fs, v, m => (match s.rv v with | .tup gs => findL s fs gs m | _ => m)
  | _, _, m => m
def findL (s : AS) : List SV → List AV → IdMap → IdMap
  | v :: vs, x :: xs, m => findL s vs xs (v.find s x m)
  | _, _, m => m
end
def findB (s : AS) : List (Nat × SB) → IdMap → IdMap
  | [], m => m
  | (i, .var v) :: bs, m => findB s bs (match s.box (m.get i) with | some (.var x) => v.find s x m | _ => m)
  | _ :: bs, m => findB s bs m
def findU (s : AS) : List (List SV) → List (List AV) → IdMap → IdMap
  | v :: vs, x :: xs, m => findU s vs xs (findL s v x m)
  | _, _, m => m
def SS.find (σ : SS) (s : AS) (m : IdMap) : IdMap := findU s σ.up s.up (findB s σ.bx (findL s σ.tm s.tm m))
mutual
def SV.get (s : AS) (m : IdMap) (st : Bool) : SV → AV → Option (List PV)
  | .undef, v => bif st then (match s.rv v with | .pv _ _ => none | .agg _ => none | .tup _ => none | .cst _ => none | _ => some []) else some []
  | .hole t, v => (match s.toPV (s.rv v) with | some p => bif p.t.eqt t then some [p] else none | none => none)
  | .cst n, .cst k => bif st then none else bif Nat.beq n k then some [] else none
  | .nil k, v => (match s.rv v with | .nil k' => bif k.eq k' then some [] else none | _ => none)
  | .sl i, v => (match s.rv v with | .sl j => bif Nat.beq (m.get i) j then some [] else none | _ => none)
  | .mp i, v => (match s.rv v with | .mp j => bif Nat.beq (m.get i) j then some [] else none | _ => none)
  | .yld i, v => (match s.rv v with | .yld j => bif Nat.beq (m.get i) j then some [] else none | _ => none)
  | .ptr i [], v => (match s.rv v with | .ptr j [] => bif Nat.beq (m.get i) j then some [] else none | _ => none)
  | .clo f cs, v => (match s.rv v with | .clo g ds => bif Nat.beq f g then getL s m false cs ds else none | _ => none)
  | .agg fs, v => (match s.rv v with | .agg gs => getL s m true fs gs | _ => none)
  | .tup fs, v => (match s.rv v with | .tup gs => getL s m false fs gs | _ => none)
  | _, _ => none
def getL (s : AS) (m : IdMap) (st : Bool) : List SV → List AV → Option (List PV)
  | [], [] => some []
  | v :: vs, x :: xs => (match v.get s m st x, getL s m st vs xs with | some l, some l' => some (List.append l l') | _, _ => none)
  | _, _ => none
end
def getR (s : AS) (m : IdMap) : List SV → List AV → Option (List PV)
  | [], _ => some []
  | v :: vs, x :: xs => (match v.get s m false x, getR s m vs xs with | some l, some l' => some (List.append l l') | _, _ => none)
  | _ :: _, [] => none
def SB.get (s : AS) (m : IdMap) (i : Nat) : SB → Option (List PV)
  | .cst n => (match lookupN s.bx (m.get i) with | some (.cst k) => bif Nat.beq n k then some [] else none | _ => none)
  | .buf kd t => (match s.box (m.get i) with | some (.buf kd' t' xs) => bif kd.eq kd' && t.eqt t' then some [⟨.sl false t', xs⟩] else none | _ => none)
  | .var v => (match s.box (m.get i) with | some (.var x) => v.get s m true x | _ => none)
def getB (s : AS) (m : IdMap) : List (Nat × SB) → Option (List PV)
  | [] => some []
  | (i, b) :: bs => (match b.get s m i, getB s m bs with | some l, some l' => some (List.append l l') | _, _ => none)
def getU (s : AS) (m : IdMap) : List (List SV) → List (List AV) → Option (List PV)
  | [], [] => some []
  | [], _ :: _ => none
  | v :: vs, x :: xs => (match getR s m v x, getU s m vs xs with | some l, some l' => some (List.append l l') | _, _ => none)
  | _ :: _, [] => none
def SS.get (σ : SS) (s : AS) (m : IdMap) : Option (List PV) :=
  match getR s m σ.tm s.tm, getB s m σ.bx, getU s m σ.up s.up with
  | some l, some l', some l'' => some (List.append l (List.append l' l''))
  | _, _, _ => none
def nodupN : List Nat → Bool
  | [] => true | x :: r => !(r.any (Nat.beq x)) && nodupN r
mutual
def SV.uses (s : AS) (i : Nat) : SV → Bool
  | .cst n => (nthD .undef s.env n).names i | .clo _ cs => usesL s i cs | .agg fs => usesL s i fs | .tup fs => usesL s i fs | _ => false
def usesL (s : AS) (i : Nat) : List SV → Bool
  | [] => false | v :: r => v.uses s i || usesL s i r
end
def SB.uses (s : AS) (i : Nat) : SB → Bool
  | .var v => v.uses s i
  | .cst n => (match nthD (.var .undef) s.benv n with | .var v => (s.rv v).names i | _ => false)
  | _ => false
def SS.uses (s : AS) (i : Nat) (σ : SS) : Bool := usesL s i σ.tm || σ.bx.any (fun x => x.2.uses s i) || σ.up.any (usesL s i)
def freeB (s : AS) (j : Nat) : Bool := match s.box j with | some (.buf kd _ _) => kd.free | _ => true
def SS.ok (σ : SS) (s : AS) (m : IdMap) (vs : List SV) : Bool :=
  nodupN (σ.bx.map fun x => m.get x.1) && σ.bx.all fun x => Nat.beq (m.get x.1) x.1 || (!(σ.uses s x.1 || usesL s x.1 vs) && freeB s (m.get x.1))
def SS.inR (s0 : AS) (σ : SS) : Bool := σ.bx.all fun x => match x.2 with | .cst n => Nat.blt n (len s0.benv) | _ => true
def SS.take (σ : SS) (s : AS) : Option (List PV) :=
  let m := σ.find s []
  bif σ.ok s m [] then σ.get s m else none
structure Way where
  e : SE
  σ : SS
def Way.holes (w : Way) : List Ty := List.append w.e.holes w.σ.holes
def Way.take (w : Way) (e : Ex) (s : AS) : Option (HL w.holes) :=
  (match w.e, e with
    | .normal, .normal => (match w.σ.take s with | some l => HL.mk _ l | none => none)
    | .exit i, .exit j => bif Nat.beq i j then (match w.σ.take s with | some l => HL.mk _ l | none => none) else none
    | .ret vs, .ret us => (let m := w.σ.find s (findL s vs us [])
      bif w.σ.ok s m vs then (match getL s m false vs us, w.σ.get s m with | some l, some l' => HL.mk _ (List.append l l') | _, _ => none) else none)
    | _, _ => none)
def Way.leaf (w : Way) (s : AS) (d : HL w.holes) : Tree :=
  let (e, r) := w.e.fill (HL.out _ d); .leaf e (w.σ.fill s r).1
@[reducible] def Ways : List Way → Type
  | [] => PU | [w] => HL w.holes | w :: r => PSum (HL w.holes) (Ways r)
def Ways.take : (l : List Way) → Ex → AS → Option (Ways l)
  | [], _, _ => none
  | [w], e, s => w.take e s
  | w :: w' :: r, e, s => match w.take e s with
    | some d => some (pInl d)
    | none => (match Ways.take (w' :: r) e s with | some x => some (pInr x) | none => none)
def Ways.dflt : (l : List Way) → Ways l
  | [] => pU | [w] => HL.dflt w.holes | w :: _ :: _ => pInl (HL.dflt w.holes)
def Ways.tree (s : AS) : (l : List Way) → Ways l → Tree
  | [], _ => .fail
  | [w], d => w.leaf s d
  | w :: w' :: r, x => casesT (HL.dflt w.holes) (Ways.dflt (w' :: r)) x (w.leaf s) (Ways.tree s (w' :: r))
def AS.keepI (s : AS) (vars ids : List Nat) : AS := { s with tm := keepL vars 0 s.tm, bx := s.bx.filter fun x => ids.any (Nat.beq x.1) }
def Tree.tidy (t : Tree) (vars ids : List Nat) : Tree := t.bind fun e s => match e with | .normal => .leaf .normal (s.keepI vars ids) | e => .leaf e s
def Way.fits (s : AS) (w : Way) : Bool :=
  (w.σ.bx.all fun x => match x.2 with | .cst n => (match lookupN s.bx x.1 with | some (.cst k) => Nat.beq n k | _ => false) | _ => true) &&
  w.σ.tm.all fun v => match v with | .cst n => s.bx.all fun x => !((nthD .undef s.env n).names x.1) || w.σ.bx.any fun y => Nat.beq y.1 x.1 | _ => true
def fitW (s : AS) (l : List Way) : List Way := l.filter (Way.fits s)
noncomputable def Tree.sumW (s0 : AS) (l : List Way) (t : Tree) : Tree :=
  okT (l.all fun w => w.σ.inR s0) (bndT (Ways.dflt l) (t.run fun e s => pOpt (Ways.take l e s)) (Ways.tree s0 l))
def Ex.isNormal : Ex → Bool | .normal => true | _ => false
def inR (n0 : Nat) (v : AV) : AV := match v with | .cst k => bif Nat.blt k n0 then .cst k else .undef | v => v
def mark1 (keep lead : Bool) (v : AV) (e : List AV) : AV × List AV :=
  bif lead then (v, e) else match v with
    | .cst n => (bif keep then .cst n else .undef, e)
    | .undef => (.undef, e)
    | .lit b => bif keep then (.cst (len e), List.append e [.pv .bool (pB b)]) else (.undef, e)
    | v => bif keep then (.cst (len e), List.append e [v]) else (.undef, e)
def keepV (vars : Option (List Nat)) (k : Nat) : Bool := match vars with | some l => l.any (Nat.beq k) | none => true
def markL (n0 : Nat) (vars : Option (List Nat)) (lead : List Nat) : Nat → List AV → List AV → List AV × List AV
  | _, [], e => ([], e)
  | k, v :: r, e =>
    let x := mark1 (keepV vars k) (lead.any (Nat.beq k)) (inR n0 v) e
    let y := markL n0 vars lead (Nat.succ k) r x.2
    (x.1 :: y.1, y.2)
def markU (n0 : Nat) : List (List AV) → List AV → List (List AV) × List AV
  | [], e => ([], e)
  | l :: r, e => let x := markL n0 none [] 0 l e; let y := markU n0 r x.2; (x.1 :: y.1, y.2)
def markB (rv : AV → AV) (m0 : Nat) : List (Nat × Bx) → List Bx → List (Nat × Bx) × List Bx
  | [], e => ([], e)
  | (i, .cst n) :: r, e => let y := markB rv m0 r e; ((i, bif Nat.blt n m0 then .cst n else .var .undef) :: y.1, y.2)
  | (i, .var v) :: r, e => let y := markB rv m0 r (List.append e [.var (rv v)]); ((i, .cst (len e)) :: y.1, y.2)
  | (i, .buf kd t xs) :: r, e => let y := markB rv m0 r (List.append e [.buf kd t xs]); ((i, .cst (len e)) :: y.1, y.2)
def AS.mark (s : AS) (vars lead ids : List Nat) : AS :=
  let s := s.keepI (List.append lead vars) ids
  let n0 := len s.env
  let x := markL n0 (some vars) lead 0 s.tm s.env
  let y := markU n0 s.up x.2
  let z := markB s.rv (len s.benv) s.bx s.benv
  { s with tm := x.1, env := y.2, bx := z.1, benv := z.2, up := y.1 }
noncomputable def loopStep (body : AS → Tree) (s0 : AS) (σ : SS) (ws : List Way) (d : HL σ.holes) : PO (PSum (HL σ.holes) (Ways ws)) :=
  (body (σ.fill s0 (HL.out σ.holes d)).1).run fun e s => match e with
    | .normal => (match σ.take s with | some l => (match HL.mk σ.holes l with | some d => pOpt (some (pInl d)) | none => pOpt none) | none => pOpt none)
    | e => (match Ways.take ws e s with | some x => pOpt (some (pInr x)) | none => pOpt none)
noncomputable def loopW (body : AS → Tree) (s0 : AS) (σ : SS) (ws : List Way) : Tree :=
  okT (σ.inR s0 && ws.all fun w => w.σ.inR s0) (bndT (Ways.dflt ws) (match σ.take s0 with | some l => (match HL.mk σ.holes l with | some d => pIter (fun d => loopStep body s0 σ ws d) d | none => pOpt none) | none => pOpt none) (Ways.tree s0 ws))
def AS.unpin (m j tI : Nat) (s : AS) : AS :=
  let s := s.dropBox j
  let s := (match s.box m with | some (.buf .mr t xs) => s.putBox m (.buf .mp t xs) | _ => s.dropBox m)
  s.put tI .undef
def headM (s : AS) (m j tI tn tk : Nat) : Bool :=
  (match s.ev (.tmp tI) with | .ptr i [] => Nat.beq i j | _ => false) && (match s.box j with | some (.buf .it _ _) => true | _ => false) && (match s.box m with | some (.buf .mr _ _) => true | _ => false) &&
    Nat.blt tn (len s.tm) && Nat.blt tk (len s.tm) && !(Nat.beq tn tI) && !(Nat.beq tk tI)
def rangeB (body : AS → Tree) (m j id1 tI tn tk te : Nat) (k v : Ty) (kv : (Ty.pair k v).T) (s : AS) : Tree :=
  okT (headM s m j tI tn tk) ((body (((s.put tn (.tup [.lit true, .undef, .undef])).put tk (.lit true)).put te (.tup [.pv k (pFst kv), .pv v (pSnd kv)]))).bind fun e s => match e with
    | .normal => .leaf .normal s
    | .exit i => bif Nat.beq i id1 then .leaf .normal s else .leaf (.exit i) (s.unpin m j tI)
    | .ret vs => .leaf (.ret vs) (s.unpin m j tI))
def rangeZ (m j tI tn tk : Nat) (s : AS) : Tree := okT (headM s m j tI tn tk) (.leaf .normal (((s.put tn .undef).put tk (.lit false)).unpin m j tI))
noncomputable def rangeM (K : Kit) (vars ids : List Nat) (σ : SS) (ws : List Way) (id1 : Nat) (T : TypeId) (x : Operand) (tI tn tk te j : Nat) (body : AS → Tree) (s : AS) : Tree :=
  match s.ev x with
  | .mp m => (match s.box m with
    | some (.buf .mp (.pair k v) es) =>
      okT (Nat.blt m loopB && Nat.blt j loopB && !(Nat.beq j m) && (match K.td T with | .map _ _ => true | _ => false) && k.comparable && v.comparable)
        (let s0 := ((((s.dropBox j).newBox j (.buf .it .unit pNil)).putBox m (.buf .mr (.pair k v) es)).put tI (.ptr j [])).mark vars [tI] ids
         okT (σ.inR s0 && ws.all fun w => w.σ.inR s0)
          (anyT es (pPerm es) fun es' =>
            bndT (pInl (HL.dflt σ.holes)) (match σ.take s0 with | some l => (match HL.mk σ.holes l with | some d => pFold (fun kv d => loopStep (rangeB body m j id1 tI tn tk te k v kv) s0 σ ws d) es' d | none => pOpt none) | none => pOpt none)
              fun r => casesT (HL.dflt σ.holes) (Ways.dflt ws) r (fun d => rangeZ m j tI tn tk (σ.fill s0 (HL.out σ.holes d)).1) (Ways.tree s0 ws)))
    | _ => .fail)
  | _ => .fail
inductive Hn where
  | nil
  | seq (a b : Hn)
  | mark (ids : List Nat) (a b : Hn)
  | join (ids ids2 : List Nat) (ws : List Way) (a b : Hn)
  | cond (a b : Hn)
  | loop (ids : List Nat) (σ : SS) (ws : List Way) (b : Hn)
  | last (ids : List Nat)
  | range (g a b : Hn)
  | rng (ids : List Nat) (σ : SS) (ws : List Way) (b : Hn)
  | reg (js : List (Nat × List Nat × List Nat × List Nat × List Nat × List Way))
def keysEq : List RO → List RO → Bool
  | [], [] => true | x :: r, y :: q => Nat.beq x.k y.k && keysEq r q | _, _ => false
def regK (K : Kit) (call : Oper → AV → List AV → AS → Tree) (ops : Array Oper) (M : Nat) (rest' : List RO) : Nat → Nat → List RO → AS → Tree
  | 0, L, rest, s => bif Nat.beq L M then okT (keysEq rest rest') (.leaf .normal s) else .fail
  | n + 1, L, rest, s => bif Nat.beq L M then okT (keysEq rest rest') (.leaf .normal s) else (match rest with
    | [] => .fail
    | _ => (match pickR (hoistR s L rest) rest with
      | some (r, q) => execG K call ops r.o s (regK K call ops M rest' n (Nat.lor L r.bit) q)
      | none => ambT ((readysR (readyR L) rest).map fun x => execG K call ops x.1.o s (regK K call ops M rest' n (Nat.lor L x.1.bit) x.2))))
noncomputable def regJ (K : Kit) (call : Oper → AV → List AV → AS → Tree) (ops : Array Oper) : List (Nat × List Nat × List Nat × List Nat × List Nat × List Way) → Nat → List RO → AS → Tree
  | [], L, rest, s => regT K call ops (len rest) L rest s
  | (M, vs, ids, vs2, ids2, ws) :: js, L, rest, s =>
    let rest' := rest.filter fun r => Nat.beq (Nat.land M r.bit) 0
    let s0 := s.mark vs [] ids
    (((regK K call ops M rest' (len rest) L rest s0).tidy vs2 ids2).sumW s0 (fitW s0 ws)).seq (regJ K call ops js M rest')
noncomputable def regionJ (K : Kit) (call : Oper → AV → List AV → AS → Tree) (ops : Array Oper) (js : List (Nat × List Nat × List Nat × List Nat × List Nat × List Way)) (s : AS) : Tree :=
  let l := prepR K 0 ops.toList
  okT (l.all (okOp ops l)) (regJ K call ops js 0 l s)
def rangeOps (ops nops eops : List Oper) (tk : Nat) : Option (List Oper × TypeId × Operand × Nat × Nat × Nat × List Oper) :=
  match ops.reverse, nops, eops with
  | o :: pre, [o1, o2], o3 :: erest =>
    (match o.guard, o.op, o.dst, o1.guard, o1.op, o1.dst, o2.guard, o2.op, o2.dst, o3.guard, o3.op, o3.dst with
    | none, .range T x, some tI, none, .next (.tmp t1) false, some tn, none, .extract (.tmp t2) 0, some tk', none, .entry (.tmp t3), some te =>
      bif Nat.beq t1 tI && Nat.beq t2 tn && Nat.beq tk' tk && Nat.beq t3 tI then some (pre.reverse, T, x, tI, tn, te, erest) else none
    | _, _, _, _, _, _, _, _, _, _, _, _ => none)
  | _, _, _ => none
def endBlock (id : Nat) (e : Ex) (s : AS) : Tree := match e with | .exit j => bif Nat.beq j id then .leaf .normal s else .leaf (.exit j) s | e => .leaf e s
def leadT : Code → List Nat
  | .cond (.tmp t) _ _ => [t] | .rangeFunc (.tmp t) _ _ _ => [t] | .seq a _ => leadT a | .block _ b => leadT b | _ => []
def thawV (s : AS) (v : AV) : Option (Nat × RL) := match v with
  | .asl i [] off len => (match s.box i with
    | some (.var w) => (match s.rv w with | .pv (.arr n t) xs => bif Nat.blt 0 n && isI off 0 && isI len n then some (i, ⟨t, xs⟩) else none | _ => none)
    | _ => none)
  | .slr i off len => (match s.box i with
    | some (.buf .sl t xs) => bif isI off 0 && !(s.up.any fun l => l.any fun v => (s.rv v).names i) then some (i, ⟨t, pCut xs (pI 0) len⟩) else none
    | _ => none)
  | _ => none
def thawL (pre : List AV) : List AV → AS → List AV × AS
  | [], s => (pre, s)
  | v :: r, s => match thawV s v with
    | some (i, l) => bif namesL i pre || namesL i r then thawL (List.append pre [v]) r s else thawL (List.append pre [.sl i]) r (s.newBox i (.buf .sl l.t l.xs))
    | none => thawL (List.append pre [v]) r s
def readRes (K : Kit) (s : AS) : ResultVar → Option AV
  | .tmp t => some (s.rv (nthD .undef s.tm t))
  | .cell a t => match s.rv (nthD .undef s.tm a) with
    | .ptr i p => bif szEq (K.sz t) (s.at_ i p).sz then some (s.at_ i p) else none
    | _ => none
def readAll (K : Kit) (s : AS) : List ResultVar → Option (List AV)
  | [] => some []
  | r :: rs => match readRes K s r, readAll K s rs with | some v, some l => some (v :: l) | _, _ => none
def isLp (s : AS) (i p : Nat) : Bool := match s.box i with | some (.buf (.lp q) _ _) => Nat.beq p q | _ => false
def setTms : List AV → List Nat → List AV → List AV
  | row, p :: ps, v :: vs => setTms (row.set p v) ps vs
  | row, _, _ => row
def lpBox (p : Nat) : Bx := .buf (.lp p) .unit pNil
def yieldT (asg body : AS → Tree) (i lvl : Nat) (ps : List Nat) (o : Oper) (as : List AV) (s : AS) : Tree :=
  okT (isLp s i 0 && Nat.beq (len as) (len ps)) (match nth s.up (Nat.sub (Nat.sub (len s.up) 1) lvl) with
    | some row => (asg { s with tm := setTms row ps as, up := s.tm :: s.up }).bind fun e s2 => match e with
      | .normal => okT (isLp s2 i 0) ((body (s2.putBox i (lpBox 1))).bind fun e s3 => match s3.up with
        | gt :: up => okT (isLp s3 i 1) (match e with
          | .normal => retT (({ s3 with tm := gt, up := up } : AS).putBox i (lpBox 0)) o (.lit true)
          | .exit k => retT (({ s3 with tm := gt, up := up } : AS).putBox i (lpBox (Nat.add k 3))) o (.lit false)
          | .ret _ => retT (({ s3 with tm := gt, up := up } : AS).putBox i (lpBox 2)) o (.lit false))
        | [] => .fail)
      | _ => .fail
    | none => .fail)
def callY (call : Oper → AV → List AV → AS → Tree) (asg body : AS → Tree) (i lvl : Nat) (ps : List Nat) (o : Oper) (v : AV) (as : List AV) (s : AS) : Tree :=
  match v with
  | .yld j => bif Nat.beq j i then yieldT asg body i lvl ps o as s else call o v as s
  | v => call o v as s
def rangeE (K : Kit) (res : List ResultVar) (i : Nat) (e : Ex) (s : AS) : Tree :=
  match e with
  | .ret _ => (match s.up, s.box i with
    | ft :: up, some (.buf (.lp p) _ _) => (match p with
      | 0 => .leaf .normal (({ s with tm := ft, up := up } : AS).dropBox i)
      | 1 => .fail
      | 2 => (match readAll K (({ s with tm := ft, up := up } : AS).dropBox i) res with | some vs => .leaf (.ret vs) { (({ s with tm := ft, up := up } : AS).dropBox i) with tm := [] } | none => .fail)
      | k + 3 => .leaf (.exit k) (({ s with tm := ft, up := up } : AS).dropBox i))
    | _, _ => .fail)
  | _ => .fail
def rdOk (s : AS) : Option Nat → Bool | none => true | some i => isLp s i 1
noncomputable def denC (K : Kit) (run : FuncId → Hn → (Oper → AV → List AV → AS → Tree) → AS → Tree) (call : Oper → AV → List AV → AS → Tree) (rd : Option Nat) (vars : List Nat) (res : List ResultVar) : Code → Hn → AS → Tree
  | .skip, _, s => .leaf .normal s
  | .region _ ops d, h, s => (match d with | false => opsT K call ops ops.toList s | true => (match h with | .reg js => regionJ K call ops js s | _ => regionT K call ops s))
  | .seq a b, h, s => (match h with
    | .seq h1 h2 => (denC K run call rd vars res a h1 s).seq (denC K run call rd vars res b h2)
    | .mark ids h1 h2 => (denC K run call rd vars res a h1 (s.mark vars (leadT a) ids)).seq (denC K run call rd vars res b h2)
    | .join ids ids2 ws h1 h2 => let s0 := s.mark vars (leadT a) ids; (((denC K run call rd vars res a h1 s0).tidy vars ids2).sumW s0 (fitW s0 ws)).seq (denC K run call rd vars res b h2)
    | .rng ids σ ws hb => (match a, b with
      | .region _ ops false, .block id (.loop (.seq (.region _ nops false) (.seq (.cond (.tmp tk) .skip (.exit id')) (.block id1 (.seq (.region _ eops false) body))))) =>
        (match rangeOps ops.toList nops.toList eops.toList tk with
        | some (pre, T, x, tI, tn, te, erest) => okT (Nat.beq id id')
          (((opsT K call ops pre s).seq fun s => rangeM K vars ids σ ws id1 T x tI tn tk te (Nat.add (Nat.mul s.base 1000) tI) (fun st => (opsT K call eops erest st).seq (denC K run call rd vars res body hb)) s).bind (endBlock id))
        | none => .fail)
      | _, _ => .fail)
    | _ => .fail)
  | .cond c a b, h, s => (match h with
    | .cond h1 h2 => (match c, s.ev c with
      | _, .lit x => bif x then denC K run call rd vars res a h1 s else denC K run call rd vars res b h2 s
      | .tmp t, .pv .bool x => .br x (denC K run call rd vars res a h1 (s.put t (.lit true))) (denC K run call rd vars res b h2 (s.put t (.lit false)))
      | _, _ => .fail)
    | _ => .fail)
  | .block id b, h, s => (denC K run call rd vars res b h s).bind fun e s => match e with
    | .exit j => bif Nat.beq j id then .leaf .normal s else .leaf (.exit j) s
    | e => .leaf e s
  | .loop b, h, s => (match h with | .loop ids σ ws h1 => loopW (denC K run call rd vars res b h1) (s.mark vars [] ids) σ (fitW (s.mark vars [] ids) ws) | _ => .fail)
  | .exit id, h, s => (match h with | .last ids => .leaf (.exit id) (s.keepI vars ids) | _ => .fail)
  | .ret, h, s => (match h with | .last ids => (match readAll K s res with | some vs => let y := thawL [] vs s; .leaf (.ret y.1) (({ y.2 with tm := [] } : AS).keepI [] ids) | none => .fail) | _ => .fail)
  | .rangeFunc f ps asg body, h, s => (match h with
    | .range hg ha hb => let i := Nat.add loopB (len s.up); let s1 := (s.dropBox i).newBox i (lpBox 0)
      (match s1.ev f with
      | .clo g cs => okT (rdOk s rd) ((run g hg (callY call (denC K run call (some i) vars res asg ha) (denC K run call (some i) vars res body hb) i (len s.up) ps.toList) { s1 with tm := .yld i :: cs, up := s1.tm :: s1.up }).bind (rangeE K res i))
      | _ => .fail)
    | _ => .fail)
  | _, _, _ => .fail
mutual
def AV.ren (mp : Nat → Option Nat) : AV → AV
  | .sl i => (match mp i with | some j => .sl j | none => .undef)
  | .ptr i p => (match mp i with | some j => .ptr j p | none => .undef)
  | .mp i => (match mp i with | some j => .mp j | none => .undef)
  | .pv t x => .pv t x | .lit b => .lit b | .nil k => .nil k
  | .clo f cs => .clo f (renL mp cs) | .agg fs => .agg (renL mp fs) | .tup fs => .tup (renL mp fs)
  | _ => .undef
def renL (mp : Nat → Option Nat) : List AV → List AV
  | [] => [] | v :: r => v.ren mp :: renL mp r
end
def Bx.ren (mp : Nat → Option Nat) : Bx → Bx
  | .var v => .var (v.ren mp) | b => b
def Ty.noB : Ty → Bool
  | .pair a b => a.noB && b.noB | .st a => a.noB | .arr _ a => a.noB | .sl b a => (match b with | true => false | false => a.noB) | _ => true
mutual
def AV.noB : AV → Bool
  | .pv t _ => t.noB | .fad _ _ => false | .clo _ cs => noBL cs | .agg fs => noBL fs | .tup fs => noBL fs | _ => true
def noBL : List AV → Bool
  | [] => true | v :: r => v.noB && noBL r
end
def Bx.noB : Bx → Bool | .var v => v.noB | .buf _ t _ => t.noB | .cst _ => false
def AS.kills (s : AS) : List Nat → AS
  | [] => s | i :: r => (s.kill i).kills r
def lendV (s : AS) : SV → AV → AV
  | .hole (.sl true t), v => (match s.rv v with | .nil .sl => .pv (.sl true t) pNil | _ => match s.list (s.rv v) with | some l => (match s.rv v with | .pv .str _ => v | _ => .pv (.sl true l.t) l.xs) | none => v)
  | _, v => v
def lendL (s : AS) : List SV → List AV → List AV
  | σ :: r, v :: q => lendV s σ v :: lendL s r q | _, l => l
def lentV (s : AS) : SV → AV → List Nat
  | .hole (.sl true _), v => (match s.rv v with | .sl i => [i] | .slr i _ _ => [i] | .asl i _ _ _ => [i] | _ => [])
  | _, _ => []
def lentL (s : AS) : List SV → List AV → List Nat
  | σ :: r, v :: q => List.append (lentV s σ v) (lentL s r q) | _, _ => []
def ghostV (m : IdMap) : Nat × SB → AV
  | (i, .var _) => .ptr (m.get i) [] | (i, .buf .mp _) => .mp (m.get i) | (i, _) => .sl (m.get i)
def SS.noLp (σ : SS) : Bool := σ.bx.all fun x => match x.2 with | .buf kd _ => kd.free | _ => true
def s00 : AS := { tm := [], bx := [], env := [], benv := [], base := 1, nx := 2, up := [] }
def rangeN : Nat → Nat → List Nat
  | _, 0 => [] | k, n + 1 => k :: rangeN (Nat.succ k) n
def entryS (σ : SS) (d : HL σ.holes) : AS := let s := (σ.fill s00 (HL.out _ d)).1; s.mark [] (rangeN 0 (len s.tm)) (s.bx.map fun x => x.1)
structure Smry where
  f : FuncId
  σ : SS
  ws : List Way
  M : HL σ.holes → PO (Ways ws)
def smallS (s : AS) (as : List AV) (σ : SS) (m : IdMap) : AS :=
  { s with tm := as, bx := s.bx.filter fun x => σ.bx.any fun y => Nat.beq (m.get y.1) x.1, up := [σ.bx.map (ghostV m)], base := 1, nx := 2 }
def AS.ro (s : AS) (b : Bx) : Bx := match s.rb b with | .var v => .var (s.rv v) | b => b
def goodG (s : AS) (m : IdMap) (r : AS) (g : AV) (i : Nat) : Bool :=
  match g, s.box (m.get i), r.box i with
  | .ptr j [], some (.var v), some (.var v') => Nat.beq i j && (s.rv v).alike (r.rv v')
  | .sl j, some (.buf .sl t _), some (.buf .sl t' _) => Nat.beq i j && t.eqt t'
  | .mp j, some (.buf .mp t _), some (.buf .mp t' _) => Nat.beq i j && t.eqt t'
  | _, _, _ => false
def badOf (s : AS) (m : IdMap) (r : AS) : List AV → List (Nat × SB) → List Nat
  | g :: gs, (i, _) :: q => bif goodG s m r g i then badOf s m r gs q else m.get i :: badOf s m r gs q
  | [], q => q.map fun x => m.get x.1
  | _, [] => []
def mpOf (r : AS) (to : Nat → Nat) (i : Nat) : Option Nat := bif r.bx.any (fun x => Nat.beq i x.1) then some (to i) else none
def passB (σ : SS) (i : Nat) : Bool := σ.bx.any fun x => Nat.beq i x.1
mutual
def sameA : AV → AV → Bool
  | .undef, .undef => true | .pv t _, .pv u _ => t.eqt u | .nil k, .nil k' => k.eq k' | .ptr i [], .ptr j [] => Nat.beq i j | .sl i, .sl j => Nat.beq i j | .mp i, .mp j => Nat.beq i j
  | .clo f cs, .clo g ds => Nat.beq f g && sameL cs ds | .agg fs, .agg gs => sameL fs gs | .tup fs, .tup gs => sameL fs gs | _, _ => false
def sameL : List AV → List AV → Bool
  | [], [] => true | v :: r, x :: q => sameA v x && sameL r q | _, _ => false
end
def sameBx : Bx → Bx → Bool
  | .var v, .var u => sameA v u | .buf kd t _, .buf kd' t' _ => kd.eq kd' && t.eqt t' | _, _ => false
def keptC (s E r : AS) (to : Nat → Nat) (σ : SS) (x : Nat × Bx) : Option Bx :=
  match x.2, lookupN E.bx x.1, lookupN s.bx (to x.1) with
  | .cst k, some (.cst k'), some (.cst n) => bif Nat.beq k k' && passB σ x.1 && sameBx (Bx.ren (mpOf r to) (r.ro (.cst k))) (s.rb (.cst n)) then some (.cst n) else none
  | _, _, _ => none
def keptS (s E r : AS) (to : Nat → Nat) (σ : SS) : List (Nat × Bx) → AS → AS
  | [], N => N
  | x :: q, N => keptS s E r to σ q (match keptC s E r to σ x with | some b => N.putBox (to x.1) b | none => N)
def backS (s1 r : AS) (to : Nat → Nat) (T : List Nat) : AS :=
  let news := r.bx.map fun x => (to x.1, Bx.ren (mpOf r to) (r.ro x.2))
  { s1 with bx := List.append news (s1.bx.filter fun x => !(T.any (Nat.beq x.1)) && !(news.any fun y => Nat.beq x.1 y.1)) }
def retA : List AV → AV
  | [v] => v | vs => .tup vs
def toOf (s : AS) (o : Oper) (m : IdMap) (σ : SS) (i : Nat) : Nat := bif passB σ i then m.get i else Nat.add (Nat.mul (Nat.succ (siteT s o)) 1000000) i
def headU : List (List AV) → List AV | l :: _ => l | [] => []
def Smry.back (s E : AS) (o : Oper) (m : IdMap) (σ : SS) (L : Bool) (e : Ex) (r : AS) : Tree :=
  match e with
  | .ret vs =>
    let to := toOf s o m σ
    let s1 := s.kills (List.append (badOf s m r ((headU r.up).map r.rv) σ.bx) ((r.bx.filter fun x => !passB σ x.1).map fun x => to x.1))
    okT (nodupN (r.bx.map (·.1)) && nodupN (r.bx.map fun x => to x.1) && (!L || (noBL vs && r.bx.all fun x => (r.ro x.2).noB))) (retT (keptS s E r to σ r.bx (backS s1 r to (σ.bx.map fun x => m.get x.1))) o ((retA vs).ren (mpOf r to)))
  | _ => .fail
def someL : List Nat → Bool | [] => false | _ :: _ => true
def Smry.apply (S : Smry) (o : Oper) (as : List AV) (s : AS) : Option Tree :=
  let m := findB s S.σ.bx (findL s S.σ.tm as [])
  let sB := smallS s (lendL s S.σ.tm as) S.σ m
  let lent := lentL s S.σ.tm as
  bif S.σ.ok sB m [] && S.σ.noLp && (lent.all fun i => !(S.σ.bx.any fun y => Nat.beq (m.get y.1) i)) then
    (match S.σ.get sB m with
      | some l => (match HL.mk S.σ.holes l with
        | some d => some (bndT (Ways.dflt S.ws) (S.M d) fun x => (Ways.tree (entryS S.σ d) S.ws x).bind (Smry.back s (entryS S.σ d) o m S.σ (someL lent)))
        | none => none)
      | none => none)
  else none
def sumOf : List Smry → FuncId → Oper → List AV → AS → Option Tree
  | [], _, _, _, _ => none
  | S :: l, f, o, as, s => bif Nat.beq S.f f then (match S.apply o as s with | some t => some t | none => sumOf l f o as s) else sumOf l f o as s
def callS (l : List Smry) (o : Oper) (v : AV) (as : List AV) (s : AS) : Tree :=
  match v with
  | .clo f cs => (match sumOf l f o (List.append as cs) s with | some t => t | none => .fail)
  | _ => .fail
def endT (K : Kit) (res : List ResultVar) (e : Ex) (s : AS) : Tree :=
  match e with
  | .normal => (match readAll K s res with | some vs => .leaf (.ret vs) { s with tm := [] } | none => .fail)
  | .ret vs => .leaf (.ret vs) s
  | .exit _ => .fail
def startS (σ : SS) (nt : Nat) (d : HL σ.holes) : AS := let s := entryS σ d; { s with tm := List.append s.tm (repL .undef (Nat.sub nt (len s.tm))) }
noncomputable def runN (K : Kit) : Nat → FuncId → Hn → (Oper → AV → List AV → AS → Tree) → AS → Tree
  | 0, _, _, _, _ => .fail
  | n + 1, g, h, call, s => (match K.fn g with
    | some (nt, res, code) => (denC K (runN K n) call none (K.vars g) res code h { s with tm := List.append s.tm (repL .undef (Nat.sub nt (len s.tm))) }).bind (endT K res)
    | none => .fail)
def nilB {α : Type} : List α → Bool | [] => true | _ :: _ => false
def pfOf (l : List Smry) (il : List (FuncId × Hn)) (f : FuncId) : Bool :=
  (match lookupN il f with | some _ => false | none => true) && l.all fun S => !(Nat.beq S.f f) || nilB S.σ.bx
def Kit.withPf (K : Kit) (l : List Smry) (il : List (FuncId × Hn)) : Kit := { K with pf := pfOf l il }
noncomputable def smryRun (K : Kit) (l : List Smry) (f : FuncId) (h : Hn) (σ : SS) (ws : List Way) (d : HL σ.holes) : PO (Ways ws) :=
  match K.fn f with
  | none => pOpt none
  | some (nt, res, code) => ((denC (K.withPf l []) (runN (K.withPf l []) 8) (callS l) none (K.vars f) res code h (startS σ nt d)).bind (endT K res)).run fun e s => pOpt (Ways.take ws e s)
noncomputable def callI (K : Kit) (l : List Smry) (il : List (FuncId × Hn)) : Nat → Oper → AV → List AV → AS → Tree
  | 0, o, v, as, s => callS l o v as s
  | n + 1, o, v, as, s => match v with
    | .clo f cs => (match lookupN il f with
      | some h => (runN K 8 f h (callI K l il n) { s with tm := List.append as cs, up := s.tm :: s.up, base := s.nx, nx := Nat.succ s.nx }).bind fun e r => (match e, r.up with
        | .ret vs, ft :: up => retT { r with tm := ft, up := up, base := s.base } o (retA vs)
        | _, _ => .fail)
      | none => callS l o v as s)
    | v => callS l o v as s
noncomputable def smryRunI (K : Kit) (l : List Smry) (il : List (FuncId × Hn)) (f : FuncId) (h : Hn) (σ : SS) (ws : List Way) (d : HL σ.holes) : PO (Ways ws) :=
  match K.fn f with
  | none => pOpt none
  | some (nt, res, code) => ((denC (K.withPf l il) (runN (K.withPf l il) 8) (callI (K.withPf l il) l il (len il)) none (K.vars f) res code h (startS σ nt d)).bind (endT K res)).run fun e s => pOpt (Ways.take ws e s)
end Go.Xr
namespace Go.Xr
open Go
def Tree.All (R : Ex → AS → Prop) : Tree → Prop
  | .leaf e s => R e s
  | .chk _ k => k.All R
  | .br _ x y => x.All R ∧ y.All R
  | .amb x y => x.All R ∧ y.All R
  | .bnd D _ _ k => ∀ d : D, (k d).All R
  | .cases A B _ _ _ k k' => (∀ d : A, (k d).All R) ∧ ∀ d : B, (k' d).All R
  | .any D _ _ k => ∀ d : D, (k d).All R
  | .fail => True
theorem Tree.All.mono {R R' : Ex → AS → Prop} (h : ∀ e s, R e s → R' e s) : ∀ t : Tree, t.All R → t.All R'
  | .leaf e s, k => h e s k
  | .chk b t, k => All.mono h t k
  | .br b x y, k => ⟨All.mono h x k.1, All.mono h y k.2⟩
  | .amb x y, k => ⟨All.mono h x k.1, All.mono h y k.2⟩
  | .bnd D _ m f, k => fun d => All.mono h (f d) (k d)
  | .cases A B _ _ x f f', k => ⟨fun d => All.mono h (f d) (k.1 d), fun d => All.mono h (f' d) (k.2 d)⟩
  | .any D _ p f, k => fun d => All.mono h (f d) (k d)
  | .fail, _ => trivial
theorem Tree.all_bind {R : Ex → AS → Prop} {f : Ex → AS → Tree} : ∀ t : Tree, (t.All fun e s => (f e s).All R) → (t.bind f).All R
  | .leaf e s, k => k
  | .chk b t, k => all_bind t k
  | .br b x y, k => ⟨all_bind x k.1, all_bind y k.2⟩
  | .amb x y, k => ⟨all_bind x k.1, all_bind y k.2⟩
  | .bnd D _ m g, k => fun d => all_bind (g d) (k d)
  | .cases A B _ _ x g g', k => ⟨fun d => all_bind (g d) (k.1 d), fun d => all_bind (g' d) (k.2 d)⟩
  | .any D _ p g, k => fun d => all_bind (g d) (k d)
  | .fail, _ => trivial
theorem Tree.sat_all {Q R : Ex → AS → Prop} : ∀ t : Tree, t.sat Q → t.All R → t.sat fun e s => Q e s ∧ R e s
  | .leaf e s, k, r => ⟨k, r⟩
  | .chk b t, k, r => ⟨k.1, sat_all t k.2 r⟩
  | .br b x y, k, r => ⟨fun e => sat_all x (k.1 e) r.1, fun e => sat_all y (k.2 e) r.2⟩
  | .amb x y, k, r => ⟨sat_all x k.1 r.1, sat_all y k.2 r.2⟩
  | .bnd D _ m g, ⟨d, e, k⟩, r => ⟨d, e, sat_all (g d) k (r d)⟩
  | .cases A B _ _ x g g', k, r => ⟨fun d e => sat_all (g d) (k.1 d e) (r.1 d), fun d e => sat_all (g' d) (k.2 d e) (r.2 d)⟩
  | .any D _ p g, k, r => fun d e => sat_all (g d) (k d e) (r d)
  | .fail, k, _ => k
def Ext (s s' : AS) : Prop := (∃ l, s'.env = s.env ++ l) ∧ ∃ l, s'.benv = s.benv ++ l
theorem Ext.refl (s : AS) : Ext s s := ⟨⟨[], by simp⟩, [], by simp⟩
theorem Ext.trans {s s' s'' : AS} (h : Ext s s') (k : Ext s' s'') : Ext s s'' := by
  obtain ⟨⟨l, h1⟩, m, h2⟩ := h
  obtain ⟨⟨l', k1⟩, m', k2⟩ := k
  exact ⟨⟨l ++ l', by rw [k1, h1, List.append_assoc]⟩, m ++ m', by rw [k2, h2, List.append_assoc]⟩
theorem Ext.of {s s' : AS} (h1 : s'.env = s.env) (h2 : s'.benv = s.benv) : Ext s s' := ⟨⟨[], by simpa using h1⟩, [], by simpa using h2⟩
section
variable {K : Kit} {s : AS} {o : Oper} {call : Oper → AV → List AV → AS → Tree}
abbrev EX (s : AS) : Ex → AS → Prop := fun _ s' => Ext s s'
theorem ok_all {R : Ex → AS → Prop} {b : Bool} {t : Tree} (h : t.All R) : (okT b t).All R := by cases b <;> first | exact h | exact trivial
theorem ret_all {v : AV} {s' : AS} (h1 : s'.env = s.env) (h2 : s'.benv = s.benv) : (retT s' o v).All (EX s) := by
  rw [retT_eq]
  refine Ext.of ?_ ?_ <;> unfold AS.putO <;> split <;> assumption
theorem skip_all {s' : AS} (h1 : s'.env = s.env) (h2 : s'.benv = s.benv) : (skipT s' o).All (EX s) := by
  rw [skipT_eq]
  refine Ext.of ?_ ?_ <;> unfold AS.putO <;> split <;> assumption
theorem skipG_all {s' : AS} (h1 : s'.env = s.env) (h2 : s'.benv = s.benv) : (skipG s' o).All (EX s) := by
  rw [skipG_eq]
  refine Ext.of ?_ ?_ <;> unfold AS.putO <;> split <;> assumption
theorem zeroS_env {site : Nat} {T : TypeId} : (K.zeroS site T s).env = s.env ∧ (K.zeroS site T s).benv = s.benv := by
  unfold Kit.zeroS
  split
  · split <;> exact ⟨rfl, rfl⟩
  · exact ⟨rfl, rfl⟩
theorem zerosS_env : ∀ (fs : List TypeId) (site : Nat), (K.zerosS site fs s).env = s.env ∧ (K.zerosS site fs s).benv = s.benv
  | [], _ => ⟨rfl, rfl⟩
  | T :: r, site => by
    have h := zerosS_env r (Nat.add site 10)
    have h2 := zeroS_env (K := K) (s := K.zerosS (Nat.add site 10) r s) (site := site) (T := T)
    exact ⟨h2.1.trans h.1, h2.2.trans h.2⟩
theorem zeroW_env {site : Nat} {T : TypeId} : (K.zeroW site T s).env = s.env ∧ (K.zeroW site T s).benv = s.benv := by
  unfold Kit.zeroW
  split
  · exact zerosS_env _ _
  · exact zeroS_env
theorem chk_all {R : Ex → AS → Prop} {b : PB} {t : Tree} (h : t.All R) : (Tree.chk b t).All R := h
theorem br_all {R : Ex → AS → Prop} {b : PB} {t t' : Tree} (h : t.All R) (h' : t'.All R) : (Tree.br b t t').All R := ⟨h, h'⟩
theorem binT_ext {op : BinOp} {T : TypeId} {x y : AV} : (binT K s o op T x y).All (EX s) := by
  unfold binT
  dsimp only
  split
  · exact ok_all (ret_all rfl rfl)
  · exact ok_all (ret_all rfl rfl)
  · exact ok_all (ret_all rfl rfl)
  · exact ok_all (chk_all (ret_all rfl rfl))
  · exact ok_all (chk_all (ret_all rfl rfl))
  · exact chk_all (ret_all rfl rfl)
  · exact chk_all (ret_all rfl rfl)
  · exact ok_all (ret_all rfl rfl)
  · exact ok_all (ret_all rfl rfl)
  · exact ok_all (ret_all rfl rfl)
  · exact ok_all (ret_all rfl rfl)
  · exact ok_all (ret_all rfl rfl)
  · exact ok_all (ret_all rfl rfl)
  · exact ok_all (ret_all rfl rfl)
  · exact ok_all (ret_all rfl rfl)
  · exact ok_all (ret_all rfl rfl)
  · exact ok_all (ret_all rfl rfl)
  · exact ok_all (ret_all rfl rfl)
  · exact ok_all (ret_all rfl rfl)
  · exact ok_all (ret_all rfl rfl)
  · split
    · refine ok_all ?_
      split
      · exact ret_all rfl rfl
      · exact trivial
    · exact trivial
  · split
    · refine ok_all ?_
      split
      · exact ret_all rfl rfl
      · exact trivial
    · exact trivial
  · exact trivial
theorem eqnT_ext {op : BinOp} {T : TypeId} {x y : AV} : (eqnT K s o op T x y).All (EX s) := by
  unfold eqnT nilT
  have k : ∀ v, (retT s o v).All (EX s) := fun v => ret_all rfl rfl
  split
  · split
    · exact ok_all ⟨⟨k _, k _⟩, k _⟩
    · exact trivial
  · split
    · exact ok_all ⟨⟨k _, k _⟩, k _⟩
    · exact trivial
  · exact binT_ext
theorem loadT_ext {T : TypeId} {x : AV} : (loadT K s o T x).All (EX s) := by
  unfold loadT
  repeat' first | split | exact ret_all rfl rfl | exact skip_all rfl rfl | exact trivial | apply ok_all | apply chk_all
theorem storeT_ext {i : Nat} {p : List Stp} {x : AV} : (storeT s o i p x).All (EX s) := by
  unfold storeT
  repeat' first | split | exact ret_all rfl rfl | exact skip_all rfl rfl | exact trivial | apply ok_all | apply chk_all
theorem unT_ext {op : UnOp} {x : AV} : (unT s o op x).All (EX s) := by
  unfold unT
  repeat' first | split | exact ret_all rfl rfl | exact skip_all rfl rfl | exact trivial | apply ok_all | apply chk_all
theorem convT_ext {T D : TypeId} {x : AV} : (convT K s o T D x).All (EX s) := by
  unfold convT
  repeat' first | split | exact ret_all rfl rfl | exact skip_all rfl rfl | exact trivial | apply ok_all | apply chk_all
theorem bif_all {R : Ex → AS → Prop} {b : Bool} {t t' : Tree} (h : t.All R) (h' : t'.All R) : (bif b then t else t').All R := by cases b <;> assumption
theorem bnd_all {x y : Option PI} {f : PI → PI → Tree} (h : ∀ l h, (f l h).All (EX s)) : (match x, y with | some l, some h => f l h | _, _ => .fail).All (EX s) := by
  cases x <;> cases y <;> first | exact h _ _ | exact trivial
theorem sliceT_ext {T : TypeId} {x : AV} {lo hi : Option AV} : (sliceT K s o T x lo hi).All (EX s) := by
  unfold sliceT
  split
  · split
    · exact ok_all (bif_all (ret_all rfl rfl) (bnd_all fun l h => chk_all (ret_all rfl rfl)))
    · exact trivial
  · split
    · exact ok_all (bif_all (ret_all rfl rfl) (bnd_all fun l h => chk_all (ret_all rfl rfl)))
    · exact trivial
  · split
    · exact chk_all (ret_all rfl rfl)
    · exact trivial
  · split
    · exact ok_all (bif_all (ret_all rfl rfl) (bnd_all fun l h => chk_all (ret_all rfl rfl)))
    · exact trivial
  · split
    · exact ok_all (bnd_all fun l h => chk_all (ret_all rfl rfl))
    · exact trivial
  · exact trivial
theorem fieldAddrT_ext {T : TypeId} {x : AV} {f : Nat} : (fieldAddrT K s o T x f).All (EX s) := by
  unfold fieldAddrT
  repeat' first | split | exact ret_all rfl rfl | exact skip_all rfl rfl | exact trivial | apply ok_all | apply chk_all
theorem idxAddrT_ext {T : TypeId} {x y : AV} : (idxAddrT K s o T x y).All (EX s) := by
  unfold idxAddrT
  repeat' first | split | exact ret_all rfl rfl | exact skip_all rfl rfl | exact trivial | apply ok_all | apply chk_all
theorem lenT_ext {T : TypeId} {x : AV} : (lenT K s o T x).All (EX s) := by
  unfold lenT
  repeat' first | split | exact ret_all rfl rfl | exact skip_all rfl rfl | exact trivial | apply ok_all | apply chk_all
theorem appendT_ext {T T' : TypeId} {x y : AV} : (appendT K s o T T' x y).All (EX s) := by
  unfold appendT
  repeat' first | split | exact ret_all rfl rfl | exact skip_all rfl rfl | exact trivial | apply ok_all | apply chk_all
theorem appMakeT_ext {T T' : TypeId} {n : PI} : (appMakeT K s o T T' n).All (EX s) := by
  unfold appMakeT
  repeat' first | split | exact ret_all rfl rfl | exact skip_all rfl rfl | exact trivial | apply ok_all | apply chk_all
theorem lenMapT_ext {T : TypeId} {i : Nat} : (lenMapT K s o T i).All (EX s) := by
  unfold lenMapT
  repeat' first | split | exact ret_all rfl rfl | exact skip_all rfl rfl | exact trivial | apply ok_all | apply chk_all
theorem lookupT_ext {T : TypeId} {x y : AV} {cm : Bool} : (lookupT K s o T x y cm).All (EX s) := by
  unfold lookupT
  repeat' first | split | exact ret_all rfl rfl | exact skip_all rfl rfl | exact trivial | apply ok_all | apply chk_all
theorem mapSetT_ext {T : TypeId} {x y z : AV} : (mapSetT K s o T x y z).All (EX s) := by
  unfold mapSetT
  repeat' first | split | exact ret_all rfl rfl | exact skip_all rfl rfl | exact trivial | apply ok_all | apply chk_all
theorem mapDelT_ext {T : TypeId} {x y : AV} : (mapDelT K s o T x y).All (EX s) := by
  unfold mapDelT
  repeat' first | split | exact ret_all rfl rfl | exact skip_all rfl rfl | exact trivial | apply ok_all | apply chk_all
theorem mapClearT_ext {T : TypeId} {x : AV} : (mapClearT K s o T x).All (EX s) := by
  unfold mapClearT
  repeat' first | split | exact ret_all rfl rfl | exact skip_all rfl rfl | exact trivial | apply ok_all | apply chk_all
theorem slice0T_ext {T : TypeId} {x : AV} : (slice0T K s o T x).All (EX s) := by
  unfold slice0T
  repeat' first | split | exact ret_all rfl rfl | exact skip_all rfl rfl | exact trivial | apply ok_all | apply chk_all
theorem arrayAtT_ext {T : TypeId} {x : AV} : (arrayAtT K s o T x).All (EX s) := by
  unfold arrayAtT
  repeat' first | split | exact ret_all rfl rfl | exact skip_all rfl rfl | exact trivial | apply ok_all | apply chk_all
theorem minmaxT_ext {b : Bool} {x y : AV} : (minmaxT s o b x y).All (EX s) := by
  unfold minmaxT
  repeat' first | split | exact ret_all rfl rfl | exact skip_all rfl rfl | exact trivial | apply ok_all | apply chk_all
theorem ext_of {s1 : AS} {t : Tree} (he : s1.env = s.env ∧ s1.benv = s.benv) (h : t.All (EX s1)) : t.All (EX s) := Tree.All.mono (fun e s' h => Ext.trans (Ext.of he.1 he.2) h) _ h
theorem buildT_ext {T : TypeId} {ps : List (Nat × Operand)} : (buildT K s o T ps).All (EX s) := by
  unfold buildT
  split
  · repeat' split
    all_goals first | exact ret_all rfl rfl | exact trivial
  · repeat' split
    all_goals first | exact ret_all rfl rfl | exact trivial
  · dsimp only
    split
    · exact ret_all (zerosS_env _ _).1 (zerosS_env _ _).2
    · exact trivial
  · exact trivial
theorem opT_ext (hc : ∀ o v as s, (call o v as s).All (EX s)) : (opT K call s o).All (EX s) := by
  unfold opT
  split
  · exact ret_all rfl rfl
  · split
    · split <;> first | exact ret_all rfl rfl | exact trivial
    · exact ret_all rfl rfl
  · split <;> first | exact ret_all rfl rfl | exact ⟨ret_all rfl rfl, ret_all rfl rfl⟩ | exact trivial
  · exact ok_all (ret_all zeroW_env.1 zeroW_env.2)
  · split
    · exact ret_all rfl rfl
    · exact ok_all (ret_all rfl rfl)
  · split
    · exact Tree.All.mono (fun e s' h => Ext.trans (Ext.of (frzOs_env _ _).1 (frzOs_env _ _).2) h) _ buildT_ext
    · exact buildT_ext
  · split
    · dsimp only
      generalize hg : frzOs _ s = s1
      refine ext_of (s1 := s1) (by rw [← hg]; exact frzOs_env _ s) ?_
      repeat' first | split | exact ret_all rfl rfl | exact skip_all rfl rfl | exact trivial | apply ok_all | apply chk_all
    · exact trivial
  · exact loadT_ext
  · dsimp only
    generalize hg : frzP s _ _ = s1
    refine ext_of (s1 := s1) (by rw [← hg]; exact frzP_env) ?_
    generalize hg2 : nilP K s1 _ _ _ = y
    refine ext_of (s1 := y.1) (by rw [← hg2]; exact nilP_env) ?_
    split
    · exact ok_all storeT_ext
    · exact trivial
  · repeat' first | split | exact ret_all rfl rfl | exact skip_all rfl rfl | exact trivial | apply ok_all | apply chk_all
  · exact eqnT_ext
  · exact unT_ext
  · exact convT_ext
  · repeat' first | split | exact ret_all rfl rfl | exact skip_all rfl rfl | exact trivial | apply ok_all | apply chk_all
  · split
    · exact ret_all rfl rfl
    · exact trivial
  · exact lookupT_ext
  · dsimp only
    generalize hg : frzO s _ = s1
    exact ext_of (s1 := s1) (by rw [← hg]; exact frzO_env) mapSetT_ext
  · exact arrayAtT_ext
  · exact ok_all slice0T_ext
  · exact sliceT_ext
  · exact fieldAddrT_ext
  · repeat' first | split | exact ret_all rfl rfl | exact skip_all rfl rfl | exact trivial | apply ok_all | apply chk_all
  · exact idxAddrT_ext
  · repeat' first | split | exact ret_all rfl rfl | exact skip_all rfl rfl | exact trivial | apply ok_all | apply chk_all
  · repeat' first | split | exact ret_all rfl rfl | exact skip_all rfl rfl | exact trivial | apply ok_all | apply chk_all
  · exact ok_all (ret_all rfl rfl)
  · split
    · unfold builtinT
      split
      · exact lenMapT_ext
      · exact lenT_ext
      · exact appMakeT_ext
      · exact appendT_ext
      · exact ok_all (ret_all rfl rfl)
      · exact minmaxT_ext
      · exact minmaxT_ext
      · exact mapDelT_ext
      · exact mapClearT_ext
      · exact trivial
    · exact hc _ _ _ _
    · exact trivial
  · exact trivial
theorem opsT_ext (hc : ∀ o v as s, (call o v as s).All (EX s)) (ops : Array Oper) : ∀ (l : List Oper) (s : AS), (opsT K call ops l s).All (EX s)
  | [], s => Ext.refl s
  | o :: rest, s => by
    have next : ∀ (s0 : AS) (t : Tree), t.All (EX s0) → (t.seq (opsT K call ops rest)).All (EX s0) := by
      intro s0 t ht
      refine Tree.all_bind t (Tree.All.mono ?_ t ht)
      intro e s' h
      cases e with
      | normal => exact Tree.All.mono (fun e s'' h' => Ext.trans h h') _ (opsT_ext hc ops rest s')
      | exit id => exact h
      | ret vs => exact h
    have put : ∀ (d : Nat) (v : AV) (t : Tree), t.All (EX (s.put d v)) → t.All (EX s) := fun d v t ht => Tree.All.mono (fun e s' h => h) t ht
    unfold opsT
    split
    · exact next s _ (opT_ext hc)
    · split
      · exact trivial
      · split
        · exact next s _ (bif_all (opT_ext hc) (skipG_all rfl rfl))
        · exact br_all (put _ (.lit true) _ (next _ _ (bif_all (opT_ext hc) (skipG_all rfl rfl)))) (put _ (.lit false) _ (next _ _ (bif_all (skipG_all rfl rfl) (opT_ext hc))))
        · exact next s _ (skipG_all rfl rfl)
        · exact trivial
theorem execG_ext (hc : ∀ o v as s, (call o v as s).All (EX s)) {ops : Array Oper} {next : AS → Tree} (hn : ∀ s, (next s).All (EX s)) : (execG K call ops o s next).All (EX s) := by
  have seq : ∀ (s0 : AS) (t : Tree), t.All (EX s0) → (t.seq next).All (EX s0) := by
    intro s0 t ht
    refine Tree.all_bind t (Tree.All.mono ?_ t ht)
    intro e s' h
    cases e with
    | normal => exact Tree.All.mono (fun e s'' h' => Ext.trans h h') _ (hn s')
    | exit id => exact h
    | ret vs => exact h
  have put : ∀ (d : Nat) (v : AV) (t : Tree), t.All (EX (s.put d v)) → t.All (EX s) := fun d v t ht => Tree.All.mono (fun e s' h => h) t ht
  unfold execG
  split
  · exact seq s _ (opT_ext hc)
  · split
    · exact trivial
    · split
      · exact seq s _ (bif_all (opT_ext hc) (skipG_all rfl rfl))
      · exact br_all (put _ (.lit true) _ (seq _ _ (bif_all (opT_ext hc) (skipG_all rfl rfl)))) (put _ (.lit false) _ (seq _ _ (bif_all (skipG_all rfl rfl) (opT_ext hc))))
      · exact seq s _ (skipG_all rfl rfl)
      · exact trivial
theorem ambT_all {R : Ex → AS → Prop} : ∀ l : List Tree, (∀ t ∈ l, t.All R) → (ambT l).All R
  | [], _ => trivial
  | [t], h => h t (by simp)
  | t :: t' :: r, h => ⟨h t (by simp), ambT_all (t' :: r) fun x hx => h x (List.mem_cons_of_mem _ hx)⟩
theorem regT_ext (hc : ∀ o v as s, (call o v as s).All (EX s)) {ops : Array Oper} : ∀ (n L : Nat) (rest : List RO) (s : AS), (regT K call ops n L rest s).All (EX s)
  | 0, L, [], s => Ext.refl s
  | 0, L, _ :: _, s => trivial
  | n + 1, L, rest, s => by
    unfold regT
    split
    · exact Ext.refl s
    · split
      · exact execG_ext hc (fun s => regT_ext hc n _ _ s)
      · refine ambT_all _ fun t ht => ?_
        obtain ⟨x, _, rfl⟩ := List.mem_map.1 ht
        exact execG_ext hc (fun s => regT_ext hc n _ _ s)
theorem regionT_ext (hc : ∀ o v as s, (call o v as s).All (EX s)) {ops : Array Oper} {s : AS} : (regionT K call ops s).All (EX s) := ok_all (regT_ext hc _ _ _ _)
end
end Go.Xr
namespace Go.Xr
open Go
section
variable {F : Fence} {n : Nat} {P : Program} {K : Kit} {o : Oper} {a : Act} {w w' : World} {Qx : Exit → Act → World → Prop} {u : Value}
variable {b : Base} {us : List (Array Value)} {c c' : Cx} {s s' : AS} {Q : Ex → AS → Prop} {T : TypeId} {call : Oper → AV → List AV → AS → Tree}
def resRun (P : Program) (a : Act) (w : World) : List ResultVar → List Value → Prop
  | [], vs => vs = []
  | r :: rs, vs => ∃ v q, vs = v :: q ∧ (match r with
      | .tmp t => (pure (a.tmps.getD t undef) : Sem Value)
      | .cell x t => do loadVar t (← asAddr (a.tmps.getD x undef))).run P w = .ok v w ∧ resRun P a w rs q
def resAll (P : Program) (a : Act) (w : World) (rs : List ResultVar) (vs : List Value) : Prop := ∀ w' : World, (∀ ad v, w.cell? ad = some v → w'.cell? ad = some v) → resRun P a w' rs vs
def AbsE (P : Program) (res : List ResultVar) (b : Base) (us : List (Array Value)) (Q : Ex → AS → Prop) : Exit → Act → World → Prop
  | .normal, a, w => Abs b us Q a w
  | .exit id, a, w => ∃ c s, c.w = w ∧ Q (.exit id) s ∧ St c us s a ∧ Fr b c s
  | .ret, a, w => ∃ c s vs rs, c.w = w ∧ Q (.ret vs) s ∧ St c us s a ∧ Fr b c s ∧ resAll P a w res rs ∧ AVRL c.w c.E (c.I s) vs rs
  | _, _, _ => False
theorem AbsE.mono {res : List ResultVar} {Q Q' : Ex → AS → Prop} (h : ∀ e s, Q e s → Q' e s) : ∀ e a w, AbsE P res b us Q e a w → AbsE P res b us Q' e a w
  | .normal, a, w, ⟨c, s, h1, h2, h3⟩ => ⟨c, s, h1, h _ _ h2, h3⟩
  | .exit id, a, w, ⟨c, s, h1, h2, h3⟩ => ⟨c, s, h1, h _ _ h2, h3⟩
  | .ret, a, w, ⟨c, s, vs, rs, h1, h2, h3⟩ => ⟨c, s, vs, rs, h1, h _ _ h2, h3⟩
  | .goto _, _, _, h => h.elim
  | .panic _, _, _, h => h.elim
  | .outgrown, _, _, h => h.elim
def SeqQ (f : AS → Tree) (Q : Ex → AS → Prop) : Ex → AS → Prop := fun e s => match e with | .normal => (f s).sat Q | e => Q e s
theorem seq_sat {t : Tree} {f : AS → Tree} (h : (t.seq f).sat Q) : t.sat (SeqQ f Q) :=
  Tree.sat_mono (fun e s k => by cases e <;> exact k) t (Tree.sat_bind t h)
theorem opsT_sound (hF : HF F) (hK : KitOK P K) (hcall : CallSound K.pf P b.lp0 us call) {res : List ResultVar} (ops : Array Oper) : ∀ (rest : List Oper) {c : Cx} {s : AS} {a : Act}, St c us s a → Fr b c s → (opsT K call ops rest s).sat Q →
    wpListIn F n P ops (AbsE P res b us Q) rest a c.w
  | [], c, s, a, h, hfr, hs => ⟨c, s, rfl, hs, h, hfr⟩
  | o :: rest, c, s, a, h, hfr, hs => by
    have next : ∀ a' w', Abs b us (SeqQ (opsT K call ops rest) Q) a' w' → wpListIn F n P ops (AbsE P res b us Q) rest a' w' := by
      rintro a' w' ⟨c', s', rfl, hq, h1, h2⟩
      exact opsT_sound hF hK hcall ops rest h1 h2 hq
    have doit : ∀ {s' : AS}, St c us s' a → Fr b c s' → ((opT K call s' o).seq (opsT K call ops rest)).sat Q → o.wpIn F n P a c.w (wpListIn F n P ops (AbsE P res b us Q) rest) (AbsE P res b us Q) := by
      intro s' h1 h2 h3
      have h4 : o.wpIn F n P a c.w (Abs b us (SeqQ (opsT K call ops rest) Q)) (AbsE P res b us Q) := opT_sound hF hK hcall h1 h2 (seq_sat h3)
      exact Oper.wpIn_mono next h4
    have skip : ∀ {s' : AS}, St c us s' a → Fr b c s' → ((skipG s' o).seq (opsT K call ops rest)).sat Q → (∀ f, o.about P c.w a.eval = some f → F.fn f) ∧ wpListIn F n P ops (AbsE P res b us Q) rest (a.put o.dst undef) c.w := by
      intro s' h1 h2 h3
      have h4 := seq_sat h3
      rw [skipG_eq] at h4
      exact ⟨fun f _ => hF.1 f, next _ _ (skipG_abs h1 h2 h4)⟩
    unfold opsT at hs
    simp only [wpListIn]
    split at hs
    · rename_i hg
      rw [if_pos (by simp [Region.wanted, hg])]
      exact doit h hfr hs
    · rename_i j want hg
      split at hs
      · exact hs.elim
      · rename_i d hd
        have hy : ∀ b' : Bool, a.tmps.getD d undef = .bool b' → d < a.tmps.size → Region.wanted o (yielded ops a.tmps) = (b' == want) := by
          intro b' e hlt
          have e2 : ((ops[j]?).bind (·.dst)) = some d := by
            rw [nth_eq] at hd
            simp only [Array.getElem?_toList] at hd
            cases ho : ops[j]? with
            | none => rw [ho] at hd; cases hd
            | some o' => rw [ho] at hd; exact hd
          have e3 : a.tmps[d]? = some (.bool b') := by
            rw [Array.getElem?_eq_getElem hlt]
            simpa [Array.getD, hlt] using e
          simp only [Region.wanted, hg, yielded, e2, Option.bind_some, e3]
          cases b' <;> cases want <;> rfl
        have hz : a.tmps.getD d undef = .tuple #[] → Region.wanted o (yielded ops a.tmps) = false := by
          intro e
          have e2 : ((ops[j]?).bind (·.dst)) = some d := by
            rw [nth_eq] at hd
            simp only [Array.getElem?_toList] at hd
            cases ho : ops[j]? with
            | none => rw [ho] at hd; cases hd
            | some o' => rw [ho] at hd; exact hd
          have e4 : yielded ops a.tmps j = none := by
            unfold yielded
            rw [e2]
            simp only [Option.bind_some]
            cases hg2 : a.tmps[d]? with
            | none => rfl
            | some u =>
              obtain ⟨hlt, hu⟩ := Array.getElem?_eq_some_iff.1 hg2
              have : u = .tuple #[] := by rw [← e, ← hu]; simp [Array.getD, hlt]
              rw [this]
          simp only [Region.wanted, hg, e4]
          rfl
        cases hn : nth s.tm d with
        | none =>
          have : nthD .undef s.tm d = .undef := by rw [nthD_eq, hn]; rfl
          rw [this] at hs
          exact hs.elim
        | some v =>
          obtain ⟨hlt, hv⟩ := h.tm d v hn
          have e : nthD .undef s.tm d = v := by rw [nthD_eq, hn]; rfl
          rw [e] at hs
          split at hs
          · rename_i b' hb
            rw [hb] at hv
            have hw := hy b' (AVR_lit.1 hv) hlt
            rw [hw]
            cases hbw : (b' == want) with
            | true => rw [hbw] at hs; rw [if_pos rfl]; exact doit h hfr hs
            | false => rw [hbw] at hs; rw [if_neg (by simp)]; exact skip h hfr hs
          · rename_i b' hb
            rw [hb] at hv
            have hvb := AVR_bool.1 hv
            have hw := hy b' hvb hlt
            rw [hw]
            have hlit : ∀ x : Bool, x = b' → St c us (s.put d (.lit x)) a := fun x hx => h.refine fun _ _ => AVR_lit.2 (by rw [hvb, hx])
            cases b' with
            | true =>
              have hs := hs.1 rfl
              cases want with
              | true => rw [if_pos (by simp)]; exact doit (hlit true rfl) (hfr.refine d _) hs
              | false => rw [if_neg (by simp)]; exact skip (hlit true rfl) (hfr.refine d _) hs
            | false =>
              have hs := hs.2 rfl
              cases want with
              | true => rw [if_neg (by simp)]; exact skip (hlit false rfl) (hfr.refine d _) hs
              | false => rw [if_pos (by simp)]; exact doit (hlit false rfl) (hfr.refine d _) hs
          · rename_i hb
            rw [hb] at hv
            simp only [AVR] at hv
            obtain ⟨vs, hv, hvs⟩ := hv
            subst hvs
            rw [hz hv, if_neg (by simp)]
            exact skip h hfr hs
          · exact hs.elim
theorem nth_keepL (vars : List Nat) : ∀ (l : List AV) (k0 k : Nat) (v : AV), nth (keepL vars k0 l) k = some v → ∃ v0, nth l k = some v0 ∧ (v = v0 ∨ v = .undef)
  | x :: r, k0, 0, v, h => by
    simp only [keepL, nth, Option.some.injEq] at h
    subst h
    refine ⟨x, rfl, ?_⟩
    cases vars.any (Nat.beq k0) with
    | true => exact .inl rfl
    | false => exact .inr rfl
  | x :: r, k0, k + 1, v, h => nth_keepL vars r _ k v (by simpa [keepL, nth] using h)
  | [], k0, k, v, h => by simp [keepL, nth] at h
theorem St.keepI (h : St c us s a) (vars ids : List Nat) : St c us (s.keepI vars ids) a :=
  h.less (f := fun i => ids.any (Nat.beq i)) (fun k v hv => nth_keepL vars s.tm 0 k v hv) rfl
theorem Fr.keepI (h : Fr b c s) (vars ids : List Nat) : Fr b c (s.keepI vars ids) := h.less (f := fun i => ids.any (Nat.beq i))
theorem keep_ext {vars ids : List Nat} : Ext s (s.keepI vars ids) := Ext.of rfl rfl
end
end Go.Xr
namespace Go.Xr
open Go
def rvE (env : List AV) (v : AV) : AV := match v with | .cst n => nthD .undef env n | v => v
theorem rv_eq {s : AS} {v : AV} : s.rv v = rvE s.env v := by cases v <;> rfl
theorem rvE_ne {env : List AV} {v : AV} (h : ∀ k, v ≠ .cst k) : rvE env v = v := by cases v <;> first | rfl | exact (h _ rfl).elim
theorem nthD_app {α : Type} (d : α) : ∀ (l m : List α) (k : Nat), k < l.length → nthD d (l ++ m) k = nthD d l k
  | x :: l, m, 0, _ => rfl
  | x :: l, m, k + 1, h => nthD_app d l m k (by simpa using h)
  | [], _, k, h => by simp at h
theorem nthD_last {α : Type} (d x : α) : ∀ (l m : List α), nthD d (l ++ x :: m) l.length = x
  | [], m => rfl
  | y :: l, m => nthD_last d x l m
theorem nthD_out {α : Type} (d : α) : ∀ (l : List α) (k : Nat), l.length ≤ k → nthD d l k = d
  | [], k, _ => rfl
  | x :: l, k + 1, h => nthD_out d l k (by simpa using h)
  | x :: l, 0, h => by simp at h
def Mk (x y : AV) : Prop := y = x ∨ y = .undef ∨ ∃ b, x = .lit b ∧ y = .pv .bool b
theorem inR_spec {e0 m : List AV} {v : AV} : rvE (e0 ++ m) (inR (len e0) v) = rvE e0 v := by
  cases v with
  | cst k =>
    simp only [inR]
    cases hb : Nat.blt k (len e0) with
    | true =>
      have := blt_of hb
      rw [len_eq] at this
      exact nthD_app _ e0 m k this
    | false =>
      have : e0.length ≤ k := by
        rcases Nat.lt_or_ge k e0.length with h | h
        · rw [← len_eq] at h
          have : Nat.blt k (len e0) = true := Nat.ble_eq_true_of_le h
          rw [this] at hb; cases hb
        · exact h
      show AV.undef = nthD .undef e0 k
      rw [nthD_out _ e0 k this]
  | _ => rfl
theorem mark1_spec {e0 e : List AV} {v : AV} {keep lead : Bool} (he : ∃ m, e = e0 ++ m) : (∃ m, (mark1 keep lead (inR (len e0) v) e).2 = e ++ m) ∧ ∀ m, Mk (rvE e0 v) (rvE ((mark1 keep lead (inR (len e0) v) e).2 ++ m) (mark1 keep lead (inR (len e0) v) e).1) := by
  obtain ⟨m0, he⟩ := he
  have hin : ∀ m, rvE (e ++ m) (inR (len e0) v) = rvE e0 v := fun m => by rw [he, List.append_assoc]; exact inR_spec
  unfold mark1
  cases lead with
  | true => exact ⟨⟨[], by simp⟩, fun m => .inl (hin m)⟩
  | false =>
    simp only [cond_false]
    generalize inR (len e0) v = u at *
    cases keep with
    | false =>
      cases u <;> exact ⟨⟨[], by simp⟩, fun m => .inr (.inl rfl)⟩
    | true =>
      have other : (∀ k, u ≠ .cst k) → (∃ m, (AV.cst (len e), List.append e [u]).2 = e ++ m) ∧ ∀ m, Mk (rvE e0 v) (rvE ((AV.cst (len e), List.append e [u]).2 ++ m) (AV.cst (len e), List.append e [u]).1) := by
        intro h1
        refine ⟨⟨[u], rfl⟩, fun m => .inl ?_⟩
        have e2 := hin []
        rw [rvE_ne h1] at e2
        rw [← e2]
        simp only [rvE, len_eq]
        rw [show List.append e [u] ++ m = e ++ u :: m by simp]
        exact nthD_last _ _ e m
      cases u with
      | cst k => exact ⟨⟨[], by simp⟩, fun m => .inl (hin m)⟩
      | undef => exact ⟨⟨[], by simp⟩, fun m => .inr (.inl rfl)⟩
      | lit b =>
        refine ⟨⟨[.pv .bool (pB b)], rfl⟩, fun m => .inr (.inr ⟨b, (hin []).symm, ?_⟩)⟩
        simp only [cond_true, rvE, len_eq]
        rw [show List.append e [AV.pv .bool (pB b)] ++ m = e ++ AV.pv .bool (pB b) :: m by simp]
        exact nthD_last _ _ e m
      | _ => exact other (by intro k h; cases h)
theorem markL_spec (e0 : List AV) (vars : Option (List Nat)) (lead : List Nat) : ∀ (l : List AV) (k0 : Nat) (e : List AV), (∃ m, e = e0 ++ m) →
    (∃ m, (markL (len e0) vars lead k0 l e).2 = e ++ m) ∧ ∀ m j v', nth (markL (len e0) vars lead k0 l e).1 j = some v' → ∃ v, nth l j = some v ∧ Mk (rvE e0 v) (rvE ((markL (len e0) vars lead k0 l e).2 ++ m) v')
  | [], k0, e, _ => ⟨⟨[], by simp [markL]⟩, fun m j v' h => by simp [markL, nth] at h⟩
  | v :: r, k0, e, he => by
    obtain ⟨⟨m1, hm1⟩, hx2⟩ := mark1_spec (v := v) (keep := keepV vars k0) (lead := lead.any (Nat.beq k0)) he
    obtain ⟨m0, he⟩ := he
    generalize hx : mark1 (keepV vars k0) (lead.any (Nat.beq k0)) (inR (len e0) v) e = x at *
    obtain ⟨⟨m2, hm2⟩, ih2⟩ := markL_spec e0 vars lead r (Nat.succ k0) x.2 ⟨m0 ++ m1, by rw [hm1, he, List.append_assoc]⟩
    have e1 : markL (len e0) vars lead k0 (v :: r) e = (x.1 :: (markL (len e0) vars lead (Nat.succ k0) r x.2).1, (markL (len e0) vars lead (Nat.succ k0) r x.2).2) := by simp only [markL, hx]
    rw [e1]
    refine ⟨⟨m1 ++ m2, by rw [hm2, hm1, List.append_assoc]⟩, ?_⟩
    intro m j v' hj
    cases j with
    | zero =>
      simp only [nth, Option.some.injEq] at hj
      subst hj
      refine ⟨v, rfl, ?_⟩
      rw [hm2, List.append_assoc]
      exact hx2 _
    | succ j => exact ih2 m j v' hj
theorem Mk.avr {w : World} {E : Bool → Nat → Prop} {I : Nat → Option BI} {x y : AV} {u : Value} (h : Mk x y) (k : AVR w E I x u) : AVR w E I y u := by
  rcases h with rfl | rfl | ⟨b, rfl, rfl⟩
  · exact k
  · simp only [AVR]
  · exact AVR_bool.2 (AVR_lit.1 k)
theorem markU_spec (e0 : List AV) : ∀ (l : List (List AV)) (e : List AV), (∃ m, e = e0 ++ m) →
    (∃ m, (markU (len e0) l e).2 = e ++ m) ∧ ∀ (m : List AV) {w : World} {E : Bool → Nat → Prop} {I : Nat → Option BI} (us : List (Array Value)), UpOK w E I (rvE e0) l us → UpOK w E I (rvE ((markU (len e0) l e).2 ++ m)) (markU (len e0) l e).1 us
  | [], e, _ => ⟨⟨[], by simp [markU]⟩, fun m => by intro _ _ _ us h; exact h⟩
  | l :: r, e, he => by
    obtain ⟨⟨m1, h1⟩, h2⟩ := markL_spec e0 none [] l 0 e he
    obtain ⟨m0, he⟩ := he
    obtain ⟨⟨m2, h3⟩, h4⟩ := markU_spec e0 r (markL (len e0) none [] 0 l e).2 ⟨m0 ++ m1, by rw [h1, he, List.append_assoc]⟩
    refine ⟨⟨m1 ++ m2, by show (markU (len e0) r _).2 = _; rw [h3, h1, List.append_assoc]⟩, ?_⟩
    rintro m w E I us ⟨u, q, e1, k1, k2⟩
    refine ⟨u, q, e1, ?_, h4 m q k2⟩
    intro k v' hv
    obtain ⟨v, hv0, hmk⟩ := h2 (m2 ++ m) k v' hv
    obtain ⟨j1, j2⟩ := k1 k v hv0
    refine ⟨j1, ?_⟩
    have : (markU (len e0) (l :: r) e).2 ++ m = (markL (len e0) none [] 0 l e).2 ++ (m2 ++ m) := by
      show (markU (len e0) r _).2 ++ m = _
      rw [h3, List.append_assoc]
    rw [this]
    exact hmk.avr j2
def rbE (benv : List Bx) (b : Bx) : Bx := match b with
  | .cst n => (match nthD (.var .undef) benv n with | .var (.cst _) => .var .undef | b => b)
  | b => b
theorem rb_eq {s : AS} {b : Bx} : s.rb b = rbE s.benv b := by cases b <;> rfl
theorem rbE_app {b0 m : List Bx} {n : Nat} (h : n < b0.length) : rbE (b0 ++ m) (.cst n) = rbE b0 (.cst n) := by simp only [rbE, nthD_app _ b0 m n h]
theorem rbE_var {b0 : List Bx} {n : Nat} {v : AV} (h : rbE b0 (.cst n) = .var v) : ∀ k, v ≠ .cst k := by
  intro k e
  subst e
  simp only [rbE] at h
  split at h
  · cases h
  · rename_i h1
    exact h1 _ h
def BMk (rv : AV → AV) (x y : Bx) : Prop := (∃ kd t xs, x = .buf kd t xs ∧ y = .buf kd t xs) ∨ (∃ v v', x = .var v ∧ y = .var v' ∧ (∀ k, v' ≠ .cst k) ∧ v' = rv v) ∨ (∃ k, x = .cst k) ∨ ∃ v k, x = .var v ∧ rv v = .cst k
theorem markB_spec {rv : AV → AV} (hrv : ∀ v, (∀ k, v ≠ .cst k) → rv v = v) (b0 : List Bx) : ∀ (l : List (Nat × Bx)) (e : List Bx), (∃ m, e = b0 ++ m) →
    (∃ m, (markB rv (len b0) l e).2 = e ++ m) ∧ ∀ m i, (lookupN (markB rv (len b0) l e).1 i = none ∧ lookupN l i = none) ∨ ∃ x y, lookupN l i = some x ∧ lookupN (markB rv (len b0) l e).1 i = some y ∧ BMk rv (rbE b0 x) (rbE ((markB rv (len b0) l e).2 ++ m) y)
  | [], e, _ => ⟨⟨[], by simp [markB]⟩, fun m i => .inl ⟨rfl, rfl⟩⟩
  | (i0, bx) :: r, e, he => by
    obtain ⟨m0, he⟩ := he
    have key : ∃ (y : Bx) (e' : List Bx), markB rv (len b0) ((i0, bx) :: r) e = ((i0, y) :: (markB rv (len b0) r e').1, (markB rv (len b0) r e').2) ∧ (∃ m, e' = e ++ m) ∧ ∀ m, BMk rv (rbE b0 bx) (rbE (e' ++ m) y) := by
      cases bx with
      | cst n =>
        refine ⟨_, e, rfl, ⟨[], by simp⟩, fun m => ?_⟩
        cases hb : Nat.blt n (len b0) with
        | true =>
          have hlt := blt_of hb
          rw [len_eq] at hlt
          simp only [cond_true]
          rw [he, List.append_assoc, rbE_app hlt]
          cases hx : rbE b0 (.cst n) with
          | var v => exact .inr (.inl ⟨v, v, rfl, rfl, rbE_var hx, (hrv v (rbE_var hx)).symm⟩)
          | buf kd t xs => exact .inl ⟨kd, t, xs, rfl, rfl⟩
          | cst k => exact .inr (.inr (.inl ⟨k, rfl⟩))
        | false =>
          have hge : b0.length ≤ n := by
            rcases Nat.lt_or_ge n b0.length with h | h
            · rw [← len_eq] at h
              have : Nat.blt n (len b0) = true := Nat.ble_eq_true_of_le h
              rw [this] at hb; cases hb
            · exact h
          have : rbE b0 (.cst n) = .var .undef := by simp only [rbE, nthD_out _ b0 n hge]
          rw [this]
          exact .inr (.inl ⟨.undef, .undef, rfl, rfl, (by intro k h; cases h), (hrv _ (by intro k h; cases h)).symm⟩)
      | var v =>
        refine ⟨_, _, rfl, ⟨[.var (rv v)], rfl⟩, fun m => ?_⟩
        by_cases hc : ∃ k, rv v = .cst k
        · obtain ⟨k, hk⟩ := hc
          exact .inr (.inr (.inr ⟨v, k, rfl, hk⟩))
        have hv : ∀ k, rv v ≠ .cst k := fun k e => hc ⟨k, e⟩
        have e1 : rbE (List.append e [Bx.var (rv v)] ++ m) (.cst (len e)) = .var (rv v) := by
          simp only [rbE, len_eq]
          rw [show List.append e [Bx.var (rv v)] ++ m = e ++ Bx.var (rv v) :: m by simp, nthD_last]
          split
          · rename_i k hk; simp only [Bx.var.injEq] at hk; exact (hv k hk).elim
          · rfl
        rw [e1]
        exact .inr (.inl ⟨v, rv v, rfl, rfl, hv, rfl⟩)
      | buf kd t xs =>
        refine ⟨_, _, rfl, ⟨[.buf kd t xs], rfl⟩, fun m => ?_⟩
        have e1 : rbE (List.append e [Bx.buf kd t xs] ++ m) (.cst (len e)) = .buf kd t xs := by
          simp only [rbE, len_eq]
          rw [show List.append e [Bx.buf kd t xs] ++ m = e ++ Bx.buf kd t xs :: m by simp, nthD_last]
        rw [e1]
        exact .inl ⟨kd, t, xs, rfl, rfl⟩
    obtain ⟨y, e', h1, ⟨m1, h2⟩, h3⟩ := key
    obtain ⟨⟨m2, h4⟩, h5⟩ := markB_spec hrv b0 r e' ⟨m0 ++ m1, by rw [h2, he, List.append_assoc]⟩
    rw [h1]
    refine ⟨⟨m1 ++ m2, by show (markB rv (len b0) r e').2 = _; rw [h4, h2, List.append_assoc]⟩, ?_⟩
    intro m i
    simp only [lookupN]
    cases hb : Nat.beq i i0 with
    | true =>
      right
      refine ⟨bx, y, rfl, rfl, ?_⟩
      show BMk rv (rbE b0 bx) (rbE ((markB rv (len b0) r e').2 ++ m) y)
      rw [h4, List.append_assoc]
      exact h3 _
    | false =>
      simp only [cond_false]
      exact h5 m i
section
variable {b : Base} {us : List (Array Value)} {c : Cx} {s : AS} {a : Act}
theorem St.mark (h0 : St c us s a) (hfr0 : Fr b c s) (vars lead ids : List Nat) : St c us (s.mark vars lead ids) a ∧ Fr b c (s.mark vars lead ids) ∧ Ext s (s.mark vars lead ids) := by
  have h := h0.keepI (List.append lead vars) ids
  have hfr := hfr0.keepI (List.append lead vars) ids
  have hext : Ext s (s.keepI (List.append lead vars) ids) := keep_ext
  generalize hk : s.keepI (List.append lead vars) ids = k at *
  have hm : s.mark vars lead ids = { k with tm := (markL (len k.env) (some vars) lead 0 k.tm k.env).1, env := (markU (len k.env) k.up (markL (len k.env) (some vars) lead 0 k.tm k.env).2).2, bx := (markB k.rv (len k.benv) k.bx k.benv).1, benv := (markB k.rv (len k.benv) k.bx k.benv).2, up := (markU (len k.env) k.up (markL (len k.env) (some vars) lead 0 k.tm k.env).2).1 } := by
    rw [← hk]; rfl
  generalize hx : markL (len k.env) (some vars) lead 0 k.tm k.env = x at *
  obtain ⟨⟨m1, e1⟩, l1⟩ := markL_spec k.env (some vars) lead k.tm 0 k.env ⟨[], by simp⟩
  rw [hx] at e1 l1
  generalize hy : markU (len k.env) k.up x.2 = y at *
  obtain ⟨⟨m2, e2⟩, l2⟩ := markU_spec k.env k.up x.2 ⟨m1, e1⟩
  rw [hy] at e2 l2
  have hrvk : ∀ v, (∀ j, v ≠ .cst j) → k.rv v = v := fun v hv => by rw [rv_eq]; exact rvE_ne hv
  generalize hz : markB k.rv (len k.benv) k.bx k.benv = z at *
  obtain ⟨⟨m3, e3⟩, l3⟩ := markB_spec hrvk k.benv k.bx k.benv ⟨[], by simp⟩
  rw [hz] at e3 l3
  generalize hs' : s.mark vars lead ids = s' at *
  have henv : s'.env = y.2 := by rw [hm]
  have hbenv : s'.benv = z.2 := by rw [hm]
  have htm : s'.tm = x.1 := by rw [hm]
  have hup : s'.up = y.1 := by rw [hm]
  have hbx : s'.bx = z.1 := by rw [hm]
  have box : ∀ i, (s'.box i = none ∧ k.box i = none) ∨ (∃ kd t xs, k.box i = some (.buf kd t xs) ∧ s'.box i = some (.buf kd t xs)) ∨ (∃ v v', k.box i = some (.var v) ∧ s'.box i = some (.var v') ∧ s'.rv v' = k.rv v) := by
    intro i
    have hb1 : s'.box i = (lookupN z.1 i).map (rbE z.2) := by
      unfold AS.box
      rw [hbx]
      congr 1
      funext b
      rw [rb_eq, hbenv]
    have hb2 : k.box i = (lookupN k.bx i).map (rbE k.benv) := by
      unfold AS.box
      have : k.rb = rbE k.benv := funext fun b => rb_eq
      rw [this]
    rcases l3 [] i with ⟨n1, n2⟩ | ⟨p, q, n1, n2, n3⟩
    · left; rw [hb1, hb2, n1, n2]; exact ⟨rfl, rfl⟩
    · rw [List.append_nil] at n3
      rw [n1] at hb2
      rw [n2] at hb1
      simp only [Option.map_some] at hb1 hb2
      rcases n3 with ⟨kd, t, xs, q1, q2⟩ | ⟨v, v', q1, q2, q3, q4⟩ | ⟨j, q1⟩ | ⟨v, j, q1, q2⟩
      · right; left; exact ⟨kd, t, xs, by rw [hb2, q1], by rw [hb1, q2]⟩
      · right; right
        refine ⟨v, v', by rw [hb2, q1], by rw [hb1, q2], ?_⟩
        rw [rv_eq, rvE_ne q3, q4]
      · rw [q1] at hb2
        exact (h.bx i _ hb2).elim
      · rw [q1] at hb2
        obtain ⟨blk, cs, T, _, _, h3⟩ := h.bx i _ hb2
        exact (h3.ne_cst j q2).elim
  have hI : c.I s' = c.I k := by
    funext i
    unfold Cx.I
    rcases box i with ⟨n1, n2⟩ | ⟨kd, t, xs, n1, n2⟩ | ⟨v, v', n1, n2, n3⟩
    · rw [n1, n2]; rfl
    · rw [n1, n2]; cases kd <;> rfl
    · rw [n1, n2]; simp only [boxI, n3]
  have hnone : ∀ i, s'.box i ≠ none → k.box i ≠ none := by
    intro i hi
    rcases box i with ⟨n1, n2⟩ | ⟨kd, t, xs, n1, n2⟩ | ⟨v, v', n1, n2, n3⟩
    · exact (hi n1).elim
    · rw [n1]; simp
    · rw [n1]; simp
  refine ⟨⟨?_, h.df, ?_, ?_, ?_, ?_, h.lt, h.mksOf hnone, h.lv⟩, ⟨hfr.os, hfr.tape, hfr.output, hfr.size, hfr.block, fun i z hi hz => hfr.own i z (hnone i hi) hz, hfr.fz, hfr.fz', hfr.bo, hfr.lp, hfr.mks, hfr.mks', hfr.cs⟩, ?_⟩
  · intro j v' hv
    rw [htm] at hv
    obtain ⟨v, hv0, hmk⟩ := l1 m2 j v' hv
    obtain ⟨h1, h2⟩ := h.tm j v hv0
    refine ⟨h1, ?_⟩
    rw [hI, rv_eq, henv, e2]
    rw [rv_eq] at h2
    exact hmk.avr h2
  · rw [hI, hup]
    have : s'.rv = rvE y.2 := by funext v; rw [rv_eq, henv]
    rw [this]
    have hu := h.up
    have hr : k.rv = rvE k.env := funext fun v => rv_eq
    rw [hr] at hu
    have := l2 [] us hu
    rwa [List.append_nil] at this
  · intro i bx hi
    rcases box i with ⟨n1, n2⟩ | ⟨kd, t, xs, n1, n2⟩ | ⟨v, v', n1, n2, n3⟩
    · rw [n1] at hi; cases hi
    · rw [n2] at hi; cases hi; exact (h.bx i _ n1).buf_mono rfl (fun _ _ => rfl) (fun _ _ hk => ⟨hk, rfl⟩) (fun _ => rfl)
    · rw [n2] at hi
      cases hi
      obtain ⟨blk, cs, T, h1, h2, h3⟩ := h.bx i _ n1
      exact ⟨blk, cs, T, h1, h2, by rw [hI, n3]; exact h3⟩
  · exact fun i j x y hi hj => h.inj i j x y (hnone i hi) (hnone j hj)
  · exact fun i x hi => h.own i x (hnone i hi)
  · refine hext.trans ⟨⟨m1 ++ m2, by rw [henv, e2, e1, List.append_assoc]⟩, m3, by rw [hbenv, e3]⟩
end
end Go.Xr
namespace Go.Xr
open Go
section
variable {w : World} {E : Bool → Nat → Prop} {I I' : Nat → Option BI} {s s0 : AS} {m : IdMap}
theorem rv_ext (hx : Ext s0 s) {n : Nat} : s0.rv (.cst n) = s.rv (.cst n) ∨ s0.rv (.cst n) = .undef := by
  obtain ⟨⟨l, h⟩, _⟩ := hx
  simp only [AS.rv, h]
  rcases Nat.lt_or_ge n s0.env.length with h1 | h1
  · exact .inl (nthD_app _ s0.env l n h1).symm
  · exact .inr (nthD_out _ s0.env n h1)
theorem eqt_as {p : PV} {t : Ty} (h : p.t.eqt t = true) : ∃ x, p = ⟨t, x⟩ ∧ p.as t = some x := by
  obtain ⟨t', x⟩ := p
  have e := Ty.eqt_eq h
  simp only at e
  subst e
  refine ⟨x, rfl, ?_⟩
  unfold PV.as
  simp
theorem nk_eq {k k' : NK} (h : k.eq k' = true) : k = k' := by cases k <;> cases k' <;> first | rfl | cases h
structure Cor (w : World) (E : Bool → Nat → Prop) (I I' : Nat → Option BI) (s s0 : AS) (st : Bool) (v v' : AV) : Prop where
  avr : ∀ u, AVR w E I (s.rv v) u → AVR w E I' (s0.rv v') u
  ncst : (∀ k, v ≠ .cst k) → ∀ k, v' ≠ .cst k
  nagg : (∀ fs, s.rv v ≠ .agg fs) → ∀ fs, v' ≠ .agg fs
  str : st = true → (∀ k, v' ≠ .cst k) ∧ ∀ cs, VarC w E I (s.rv v) cs → VarC w E I' v' cs ∧ SameOff v' (s.rv v) ∧ v'.csz = (s.rv v).csz
theorem Cor.raw {st : Bool} {v v' : AV} (h : Cor w E I I' s s0 st v v') (hv : ∀ k, v ≠ .cst k) {u : Value} (k : AVR w E I v u) : AVR w E I' v' u := by
  have := h.avr u (by rw [rv_of_ne hv]; exact k)
  rwa [rv_of_ne (h.ncst hv)] at this
theorem AVRL_cor {st : Bool} : ∀ (xs vs : List AV), xs.length = vs.length → (∀ k, k < xs.length → Cor w E I I' s s0 st (nthD .undef xs k) (nthD .undef vs k)) → ∀ us, AVRL w E I xs us → AVRL w E I' vs us
  | [], [], _, _, us, h => AVRL_nil.2 (AVRL_nil.1 h)
  | x :: xs, v :: vs, hl, hc, us, h => by
    obtain ⟨u, q, e, h1, h2⟩ := AVRL_cons.1 h
    exact AVRL_cons.2 ⟨u, q, e, (hc 0 (by simp)).raw (fun k e => by subst e; exact h1.ne_cst) h1, AVRL_cor xs vs (by simpa using hl) (fun k hk => hc (k + 1) (by simpa using hk)) q h2⟩
  | [], _ :: _, hl, _, _, _ => by simp at hl
  | _ :: _, [], hl, _, _, _ => by simp at hl
theorem AVCL_cor : ∀ (xs vs : List AV), xs.length = vs.length → (∀ k, k < xs.length → Cor w E I I' s s0 true (nthD .undef xs k) (nthD .undef vs k)) → ∀ cs, AVCL w E I xs cs →
    AVCL w E I' vs cs ∧ ∀ k, (nthD .undef vs k).csz = (nthD .undef xs k).csz ∧ SameOff (nthD .undef vs k) (nthD .undef xs k)
  | [], [], _, _, cs, h => ⟨AVCL_nil.2 (AVCL_nil.1 h), fun k => ⟨rfl, fun q => ⟨rfl, rfl⟩⟩⟩
  | x :: xs, v :: vs, hl, hc, cs, h => by
    obtain ⟨c1, c2, e, h1, h2⟩ := AVCL_cons.1 h
    have hx : ∀ k, x ≠ .cst k := fun k e => by subst e; exact (h1 : False).elim
    have h0 := hc 0 (by simp)
    simp only [nthD] at h0
    obtain ⟨hn, hs⟩ := h0.str rfl
    obtain ⟨k1, k2, k3⟩ := hs c1 (by rw [rv_of_ne hx]; exact .of_part h1)
    rw [rv_of_ne hx] at k2 k3
    obtain ⟨j1, j2⟩ := AVCL_cor xs vs (by simpa using hl) (fun k hk => hc (k + 1) (by simpa using hk)) c2 h2
    refine ⟨AVCL_cons.2 ⟨c1, c2, e, ?_, j1⟩, fun k => ?_⟩
    ·
      cases v with
      | agg fs =>
        refine (h0.nagg (fun gs e => ?_) fs rfl).elim
        rw [rv_of_ne hx] at e
        subst e
        exact h1
      | undef =>
        obtain ⟨u, e1, e2⟩ := k1
        exact ⟨u, e1, e2, by simp only [AVR]⟩
      | _ => exact k1
    · cases k with
      | zero => exact ⟨k3, k2⟩
      | succ k => exact j2 k
  | [], _ :: _, hl, _, _, _ => by simp at hl
  | _ :: _, [], hl, _, _, _ => by simp at hl
theorem toPV_cases {v : AV} {p : PV} (h : s.toPV v = some p) : v = .pv p.t p.x ∨ ∃ b, v = .lit b ∧ p = ⟨.bool, pB b⟩ := by
  cases v <;> simp only [AS.toPV] at h <;> cases h
  · exact .inl rfl
  · exact .inr ⟨_, rfl, rfl⟩
theorem oneV_of {v : AV} (h1 : ∀ t x, v ≠ .pv t x) (h2 : ∀ fs, v ≠ .agg fs) : OneV v := .mk h1 h2
theorem VarC_one_out {x : AV} {cs : List Value} (h1 : OneV x) (h2 : x ≠ .undef) (h : VarC w E I x cs) : ∃ u, cs = [u] ∧ u.oneCell' = true ∧ AVR w E I x u ∧ ∀ fs, x ≠ .tup fs := by
  cases x with
  | undef => exact (h2 rfl).elim
  | agg fs => exact (h1.2.1 fs rfl).elim
  | tup fs => exact (h : False).elim
  | cst k => exact (h : False).elim
  | pv t y =>
    cases h1.1 t y rfl
    have h : cs = [.bool y] := h
    exact ⟨.bool y, h, rfl, AVR_bool.2 rfl, by intro fs e; cases e⟩
  | _ =>
    obtain ⟨u, a1, a2, a3⟩ := h
    exact ⟨u, a1, a2, a3, by intro fs e; cases e⟩
theorem VarC_one_in {x : AV} {u : Value} (h1 : OneV x) (h2 : x ≠ .undef) (h3 : ∀ fs, x ≠ .tup fs) (h4 : ∀ k, x ≠ .cst k) (hu : u.oneCell' = true) (h : AVR w E I x u) : VarC w E I x [u] := by
  cases x with
  | undef => exact (h2 rfl).elim
  | agg fs => exact (h1.2.1 fs rfl).elim
  | tup fs => exact (h3 fs rfl).elim
  | cst k => exact (h4 k rfl).elim
  | pv t y =>
    cases h1.1 t y rfl
    rw [AVR_bool.1 h]
    rfl
  | _ => exact ⟨u, rfl, hu, h⟩
theorem cor_one {v v' : AV} {st : Bool} (hne : ∀ k, v' ≠ .cst k) (h1 : ∀ u, AVR w E I (s.rv v) u → AVR w E I' v' u) (hv : OneV (s.rv v)) (hv' : OneV v') (hu : s.rv v ≠ .undef) (hu' : v' ≠ .undef) (ht : ∀ fs, v' = .tup fs → ∃ gs, s.rv v = .tup gs) : Cor w E I I' s s0 st v v' := by
  refine ⟨fun u k => by rw [rv_of_ne hne]; exact h1 u k, fun _ => hne, fun _ => hv'.2.1, fun _ => ⟨hne, fun cs h => ⟨?_, .one hv'.1 hv'.2.1 hv.1 hv.2.1, by rw [hv'.2.2, hv.2.2]⟩⟩⟩
  obtain ⟨u, rfl, a2, a3, a4⟩ := VarC_one_out hv hu h
  exact VarC_one_in hv' hu' (fun fs e => let ⟨gs, e2⟩ := ht fs e; a4 gs e2) hne a2 (h1 u a3)
theorem cor_undef {v : AV} (hv : OneV (s.rv v)) : Cor w E I I' s s0 true v .undef := by
  refine ⟨fun u k => by simp only [AS.rv, AVR], fun _ => (by intro k e; cases e), fun _ => (by intro k e; cases e), fun _ => ⟨(by intro k e; cases e), fun cs h => ⟨?_, .one (by intro t x e; cases e) (by intro fs e; cases e) hv.1 hv.2.1, by rw [hv.2.2]; rfl⟩⟩⟩
  by_cases hu : s.rv v = .undef
  · rw [hu] at h; exact h
  · obtain ⟨u, rfl, a2, _⟩ := VarC_one_out hv hu h
    exact ⟨u, rfl, a2⟩
def RenOK (I I' : Nat → Option BI) (m : IdMap) : Prop := ∀ i, I' i = I (m.get i) ∨ I' i = none
variable (hE : True)
mutual
theorem SV.get_spec (hx : Ext s0 s) (hI : RenOK I I' m) : ∀ (v : SV) (st : Bool) (x : AV) (l : List PV), v.get s m st x = some l → (∀ i, v.uses s i = true → I' i = I i ∨ I' i = none) → ∃ v', (∀ r, v.fill (l ++ r) = (v', r)) ∧ Cor w E I I' s s0 st x v'
  | .undef, st, x, l, hg, _ => by
    simp only [SV.get] at hg
    cases st with
    | false =>
      simp only [cond_false, Option.some.injEq] at hg
      subst hg
      exact ⟨.undef, fun r => by simp only [SV.fill, List.nil_append], fun u k => by simp only [AS.rv, AVR], fun _ => (by intro k e; cases e), fun _ => (by intro k e; cases e), fun h => (by cases h)⟩
    | true =>
      simp only [cond_true] at hg
      refine ⟨.undef, ?_, cor_undef ?_⟩
      · split at hg <;> first | (cases hg; done) | (cases hg; intro r; simp only [SV.fill, List.nil_append])
      · split at hg <;> first | (cases hg; done) | skip
        rename_i h1 h2 h3 h4
        exact .mk (fun t y e => h1 t y e) (fun fs e => h2 fs e)
  | .hole t, st, x, l, hg, _ => by
    simp only [SV.get] at hg
    split at hg
    · rename_i p hp
      cases hq : p.t.eqt t with
      | false => rw [hq] at hg; cases hg
      | true =>
        rw [hq] at hg
        simp only [cond_true, Option.some.injEq] at hg
        subst hg
        obtain ⟨y, rfl, ha⟩ := eqt_as hq
        refine ⟨.pv t y, fun r => by simp only [SV.fill, List.cons_append, List.nil_append, ha, Option.getD_some], ?_⟩
        rcases toPV_cases hp with e | ⟨b, e, e2⟩
        · refine ⟨fun u k => ?_, fun _ => (by intro k e; cases e), fun _ => (by intro k e; cases e), fun _ => ⟨(by intro k e; cases e), fun cs h => ?_⟩⟩
          · rw [e] at k; exact AVR.mono (fun b k hk => ⟨hk, rfl⟩) (.pv t y) u (fun i hi => by simp [AV.names] at hi) k
          · rw [e] at h ⊢; exact ⟨h, fun q => ⟨rfl, rfl⟩, rfl⟩
        · cases e2
          refine cor_one (by intro k e; cases e) (fun u k => ?_) (by rw [e]; exact .mk (by intros; simp) (by intros; simp)) oneBool (by rw [e]; simp) (by simp) (by intro fs e; cases e)
          rw [e] at k
          exact AVR_bool.2 (AVR_lit.1 k)
    · cases hg
  | .cst n, st, .cst k, l, hg, hu => by
    simp only [SV.get] at hg
    cases st with
    | true => cases hg
    | false =>
      simp only [cond_false] at hg
      cases hq : Nat.beq n k with
      | false => rw [hq] at hg; cases hg
      | true =>
        rw [hq] at hg
        simp only [cond_true, Option.some.injEq] at hg
        subst hg
        have e := Nat.eq_of_beq_eq_true hq
        subst e
        refine ⟨.cst n, fun r => by simp only [SV.fill, List.nil_append], fun u k => ?_, fun h => (h n rfl).elim, fun _ => (by intro k e; cases e), fun h => (by cases h)⟩
        rcases rv_ext hx (n := n) with e | e
        · rw [e]
          exact AVR.mono (fun b k hk => ⟨hk, rfl⟩) _ u (fun i hi => hu i hi) k
        · rw [e]; simp only [AVR]
  | .nil k, st, x, l, hg, _ => by
    simp only [SV.get] at hg
    split at hg
    · rename_i k' hx'
      cases hq : k.eq k' with
      | false => rw [hq] at hg; cases hg
      | true =>
        rw [hq] at hg
        simp only [cond_true, Option.some.injEq] at hg
        subst hg
        cases nk_eq hq
        refine ⟨.nil k, fun r => by simp only [SV.fill, List.nil_append], cor_one (by intro k e; cases e) (fun u h => ?_) (by rw [hx']; exact .mk (by intros; simp) (by intros; simp)) (.mk (by intros; simp) (by intros; simp)) (by rw [hx']; simp) (by simp) (by intro fs e; cases e)⟩
        rw [hx'] at h
        exact AVR.mono (fun b k hk => ⟨hk, rfl⟩) _ u (fun i hi => by simp [AV.names] at hi) h
    · cases hg
  | .sl i, st, x, l, hg, _ => by
    simp only [SV.get] at hg
    split at hg
    · rename_i j hx'
      cases hq : Nat.beq (m.get i) j with
      | false => rw [hq] at hg; cases hg
      | true =>
        rw [hq] at hg
        simp only [cond_true, Option.some.injEq] at hg
        subst hg
        have e := Nat.eq_of_beq_eq_true hq
        refine ⟨.sl i, fun r => by simp only [SV.fill, List.nil_append], cor_one (by intro k e; cases e) (fun u h => ?_) (by rw [hx']; exact .mk (by intros; simp) (by intros; simp)) (.mk (by intros; simp) (by intros; simp)) (by rw [hx']; simp) (by simp) (by intro fs e; cases e)⟩
        rw [hx'] at h
        simp only [AVR] at h ⊢
        rcases hI i with e2 | e2
        · unfold SlAt at *; rw [e2, e]; exact h
        · have := h.one; unfold SlAt; rw [e2]; exact this
    · cases hg
  | .mp i, st, x, l, hg, _ => by
    simp only [SV.get] at hg
    split at hg
    · rename_i j hx'
      cases hq : Nat.beq (m.get i) j with
      | false => rw [hq] at hg; cases hg
      | true =>
        rw [hq] at hg
        simp only [cond_true, Option.some.injEq] at hg
        subst hg
        have e := Nat.eq_of_beq_eq_true hq
        refine ⟨.mp i, fun r => by simp only [SV.fill, List.nil_append], cor_one (by intro k e; cases e) (fun u h => ?_) (by rw [hx']; exact .mk (by intros; simp) (by intros; simp)) (.mk (by intros; simp) (by intros; simp)) (by rw [hx']; simp) (by simp) (by intro fs e; cases e)⟩
        rw [hx'] at h
        simp only [AVR] at h ⊢
        rcases hI i with e2 | e2
        · unfold MpAt at *; rw [e2, e]; exact h
        · have := h.one; unfold MpAt; rw [e2]; exact this
    · cases hg
  | .yld i, st, x, l, hg, _ => by
    simp only [SV.get] at hg
    split at hg
    · rename_i j hx'
      cases hq : Nat.beq (m.get i) j with
      | false => rw [hq] at hg; cases hg
      | true =>
        rw [hq] at hg
        simp only [cond_true, Option.some.injEq] at hg
        subst hg
        have e := Nat.eq_of_beq_eq_true hq
        refine ⟨.yld i, fun r => by simp only [SV.fill, List.nil_append], cor_one (by intro k e; cases e) (fun u h => ?_) (by rw [hx']; exact .mk (by intros; simp) (by intros; simp)) (.mk (by intros; simp) (by intros; simp)) (by rw [hx']; simp) (by simp) (by intro fs e; cases e)⟩
        rw [hx'] at h
        simp only [AVR] at h ⊢
        rcases hI i with e2 | e2
        · unfold YlAt at *; rw [e2, e]; exact h
        · have := h.one; unfold YlAt; rw [e2]; exact this
    · cases hg
  | .ptr i [], st, x, l, hg, _ => by
    simp only [SV.get] at hg
    split at hg
    · rename_i j hx'
      cases hq : Nat.beq (m.get i) j with
      | false => rw [hq] at hg; cases hg
      | true =>
        rw [hq] at hg
        simp only [cond_true, Option.some.injEq] at hg
        subst hg
        have e := Nat.eq_of_beq_eq_true hq
        refine ⟨.ptr i [], fun r => by simp only [SV.fill, List.nil_append], cor_one (by intro k e; cases e) (fun u h => ?_) (by rw [hx']; exact .mk (by intros; simp) (by intros; simp)) (.mk (by intros; simp) (by intros; simp)) (by rw [hx']; simp) (by simp) (by intro fs e; cases e)⟩
        rw [hx'] at h
        simp only [AVR] at h ⊢
        rcases hI i with e2 | e2
        · unfold PtrAt at *; rw [e2, e]; exact h
        · have := h.one; unfold PtrAt; rw [e2]; exact this
    · cases hg
  | .clo f cs, st, x, l, hg, hu => by
    simp only [SV.get] at hg
    split at hg
    · rename_i g ds hx'
      cases hq : Nat.beq f g with
      | false => rw [hq] at hg; cases hg
      | true =>
        rw [hq] at hg
        simp only [cond_true] at hg
        have e := Nat.eq_of_beq_eq_true hq
        subst e
        obtain ⟨vs, h1, h2, h3⟩ := getL_spec hx hI cs false ds l hg (fun i hi => hu i (by simp only [SV.uses]; exact hi))
        refine ⟨.clo f vs, fun r => by simp only [SV.fill, h1], cor_one (by intro k e; cases e) (fun u h => ?_) (by rw [hx']; exact .mk (by intros; simp) (by intros; simp)) (.mk (by intros; simp) (by intros; simp)) (by rw [hx']; simp) (by simp) (by intro fs e; cases e)⟩
        rw [hx'] at h
        simp only [AVR] at h ⊢
        obtain ⟨us, k1, k2⟩ := h
        exact ⟨us, k1, AVRL_cor ds vs h2 h3 us k2⟩
    · cases hg
  | .agg fs, st, x, l, hg, hu => by
    simp only [SV.get] at hg
    split at hg
    · rename_i gs hx'
      obtain ⟨vs, h1, h2, h3⟩ := getL_spec hx hI fs true gs l hg (fun i hi => hu i (by simp only [SV.uses]; exact hi))
      refine ⟨.agg vs, fun r => by simp only [SV.fill, h1], fun u k => ?_, fun _ => (by intro k e; cases e), fun h => (h gs hx').elim, fun _ => ⟨(by intro k e; cases e), fun cs h => ?_⟩⟩
      · rw [hx'] at k
        simp only [AS.rv, AVR] at k ⊢
        obtain ⟨cs, k1, k2⟩ := k
        exact ⟨cs, k1, (AVCL_cor gs vs h2 h3 cs k2).1⟩
      · rw [hx'] at h ⊢
        obtain ⟨k1, k2⟩ := AVCL_cor gs vs h2 h3 cs h
        exact ⟨k1, .agg h2.symm k2, rfl⟩
    · cases hg
  | .tup fs, st, x, l, hg, hu => by
    simp only [SV.get] at hg
    split at hg
    · rename_i gs hx'
      obtain ⟨vs, h1, h2, h3⟩ := getL_spec hx hI fs false gs l hg (fun i hi => hu i (by simp only [SV.uses]; exact hi))
      refine ⟨.tup vs, fun r => by simp only [SV.fill, h1], cor_one (by intro k e; cases e) (fun u h => ?_) (by rw [hx']; exact .mk (by intros; simp) (by intros; simp)) (.mk (by intros; simp) (by intros; simp)) (by rw [hx']; simp) (by simp) (fun fs _ => ⟨gs, hx'⟩)⟩
      rw [hx'] at h
      simp only [AVR] at h ⊢
      obtain ⟨us, k1, k2⟩ := h
      exact ⟨us, k1, AVRL_cor gs vs h2 h3 us k2⟩
    · cases hg
  | .ptr i (_ :: _), st, x, l, hg, _ => by simp [SV.get] at hg
  | .cst n, st, .undef, l, hg, _ => by simp [SV.get] at hg
  | .cst n, st, .pv _ _, l, hg, _ => by simp [SV.get] at hg
  | .cst n, st, .lit _, l, hg, _ => by simp [SV.get] at hg
  | .cst n, st, .nil _, l, hg, _ => by simp [SV.get] at hg
  | .cst n, st, .ptr _ _, l, hg, _ => by simp [SV.get] at hg
  | .cst n, st, .fad _ _, l, hg, _ => by simp [SV.get] at hg
  | .cst n, st, .sl _, l, hg, _ => by simp [SV.get] at hg
  | .cst n, st, .slr _ _ _, l, hg, _ => by simp [SV.get] at hg
  | .cst n, st, .asl _ _ _ _, l, hg, _ => by simp [SV.get] at hg
  | .cst n, st, .mp _, l, hg, _ => by simp [SV.get] at hg
  | .cst n, st, .clo _ _, l, hg, _ => by simp [SV.get] at hg
  | .cst n, st, .yld _, l, hg, _ => by simp [SV.get] at hg
  | .cst n, st, .agg _, l, hg, _ => by simp [SV.get] at hg
  | .cst n, st, .tup _, l, hg, _ => by simp [SV.get] at hg
theorem getL_spec (hx : Ext s0 s) (hI : RenOK I I' m) : ∀ (vs : List SV) (st : Bool) (xs : List AV) (l : List PV), getL s m st vs xs = some l → (∀ i, usesL s i vs = true → I' i = I i ∨ I' i = none) →
    ∃ vs', (∀ r, fillL vs (l ++ r) = (vs', r)) ∧ xs.length = vs'.length ∧ ∀ k, k < xs.length → Cor w E I I' s s0 st (nthD .undef xs k) (nthD .undef vs' k)
  | [], st, [], l, hg, _ => by
    simp only [getL, Option.some.injEq] at hg
    subst hg
    exact ⟨[], fun r => by simp only [fillL, List.nil_append], rfl, fun k hk => by simp at hk⟩
  | v :: vs, st, x :: xs, l, hg, hu => by
    simp only [getL] at hg
    split at hg
    · rename_i l1 l2 h1 h2
      cases hg
      obtain ⟨v', f1, f2⟩ := SV.get_spec hx hI v st x l1 h1 (fun i hi => hu i (by simp only [usesL, hi, Bool.true_or]))
      obtain ⟨vs', g1, g2, g3⟩ := getL_spec hx hI vs st xs l2 h2 (fun i hi => hu i (by simp only [usesL, hi, Bool.or_true]))
      refine ⟨v' :: vs', fun r => by simp only [fillL, List.append_eq, List.append_assoc, f1, g1], by simp [g2], fun k hk => ?_⟩
      cases k with
      | zero => exact f2
      | succ k => exact g3 k (by simpa using hk)
    · cases hg
  | [], st, _ :: _, l, hg, _ => by simp [getL] at hg
  | _ :: _, st, [], l, hg, _ => by simp [getL] at hg
end
end
end Go.Xr
namespace Go.Xr
open Go
section
variable {w : World} {E : Bool → Nat → Prop} {I I' : Nat → Option BI} {s s0 : AS} {m : IdMap}
theorem getR_spec (hx : Ext s0 s) (hI : RenOK I I' m) : ∀ (vs : List SV) (xs : List AV) (l : List PV), getR s m vs xs = some l → (∀ i, usesL s i vs = true → I' i = I i ∨ I' i = none) →
    ∃ vs', (∀ r, fillL vs (l ++ r) = (vs', r)) ∧ ∀ k v', nth vs' k = some v' → ∃ x, nth xs k = some x ∧ ∀ u, AVR w E I (s.rv x) u → AVR w E I' (s0.rv v') u
  | [], xs, l, hg, _ => by
    simp only [getR, Option.some.injEq] at hg
    subst hg
    exact ⟨[], fun r => by simp only [fillL, List.nil_append], fun k v' h => by cases h⟩
  | v :: vs, x :: xs, l, hg, hu => by
    simp only [getR] at hg
    split at hg
    · rename_i l1 l2 h1 h2
      cases hg
      obtain ⟨v', f1, f2⟩ := SV.get_spec (w := w) (E := E) hx hI v false x l1 h1 (fun i hi => hu i (by simp only [usesL, hi, Bool.true_or]))
      obtain ⟨vs', g1, g2⟩ := getR_spec hx hI vs xs l2 h2 (fun i hi => hu i (by simp only [usesL, hi, Bool.or_true]))
      refine ⟨v' :: vs', fun r => by simp only [fillL, List.append_eq, List.append_assoc, f1, g1], fun k y hk => ?_⟩
      cases k with
      | zero => simp only [nth, Option.some.injEq] at hk; subst hk; exact ⟨x, rfl, f2.avr⟩
      | succ k => exact g2 k y hk
    · cases hg
  | _ :: _, [], l, hg, _ => by simp [getR] at hg
theorem getU_spec (hx : Ext s0 s) (hI : RenOK I I' m) : ∀ (vs : List (List SV)) (xs : List (List AV)) (l : List PV), getU s m vs xs = some l → (∀ i, vs.any (usesL s i) = true → I' i = I i ∨ I' i = none) →
    ∃ vs', (∀ r, fillU vs (l ++ r) = (vs', r)) ∧ ∀ us, UpOK w E I s.rv xs us → UpOK w E I' s0.rv vs' us
  | [], [], l, hg, _ => by
    simp only [getU, Option.some.injEq] at hg
    subst hg
    exact ⟨[], fun r => by simp only [fillU, List.nil_append], fun us h => h⟩
  | [], _ :: _, l, hg, _ => by simp [getU] at hg
  | v :: vs, x :: xs, l, hg, hu => by
    simp only [getU] at hg
    split at hg
    · rename_i l1 l2 h1 h2
      cases hg
      obtain ⟨v', f1, f2⟩ := getR_spec (w := w) (E := E) hx hI v x l1 h1 (fun i hi => hu i (by simp only [List.any_cons, hi, Bool.true_or]))
      obtain ⟨vs', g1, g2⟩ := getU_spec hx hI vs xs l2 h2 (fun i hi => hu i (by simp only [List.any_cons, hi, Bool.or_true]))
      refine ⟨v' :: vs', fun r => by simp only [fillU, List.append_eq, List.append_assoc, f1, g1], ?_⟩
      rintro us ⟨u, q, e, k1, k2⟩
      refine ⟨u, q, e, fun k y hk => ?_, g2 q k2⟩
      obtain ⟨z, z1, z2⟩ := f2 k y hk
      obtain ⟨j1, j2⟩ := k1 k z z1
      exact ⟨j1, z2 _ j2⟩
    · cases hg
  | _ :: _, [], l, hg, _ => by simp [getU] at hg
def FilledB (s : AS) (m : IdMap) (bs : List (Nat × SB)) (bx : List (Nat × Bx)) : Prop :=
  ∀ i, (lookupN bs i = none ∧ lookupN bx i = none) ∨ ∃ sb b' li, lookupN bs i = some sb ∧ lookupN bx i = some b' ∧ sb.get s m i = some li ∧ ∀ r, sb.fill (li ++ r) = (b', r)
theorem getB_spec : ∀ (bs : List (Nat × SB)) (l : List PV), getB s m bs = some l → (∀ (i : Nat) (sb : SB) (li : List PV), sb.get s m i = some li → ∃ b', ∀ r, sb.fill (li ++ r) = (b', r)) → ∃ bx, (∀ r, fillB bs (l ++ r) = (bx, r)) ∧ FilledB s m bs bx
  | [], l, hg, _ => by
    simp only [getB, Option.some.injEq] at hg
    subst hg
    exact ⟨[], fun r => by simp only [fillB, List.nil_append], fun i => .inl ⟨rfl, rfl⟩⟩
  | (i, sb) :: bs, l, hg, hf => by
    simp only [getB] at hg
    split at hg
    · rename_i l1 l2 h1 h2
      cases hg
      obtain ⟨b', f1⟩ := hf i sb l1 h1
      obtain ⟨bx, g1, g2⟩ := getB_spec bs l2 h2 hf
      refine ⟨(i, b') :: bx, fun r => by simp only [fillB, List.append_eq, List.append_assoc, f1, g1], fun j => ?_⟩
      simp only [lookupN]
      cases hb : Nat.beq j i with
      | true => have e := Nat.eq_of_beq_eq_true hb; subst e; exact .inr ⟨sb, b', l1, rfl, rfl, h1, f1⟩
      | false => exact g2 j
    · cases hg
theorem nodupN_spec : ∀ l : List Nat, nodupN l = true → l.Nodup
  | [], _ => List.nodup_nil
  | x :: r, h => by
    simp only [nodupN, Bool.and_eq_true, Bool.not_eq_true'] at h
    refine List.nodup_cons.2 ⟨fun hm => ?_, nodupN_spec r h.2⟩
    have : r.any (Nat.beq x) = true := List.any_eq_true.2 ⟨x, hm, by simp⟩
    rw [this] at h
    cases h.1
theorem lookup_mem {α : Type} : ∀ (l : List (Nat × α)) (i : Nat) (x : α), lookupN l i = some x → (i, x) ∈ l
  | (j, y) :: r, i, x, h => by
    simp only [lookupN] at h
    cases hb : Nat.beq i j with
    | true => rw [hb] at h; have e := Nat.eq_of_beq_eq_true hb; subst e; cases h; exact List.mem_cons_self
    | false => rw [hb] at h; exact List.mem_cons_of_mem _ (lookup_mem r i x h)
theorem nodup_inj {α β : Type} {f : α → β} : ∀ (l : List α), (l.map f).Nodup → ∀ x y, x ∈ l → y ∈ l → f x = f y → x = y
  | z :: r, h, x, y, hx, hy, e => by
    simp only [List.map_cons, List.nodup_cons] at h
    rcases List.mem_cons.1 hx with e1 | h1 <;> rcases List.mem_cons.1 hy with e2 | h2
    · rw [e1, e2]
    · subst e1; exact (h.1 (e ▸ List.mem_map_of_mem h2)).elim
    · subst e2; exact (h.1 (e ▸ List.mem_map_of_mem h1)).elim
    · exact nodup_inj r h.2 x y h1 h2 e
end
end Go.Xr
namespace Go.Xr
open Go
section
variable {b : Base} {us : List (Array Value)} {c : Cx} {s s0 : AS} {a : Act} {m : IdMap}
theorem SB.fill_ex (c : Cx) (hx : Ext s0 s) (i : Nat) (sb : SB) (li : List PV) (h : sb.get s m i = some li) : ∃ b', ∀ r, sb.fill (li ++ r) = (b', r) := by
  cases sb with
  | cst n =>
    simp only [SB.get] at h
    split at h
    · rename_i k hk
      cases hq : Nat.beq n k with
      | false => rw [hq] at h; cases h
      | true => rw [hq] at h; cases h; exact ⟨.cst n, fun r => rfl⟩
    · cases h
  | buf kd t =>
    simp only [SB.get] at h
    split at h
    · rename_i kd' t' xs hb
      cases hq : kd.eq kd' && t.eqt t' with
      | false => rw [hq] at h; cases h
      | true => rw [hq] at h; cases h; exact ⟨_, fun r => rfl⟩
    · cases h
  | var v =>
    simp only [SB.get] at h
    split at h
    · rename_i x hb
      obtain ⟨v', h1, _⟩ := SV.get_spec (w := c.w) (E := c.E) (I := fun _ => none) (I' := fun _ => none) hx (fun i => .inr rfl) v true x li h (fun i _ => .inr rfl)
      exact ⟨.var v', fun r => by simp only [SB.fill, h1]⟩
    · cases h
theorem box_lookup {i : Nat} : s.box i = (lookupN s.bx i).map (rbE s.benv) := by
  unfold AS.box
  have : s.rb = rbE s.benv := funext fun b => rb_eq
  rw [this]
theorem rbE_ext (hx : Ext s0 s) {n : Nat} (hn : n < s0.benv.length) : rbE s.benv (.cst n) = rbE s0.benv (.cst n) := by
  obtain ⟨_, l, h⟩ := hx
  rw [h]
  exact rbE_app hn
theorem fill_state (h : St c us s a) (hfr : Fr b c s) (hx : Ext s0 s) {σ : SS} {vs : List SV} {l : List PV} (hok : σ.ok s m vs = true) (hin : σ.inR s0 = true) (hg : σ.get s m = some l) :
    ∃ (c' : Cx) (s' : AS), c'.w = c.w ∧ (∀ r, σ.fill s0 (l ++ r) = (s', r)) ∧ St c' us s' a ∧ Fr b c' s' ∧ c'.E = c.E ∧ s'.env = s0.env ∧ s'.benv = s0.benv ∧ RenOK (c.I s) (c'.I s') m ∧ ∀ i, usesL s i vs = true → c'.I s' i = c.I s i ∨ c'.I s' i = none := by
  simp only [SS.ok, Bool.and_eq_true] at hok
  obtain ⟨hnd, hall⟩ := hok
  have hnd := nodupN_spec _ hnd
  unfold SS.get at hg
  split at hg
  · rename_i l1 l2 l3 g1 g2 g3
    cases hg
    obtain ⟨bx', hb1, hb2⟩ := getB_spec σ.bx l2 g2 (fun i sb li hi => SB.fill_ex c hx i sb li hi)
    obtain ⟨tm0, ht0, _⟩ := getR_spec (w := c.w) (E := c.E) (I := c.I s) (I' := fun _ => none) hx (fun i => .inr rfl) σ.tm s.tm l1 g1 (fun i _ => .inr rfl)
    obtain ⟨up0, hu0, _⟩ := getU_spec (w := c.w) (E := c.E) (I := c.I s) (I' := fun _ => none) hx (fun i => .inr rfl) σ.up s.up l3 g3 (fun i _ => .inr rfl)
    let c' : Cx := { c with ρ := fun i => match lookupN σ.bx i with | none => none | some _ => c.ρ (m.get i) }
    let s' : AS := { s0 with tm := tm0, bx := bx', up := up0 }
    have hfill : ∀ r, σ.fill s0 (List.append l1 (List.append l2 l3) ++ r) = (s', r) := by
      intro r
      simp only [SS.fill, List.append_eq, List.append_assoc, ht0, hb1, hu0]
      rfl
    have boxes : ∀ i, (lookupN σ.bx i = none ∧ s'.box i = none) ∨ ∃ sb, lookupN σ.bx i = some sb ∧ (
        (∃ kd t xs, s.box (m.get i) = some (.buf kd t xs) ∧ s'.box i = some (.buf kd t xs)) ∨
        (∃ v, s.box (m.get i) = some (.var v) ∧ s'.box i = some (.var v) ∧ (∀ k, v ≠ .cst k) ∧ (∀ j, v.names j = true → sb.uses s j = true)) ∨
        ∃ v x v' li, sb = .var v ∧ s.box (m.get i) = some (.var x) ∧ s'.box i = some (.var v') ∧ v.get s m true x = some li ∧ ∀ r, v.fill (li ++ r) = (v', r)) := by
      intro i
      rcases hb2 i with ⟨n1, n2⟩ | ⟨sb, b', li, n1, n2, n3, n4⟩
      · left
        refine ⟨n1, ?_⟩
        rw [box_lookup]
        show (lookupN bx' i).map _ = none
        rw [n2]; rfl
      · right
        refine ⟨sb, n1, ?_⟩
        have hbx : s'.box i = some (rbE s0.benv b') := by
          rw [box_lookup]
          show (lookupN bx' i).map (rbE s0.benv) = _
          rw [n2]; rfl
        cases sb with
        | cst n =>
          have hn : n < s0.benv.length := by
            unfold SS.inR at hin
            have := List.all_eq_true.1 hin _ (lookup_mem _ _ _ n1)
            have := blt_of this
            rwa [len_eq] at this
          simp only [SB.get] at n3
          split at n3
          · rename_i k hk
            cases hq : Nat.beq n k with
            | false => rw [hq] at n3; cases n3
            | true =>
              rw [hq] at n3
              cases n3
              have e := Nat.eq_of_beq_eq_true hq
              subst e
              have e2 := n4 []
              simp only [SB.fill, List.nil_append, Prod.mk.injEq, and_true] at e2
              subst e2
              have hbs : s.box (m.get i) = some (rbE s0.benv (.cst n)) := by rw [box_lookup, hk]; simp only [Option.map_some, rbE_ext hx hn]
              cases hc : rbE s0.benv (.cst n) with
              | buf kd t xs => left; exact ⟨kd, t, xs, by rw [hbs, hc], by rw [hbx, hc]⟩
              | var v =>
                right; left
                have hv := rbE_var hc
                refine ⟨v, by rw [hbs, hc], by rw [hbx, hc], hv, ?_⟩
                intro j hj
                simp only [SB.uses]
                have e3 : rbE s.benv (.cst n) = .var v := by rw [rbE_ext hx hn, hc]
                simp only [rbE] at e3
                split at e3
                · cases e3; simp [AV.names] at hj
                · rename_i h1
                  rw [e3]
                  simp only [rv_of_ne hv, hj]
              | cst k =>
                rw [hc] at hbs
                exact (h.bx _ _ hbs).elim
          · cases n3
        | buf kd t =>
          simp only [SB.get] at n3
          split at n3
          · rename_i kd' t' xs hk
            cases hq : kd.eq kd' && t.eqt t' with
            | false => rw [hq] at n3; cases n3
            | true =>
              rw [hq] at n3
              cases n3
              simp only [Bool.and_eq_true] at hq
              cases BK.eq_eq hq.1
              cases Ty.eqt_eq hq.2
              have e2 := n4 []
              simp only [SB.fill, List.nil_append, List.cons_append, Prod.mk.injEq, and_true] at e2
              left
              refine ⟨kd, t, xs, hk, ?_⟩
              rw [hbx, ← e2]
              simp [rbE, PV.as]
          · cases n3
        | var v =>
          simp only [SB.get] at n3
          split at n3
          · rename_i x hk
            right; right
            obtain ⟨v', f1, _⟩ := SV.get_spec (w := c.w) (E := c.E) (I := fun _ => none) (I' := fun _ => none) hx (fun i => .inr rfl) v true x li n3 (fun i _ => .inr rfl)
            refine ⟨v, x, v', li, rfl, hk, ?_, n3, f1⟩
            have e2 := n4 []
            simp only [SB.fill, f1, Prod.mk.injEq, and_true] at e2
            rw [hbx, ← e2]
            rfl
          · cases n3
    have hρ : ∀ i sb, lookupN σ.bx i = some sb → c'.ρ i = c.ρ (m.get i) := by
      intro i sb hi
      show (match lookupN σ.bx i with | none => none | some _ => c.ρ (m.get i)) = _
      rw [hi]
    have hI : ∀ i, (lookupN σ.bx i = none ∧ c'.I s' i = none) ∨ (∃ sb, lookupN σ.bx i = some sb) ∧ c'.I s' i = c.I s (m.get i) := by
      intro i
      rcases boxes i with ⟨n1, n2⟩ | ⟨sb, n1, n2⟩
      · left
        refine ⟨n1, ?_⟩
        unfold Cx.I
        rw [n2]; rfl
      · right
        refine ⟨⟨sb, n1⟩, ?_⟩
        unfold Cx.I
        rw [hρ i sb n1]
        rcases n2 with ⟨kd, t, xs, q1, q2⟩ | ⟨v, q1, q2, q3, _⟩ | ⟨v, x, v', li, q0, q1, q2, q3, q4⟩
        · rw [q1, q2]; cases kd <;> rfl
        · rw [q1, q2]
          simp only [boxI, rv_of_ne q3]
        · rw [q1, q2]
          obtain ⟨blk, cs, T, k1, k2, k3⟩ := h.bx _ _ q1
          obtain ⟨v2, f1, f2⟩ := SV.get_spec (w := c.w) (E := c.E) (I := c.I s) (I' := fun _ => none) hx (fun i => .inr rfl) v true x li q3 (fun i _ => .inr rfl)
          have e : v2 = v' := by have := (f1 []).symm.trans (q4 []); cases this; rfl
          subst e
          obtain ⟨f3, f4⟩ := f2.str rfl
          obtain ⟨_, f5, _⟩ := f4 cs k3
          simp only [boxI, rv_of_ne f3]
          congr 1
          funext z
          congr 1
          · funext p; exact (f5 p).1
          · funext p; exact (f5 p).2
    have hren : RenOK (c.I s) (c'.I s') m := by
      intro i
      rcases hI i with ⟨_, e⟩ | ⟨_, e⟩
      · exact .inr e
      · exact .inl e
    have huses : ∀ i, (σ.uses s i || usesL s i vs) = true → c'.I s' i = c.I s i ∨ c'.I s' i = none := by
      intro i hu
      rcases hI i with ⟨_, e⟩ | ⟨⟨sb, e1⟩, e⟩
      · exact .inr e
      · left
        have := List.all_eq_true.1 hall _ (lookup_mem _ _ _ e1)
        simp only [hu, Bool.not_true, Bool.false_and, Bool.or_false] at this
        rw [e, Nat.eq_of_beq_eq_true this]
    have hfree : ∀ i sb, lookupN σ.bx i = some sb → freeB s (m.get i) = false → m.get i = i := by
      intro i sb hi hf
      have := List.all_eq_true.1 hall _ (lookup_mem _ _ _ hi)
      simp only [hf, Bool.and_false, Bool.or_false] at this
      exact Nat.eq_of_beq_eq_true this
    have hE' : c'.E = c.E := rfl
    have hut : ∀ i, usesL s i σ.tm = true → c'.I s' i = c.I s i ∨ c'.I s' i = none := fun i hi => huses i (by simp [SS.uses, hi])
    have hub : ∀ j sb i, lookupN σ.bx j = some sb → sb.uses s i = true → c'.I s' i = c.I s i ∨ c'.I s' i = none := fun j sb i hj hi => huses i (by
      have : σ.bx.any (fun x => x.2.uses s i) = true := List.any_eq_true.2 ⟨_, lookup_mem _ _ _ hj, hi⟩
      simp [SS.uses, this])
    have huu : ∀ i, σ.up.any (usesL s i) = true → c'.I s' i = c.I s i ∨ c'.I s' i = none := fun i hi => huses i (by simp [SS.uses, hi])
    obtain ⟨tm1, ht1, ht2⟩ := getR_spec (w := c.w) (E := c.E) (I := c.I s) (I' := c'.I s') hx hren σ.tm s.tm l1 g1 hut
    have etm : tm1 = tm0 := by have := (ht1 []).symm.trans (ht0 []); cases this; rfl
    subst etm
    obtain ⟨up1, hu1, hu2⟩ := getU_spec (w := c.w) (E := c.E) (I := c.I s) (I' := c'.I s') hx hren σ.up s.up l3 g3 huu
    have eup : up1 = up0 := by have := (hu1 []).symm.trans (hu0 []); cases this; rfl
    subst eup
    have hnone : ∀ i, s'.box i ≠ none → ∃ sb, lookupN σ.bx i = some sb ∧ s.box (m.get i) ≠ none := by
      intro i hi
      rcases boxes i with ⟨n1, n2⟩ | ⟨sb, n1, n2⟩
      · exact (hi n2).elim
      · refine ⟨sb, n1, ?_⟩
        rcases n2 with ⟨kd, t, xs, q1, q2⟩ | ⟨v, q1, q2, q3, _⟩ | ⟨v, x, v', li, q0, q1, q2, q3, q4⟩ <;> rw [q1] <;> simp
    have hrv : ∀ v, s'.rv v = s0.rv v := fun v => rfl
    refine ⟨c', s', rfl, hfill, ⟨?_, h.df, ?_, ?_, ?_, ?_, h.lt, ?_, h.lv⟩, ⟨hfr.os, hfr.tape, hfr.output, hfr.size, hfr.block, ?_, hfr.fz, hfr.fz', hfr.bo, hfr.lp, hfr.mks, hfr.mks', hfr.cs⟩, hE', rfl, rfl, hren, fun i hi => huses i (by simp [hi])⟩
    · intro k v' hv
      obtain ⟨x, x1, x2⟩ := ht2 k v' hv
      obtain ⟨j1, j2⟩ := h.tm k x x1
      exact ⟨j1, x2 _ j2⟩
    · exact hu2 us h.up
    · intro i bx hi
      rcases boxes i with ⟨n1, n2⟩ | ⟨sb, n1, n2⟩
      · rw [n2] at hi; cases hi
      · rcases n2 with ⟨kd, t, xs, q1, q2⟩ | ⟨v, q1, q2, q3, q5⟩ | ⟨v, x, v', li, q0, q1, q2, q3, q4⟩
        · rw [q2] at hi
          cases hi
          refine (h.bx _ _ q1).buf_mono (hρ i sb n1) (fun _ _ => rfl) (fun _ _ hk => ⟨hk, rfl⟩) (fun hf => ?_)
          rw [hfree i sb n1 (by simp [freeB, q1, hf])]
        · rw [q2] at hi
          cases hi
          obtain ⟨blk, cs, T, k1, k2, k3⟩ := h.bx _ _ q1
          refine ⟨blk, cs, T, by rw [hρ i sb n1]; exact k1, k2, ?_⟩
          rw [rv_of_ne q3] at k3 ⊢
          exact k3.mono (fun b k hk => ⟨hk, rfl⟩) (fun j hj => hub i sb j n1 (q5 j hj))
        · rw [q2] at hi
          cases hi
          obtain ⟨blk, cs, T, k1, k2, k3⟩ := h.bx _ _ q1
          subst q0
          obtain ⟨v2, f1, f2⟩ := SV.get_spec (w := c.w) (E := c.E) (I := c.I s) (I' := c'.I s') hx hren v true x li q3 (fun j hj => hub i (.var v) j n1 hj)
          have e : v2 = v' := by have := (f1 []).symm.trans (q4 []); cases this; rfl
          subst e
          obtain ⟨f3, f4⟩ := f2.str rfl
          refine ⟨blk, cs, T, by rw [hρ i _ n1]; exact k1, k2, ?_⟩
          rw [rv_of_ne f3]
          exact (f4 cs k3).1
    · intro i j x y hi hj hxi hyj hxy
      obtain ⟨sb, n1, n2⟩ := hnone i hi
      obtain ⟨sb', n1', n2'⟩ := hnone j hj
      rw [hρ i sb n1] at hxi
      rw [hρ j sb' n1'] at hyj
      have e := h.inj _ _ x y n2 n2' hxi hyj hxy
      have := nodup_inj (f := fun z : Nat × SB => m.get z.1) σ.bx hnd _ _ (lookup_mem _ _ _ n1) (lookup_mem _ _ _ n1') e
      cases this
      rfl
    · intro i x hi hxi
      obtain ⟨sb, n1, n2⟩ := hnone i hi
      rw [hρ i sb n1] at hxi
      exact h.own _ x n2 hxi
    · intro r hr
      refine ⟨(h.mks r hr).1, (h.mks r hr).2.1, (h.mks r hr).2.2.1, fun i x hi hxi => ?_⟩
      obtain ⟨sb, n1, n2⟩ := hnone i hi
      rw [hρ i sb n1] at hxi
      exact (h.mks r hr).2.2.2 _ x n2 hxi
    · intro i x hi hxi
      obtain ⟨sb, n1, n2⟩ := hnone i hi
      rw [hρ i sb n1] at hxi
      exact hfr.own _ x n2 hxi
  · cases hg
end
end Go.Xr
namespace Go.Xr
open Go
theorem PV.as_eq {p : PV} {t : Ty} {x : t.T} (h : p.as t = some x) : (⟨t, x⟩ : PV) = p := by
  obtain ⟨t', y⟩ := p
  unfold PV.as at h
  split at h
  · rename_i e
    simp only at e
    subst e
    simp only [Option.some.injEq] at h
    subst h
    rfl
  · cases h
theorem HL.out_mk : ∀ (ts : List Ty) (l : List PV) (d : HL ts), HL.mk ts l = some d → HL.out ts d = l
  | [], [], d, h => rfl
  | t :: ts, p :: ps, d, h => by
    simp only [HL.mk] at h
    split at h
    · rename_i x e h1 h2
      cases h
      simp only [HL.out, pFst, pSnd, pPair, PV.as_eq h1, HL.out_mk ts ps e h2]
    · cases h
  | [], _ :: _, _, h => by simp [HL.mk] at h
  | _ :: _, [], _, h => by simp [HL.mk] at h
section
variable {P : Program} {b : Base} {us : List (Array Value)} {c : Cx} {s s0 : AS} {a : Act} {m : IdMap} {Q : Ex → AS → Prop}
def EndR (c : Cx) (s : AS) (c' : Cx) (s' : AS) (e' : Ex) : Ex → Prop
  | .normal => e' = .normal
  | .exit i => e' = .exit i
  | .ret vs => ∃ vs', e' = .ret vs' ∧ ∀ rs, AVRL c.w c.E (c.I s) vs rs → AVRL c'.w c'.E (c'.I s') vs' rs
theorem Way.take_specE (h : St c us s a) (hfr : Fr b c s) (hx : Ext s0 s) {w : Way} {e : Ex} {d : HL w.holes} (hin : w.σ.inR s0 = true) (hg : w.take e s = some d) :
    ∃ c' e' s', c'.w = c.w ∧ w.leaf s0 d = .leaf e' s' ∧ St c' us s' a ∧ Fr b c' s' ∧
      EndR c s c' s' e' e ∧ c'.E = c.E := by
  have plain : ∀ {l : List PV}, w.σ.take s = some l → ∃ (c' : Cx) (s' : AS), c'.w = c.w ∧ (∀ r, w.σ.fill s0 (l ++ r) = (s', r)) ∧ St c' us s' a ∧ Fr b c' s' ∧ c'.E = c.E := by
    intro l hl
    unfold SS.take at hl
    cases hok : w.σ.ok s (w.σ.find s []) [] with
    | false => simp only [hok, cond_false] at hl; cases hl
    | true =>
      simp only [hok, cond_true] at hl
      obtain ⟨c', s', h1, h2, h3, h4, hE, _⟩ := fill_state h hfr hx hok hin hl
      exact ⟨c', s', h1, h2, h3, h4, hE⟩
  obtain ⟨we, σ⟩ := w
  unfold Way.take at hg
  unfold Way.leaf
  cases we with
  | normal =>
    cases e with
    | normal =>
      simp only at hg
      split at hg
      · rename_i l hl
        obtain ⟨c', s', h1, h2, h3, h4, hE⟩ := plain hl
        have ho := HL.out_mk _ _ _ hg
        refine ⟨c', .normal, s', h1, ?_, h3, h4, rfl, hE⟩
        have := h2 []
        rw [List.append_nil] at this
        simp only [ho, SE.fill, this]
      · cases hg
    | exit j => cases hg
    | ret us => cases hg
  | exit i =>
    cases e with
    | normal => cases hg
    | ret us => cases hg
    | exit j =>
      simp only at hg
      cases hb : Nat.beq i j with
      | false => rw [hb] at hg; cases hg
      | true =>
        rw [hb] at hg
        have e := Nat.eq_of_beq_eq_true hb
        subst e
        simp only [cond_true] at hg
        split at hg
        · rename_i l hl
          obtain ⟨c', s', h1, h2, h3, h4, hE⟩ := plain hl
          have ho := HL.out_mk _ _ _ hg
          refine ⟨c', .exit i, s', h1, ?_, h3, h4, rfl, hE⟩
          have := h2 []
          rw [List.append_nil] at this
          simp only [ho, SE.fill, this]
        · cases hg
  | ret vs =>
    cases e with
    | normal => cases hg
    | exit j => cases hg
    | ret xs =>
      simp only at hg
      generalize hm : σ.find s (findL s vs xs []) = m at hg
      cases hok : σ.ok s m vs with
      | false => rw [hok] at hg; cases hg
      | true =>
        rw [hok] at hg
        simp only [cond_true] at hg
        split at hg
        · rename_i l l' hl hl'
          obtain ⟨c', s', h1, h2, h3, h4, hE, henv, hbenv, hren, hu⟩ := fill_state h hfr hx hok hin hl'
          obtain ⟨vs', g1, g2, g3⟩ := getL_spec (w := c.w) (E := c.E) (I := c.I s) (I' := c'.I s') hx hren vs false xs l hl hu
          have ho := HL.out_mk _ _ _ hg
          refine ⟨c', .ret vs', s', h1, ?_, h3, h4, ⟨vs', rfl, fun rs hrs => ?_⟩, hE⟩
          · have := h2 []
            rw [List.append_nil] at this
            simp only [ho, SE.fill, List.append_eq, g1, this]
          · have := AVRL_cor xs vs' g2 g3 rs hrs
            rw [h1, hE]
            exact this
        · cases hg
theorem Way.take_spec (h : St c us s a) (hfr : Fr b c s) (hx : Ext s0 s) {w : Way} {e : Ex} {d : HL w.holes} (hin : w.σ.inR s0 = true) (hg : w.take e s = some d) :
    ∃ c' e' s', c'.w = c.w ∧ w.leaf s0 d = .leaf e' s' ∧ St c' us s' a ∧ Fr b c' s' ∧
      EndR c s c' s' e' e :=
  let ⟨c', e', s', g1, g2, g3, g4, g5, _⟩ := Way.take_specE h hfr hx hin hg
  ⟨c', e', s', g1, g2, g3, g4, g5⟩
theorem Ways.take_one : ∀ (l : List Way) {x : Ways l} {e : Ex} {s : AS}, Ways.take l e s = some x → (Ways.tree s0 l x).sat Q → ∃ w ∈ l, ∃ d, w.take e s = some d ∧ (w.leaf s0 d).sat Q
  | [], x, e, s, h, _ => by cases h
  | [w], x, e, s, h, hq => ⟨w, by simp, x, h, hq⟩
  | w :: w' :: r, x, e, s, h, hq => by
    simp only [Ways.take] at h
    split at h
    · rename_i d hd
      cases h
      exact ⟨w, by simp, d, hd, hq.1 d rfl⟩
    · split at h
      · rename_i y hy
        cases h
        obtain ⟨w2, h1, d, h2, h3⟩ := Ways.take_one (w' :: r) hy (hq.2 y rfl)
        exact ⟨w2, List.mem_cons_of_mem _ h1, d, h2, h3⟩
      · cases h
theorem ways_absE {l : List Way} (hin : (l.all fun w => w.σ.inR s0) = true) {x : Ways l} {res : List ResultVar} (hq : (Ways.tree s0 l x).sat Q) : ∀ e a w,
    AbsE P res b us (fun e s => Ways.take l e s = some x ∧ Ext s0 s) e a w → AbsE P res b us Q e a w
  | .normal, a, w, ⟨c, s, h1, ⟨h2, hx⟩, h3, h4⟩ => by
    obtain ⟨wy, hm, d, k1, k2⟩ := Ways.take_one l h2 hq
    obtain ⟨c', e', s', g1, g2, g3, g4, g5⟩ := Way.take_spec h3 h4 hx (List.all_eq_true.1 hin _ hm) k1
    cases g5
    rw [g2] at k2
    exact ⟨c', s', g1.trans h1, k2, g3, g4⟩
  | .exit id, a, w, ⟨c, s, h1, ⟨h2, hx⟩, h3, h4⟩ => by
    obtain ⟨wy, hm, d, k1, k2⟩ := Ways.take_one l h2 hq
    obtain ⟨c', e', s', g1, g2, g3, g4, g5⟩ := Way.take_spec h3 h4 hx (List.all_eq_true.1 hin _ hm) k1
    cases g5
    rw [g2] at k2
    exact ⟨c', s', g1.trans h1, k2, g3, g4⟩
  | .ret, a, w, ⟨c, s, vs, rs, h1, ⟨h2, hx⟩, h3, h4, h5, h6⟩ => by
    obtain ⟨wy, hm, d, k1, k2⟩ := Ways.take_one l h2 hq
    obtain ⟨c', e', s', g1, g2, g3, g4, g5⟩ := Way.take_spec h3 h4 hx (List.all_eq_true.1 hin _ hm) k1
    obtain ⟨vs', rfl, g6⟩ := g5
    rw [g2] at k2
    exact ⟨c', s', vs', rs, g1.trans h1, k2, g3, g4, h5, g6 rs h6⟩
  | .goto _, _, _, h => h.elim
  | .panic _, _, _, h => h.elim
  | .outgrown, _, _, h => h.elim
theorem leaf_all {w : Way} {d : HL w.holes} : (w.leaf s0 d).All (EX s0) := by
  unfold Way.leaf
  dsimp only [Tree.All]
  exact Ext.of rfl rfl
theorem ways_ext : ∀ (l : List Way) (x : Ways l), (Ways.tree s0 l x).All (EX s0)
  | [], _ => trivial
  | [w], d => leaf_all
  | w :: w' :: r, x => ⟨fun d => leaf_all, fun y => ways_ext (w' :: r) y⟩
theorem all_and {R R' : Ex → AS → Prop} : ∀ t : Tree, t.All R → t.All R' → t.All fun e s => R e s ∧ R' e s
  | .leaf e s, k, r => ⟨k, r⟩
  | .chk b t, k, r => all_and t k r
  | .br b x y, k, r => ⟨all_and x k.1 r.1, all_and y k.2 r.2⟩
  | .amb x y, k, r => ⟨all_and x k.1 r.1, all_and y k.2 r.2⟩
  | .bnd D _ m g, k, r => fun d => all_and (g d) (k d) (r d)
  | .cases A B _ _ x g g', k, r => ⟨fun d => all_and (g d) (k.1 d) (r.1 d), fun d => all_and (g' d) (k.2 d) (r.2 d)⟩
  | .any D _ p g, k, r => fun d => all_and (g d) (k d) (r d)
  | .fail, k, _ => k
theorem sum_ext {t : Tree} {l : List Way} : (t.sumW s0 l).All (EX s0) := by
  unfold Tree.sumW
  exact ok_all fun x => ways_ext _ x
theorem sum_sat {t : Tree} {l : List Way} (hx : t.All (EX s0)) (h : (t.sumW s0 l).sat Q) : ∃ x, (l.all fun w => w.σ.inR s0) = true ∧ t.sat (fun e s => Ways.take l e s = some x ∧ Ext s0 s) ∧ (Ways.tree s0 l x).sat Q := by
  unfold Tree.sumW at h
  replace h := sat_ok h
  obtain ⟨h1, x, h2, h3⟩ := h
  exact ⟨x, h1, Tree.sat_all t (Tree.run_sat t h2) hx, h3⟩
end
end Go.Xr
namespace Go.Xr
open Go
section
variable {F : Fence} {n : Nat} {P : Program} {K : Kit} {o : Oper} {a : Act} {w w' : World} {Qx : Exit → Act → World → Prop} {u : Value}
variable {b : Base} {us : List (Array Value)} {c c' : Cx} {s s' s0 : AS} {Q : Ex → AS → Prop} {T : TypeId} {call : Oper → AV → List AV → AS → Tree}
theorem readRes_spec (hK : KitOK P K) (h : St c us s a) {r : ResultVar} {v : AV} (hr : readRes K s r = some v) :
    ∃ u, (∀ w' : World, (∀ ad v, c.w.cell? ad = some v → w'.cell? ad = some v) → (match r with
      | .tmp t => (pure (a.tmps.getD t undef) : Sem Value)
      | .cell x t => do loadVar t (← asAddr (a.tmps.getD x undef))).run P w' = .ok u w') ∧ AVR c.w c.E (c.I s) v u := by
  have hev : ∀ t, AVR c.w c.E (c.I s) (s.rv (nthD .undef s.tm t)) (a.tmps.getD t undef) := fun t => h.ev (.tmp t)
  cases r with
  | tmp t =>
    simp only [readRes, Option.some.injEq] at hr
    subst hr
    exact ⟨_, fun _ _ => rfl, hev t⟩
  | cell x t =>
    simp only [readRes] at hr
    have hx := hev x
    split at hr
    · rename_i i p hi
      rw [hi] at hx
      cases hk : szEq (K.sz t) (s.at_ i p).sz with
      | false => rw [hk] at hr; cases hr
      | true =>
        rw [hk] at hr
        simp only [cond_true, Option.some.injEq] at hr
        subst hr
        obtain ⟨m, g, e1, e2⟩ := szEq_spec hk
        have hne : s.at_ i p ≠ .undef := by intro e; rw [e] at e2; simp [AV.sz] at e2
        obtain ⟨blk, o', cs, hu, hc, hv, _⟩ := place h hx hne
        obtain ⟨z, hz, hz2⟩ := hv.out e2 (fun hg => by rw [hg] at e1; exact sz_one hK e1)
        refine ⟨z, fun w' hw' => ?_, hz2⟩
        have hc' : Reads w' blk o' cs := fun j v hj => hw' _ _ (hc j v hj)
        simp only [hu]
        simp only [asAddr, Sem.run_bind, Sem.run_pure, Result.andThen_ok, run_loadVar_reads hK e1 (hv.len e2) hc' hz]
    · cases hr
theorem readAll_spec (hK : KitOK P K) (h : St c us s a) : ∀ (rs : List ResultVar) (vs : List AV), readAll K s rs = some vs → ∃ us', resAll P a c.w rs us' ∧ AVRL c.w c.E (c.I s) vs us'
  | [], vs, hr => by
    simp only [readAll, Option.some.injEq] at hr
    subst hr
    exact ⟨[], fun _ _ => rfl, AVRL_nil.2 rfl⟩
  | r :: rs, vs, hr => by
    simp only [readAll] at hr
    split at hr
    · rename_i v l h1 h2
      cases hr
      obtain ⟨u, k1, k2⟩ := readRes_spec hK h h1
      obtain ⟨q, j1, j2⟩ := readAll_spec hK h rs l h2
      exact ⟨u :: q, fun w' hw' => ⟨u, q, rfl, k1 w' hw', j1 w' hw'⟩, AVRL_cons.2 ⟨u, q, rfl, k2, j2⟩⟩
    · cases hr
theorem less_I {tm : List AV} {f : Nat → Bool} {up : List (List AV)} (i : Nat) : c.I { s with tm := tm, bx := s.bx.filter fun x => f x.1, up := up } i = c.I s i ∨ c.I { s with tm := tm, bx := s.bx.filter fun x => f x.1, up := up } i = none := by
  generalize hs' : ({ s with tm := tm, bx := s.bx.filter fun x => f x.1, up := up } : AS) = s'
  have hrv : s'.rv = s.rv := funext fun v => by subst hs'; rfl
  have hbx : s'.box i = if f i then s.box i else none := by
    subst hs'
    unfold AS.box
    simp only [lookup_filter]
    split <;> rfl
  unfold Cx.I
  rw [hbx, hrv]
  split
  · exact .inl rfl
  · exact .inr rfl
theorem iter_some {D X : Type} {step : D → PO (PSum D X)} {d : D} {x : X} (h : pIter step d = some x) : ∃ k, iterN step k d = some x := by
  unfold pIter at h
  split at h
  · rename_i hk; exact ⟨_, h⟩
  · cases h
theorem Tree.sat_and {Q R : Ex → AS → Prop} : ∀ t : Tree, t.sat Q → t.sat R → t.sat fun e s => Q e s ∧ R e s
  | .leaf e s, k, r => ⟨k, r⟩
  | .chk b t, k, r => ⟨k.1, sat_and t k.2 r.2⟩
  | .br b x y, k, r => ⟨fun e => sat_and x (k.1 e) (r.1 e), fun e => sat_and y (k.2 e) (r.2 e)⟩
  | .amb x y, k, r => ⟨sat_and x k.1 r.1, sat_and y k.2 r.2⟩
  | .bnd D _ m g, ⟨d, e, k⟩, ⟨d', e', r⟩ => by
    rw [e] at e'
    cases e'
    exact ⟨d, e, sat_and (g d) k r⟩
  | .cases A B _ _ x g g', k, r => ⟨fun d e => sat_and (g d) (k.1 d e) (r.1 d e), fun d e => sat_and (g' d) (k.2 d e) (r.2 d e)⟩
  | .any D _ p g, k, r => fun d e => sat_and (g d) (k d e) (r d e)
  | .fail, k, _ => k
theorem mark_ext {vars lead ids : List Nat} : Ext s (s.mark vars lead ids) := by
  have hext : Ext s (s.keepI (List.append lead vars) ids) := keep_ext
  generalize hk : s.keepI (List.append lead vars) ids = k at *
  have hm : s.mark vars lead ids = { k with tm := (markL (len k.env) (some vars) lead 0 k.tm k.env).1, env := (markU (len k.env) k.up (markL (len k.env) (some vars) lead 0 k.tm k.env).2).2, bx := (markB k.rv (len k.benv) k.bx k.benv).1, benv := (markB k.rv (len k.benv) k.bx k.benv).2, up := (markU (len k.env) k.up (markL (len k.env) (some vars) lead 0 k.tm k.env).2).1 } := by
    rw [← hk]; rfl
  generalize hx : markL (len k.env) (some vars) lead 0 k.tm k.env = x at *
  obtain ⟨⟨m1, e1⟩, l1⟩ := markL_spec k.env (some vars) lead k.tm 0 k.env ⟨[], by simp⟩
  rw [hx] at e1 l1
  generalize hy : markU (len k.env) k.up x.2 = y at *
  obtain ⟨⟨m2, e2⟩, l2⟩ := markU_spec k.env k.up x.2 ⟨m1, e1⟩
  rw [hy] at e2 l2
  have hrvk : ∀ v, (∀ j, v ≠ .cst j) → k.rv v = v := fun v hv => by rw [rv_eq]; exact rvE_ne hv
  generalize hz : markB k.rv (len k.benv) k.bx k.benv = z at *
  obtain ⟨⟨m3, e3⟩, l3⟩ := markB_spec hrvk k.benv k.bx k.benv ⟨[], by simp⟩
  rw [hz] at e3 l3
  refine hext.trans ⟨⟨m1 ++ m2, ?_⟩, m3, ?_⟩
  · rw [hm]; show y.2 = _; rw [e2, e1, List.append_assoc]
  · rw [hm]; exact e3
theorem fill_ext {σ : SS} {r : List PV} : Ext s0 (σ.fill s0 r).1 := Ext.of rfl rfl
theorem loopW_sound {σ : SS} {ws : List Way} {body : AS → Tree} {code : Code} {res : List ResultVar} (hext : ∀ s, (body s).All (EX s))
    (hbody : ∀ {c : Cx} {s : AS} {a : Act} {Q : Ex → AS → Prop}, St c us s a → Fr b c s → (body s).sat Q → code.wpIn F n P (AbsE P res b us Q) a c.w)
    (h0 : St c us s0 a) (hfr0 : Fr b c s0) (hs : (loopW body s0 σ ws).sat Q) : (Code.loop code).wpIn F n P (AbsE P res b us Q) a c.w := by
  unfold loopW at hs
  obtain ⟨hin, x, hm, hq⟩ := sat_ok hs
  simp only [Bool.and_eq_true] at hin
  obtain ⟨hin, hins⟩ := hin
  split at hm
  · rename_i l hl
    split at hm
    · rename_i d0 hd0
      obtain ⟨k, hk⟩ := iter_some hm
      refine wpIn_loop_rounds k ?_
      have key : ∀ (k : Nat) (d : HL σ.holes) {c : Cx} {a : Act}, iterN (fun d => loopStep body s0 σ ws d) k d = some x → St c us (σ.fill s0 (HL.out σ.holes d)).1 a → Fr b c (σ.fill s0 (HL.out σ.holes d)).1 → Code.roundsIn F n P code (AbsE P res b us Q) k a c.w := by
        intro k
        induction k with
        | zero => intro d c a hk; simp [iterN] at hk
        | succ k ih =>
          intro d c a hk h1 h2
          rw [roundsIn_succ]
          simp only [iterN] at hk
          generalize hr : loopStep body s0 σ ws d = r at hk
          unfold loopStep at hr
          have hext1 : (body (σ.fill s0 (HL.out σ.holes d)).1).All (EX s0) := Tree.All.mono (fun e s' h => fill_ext.trans h) _ (hext _)
          cases r with
          | none => cases hk
          | some y =>
            have hsat := Tree.sat_all _ (Tree.run_sat _ hr) hext1
            cases y with
            | inl d' =>
              simp only at hk
              refine wpIn_mono (hbody h1 h2 hsat) ?_
              intro e a' w' he
              cases e with
              | normal =>
                obtain ⟨c', s', e1, ⟨e2, hx⟩, h3, h4⟩ := he
                subst e1
                simp only at e2
                split at e2
                · rename_i l' hl'
                  split at e2
                  · rename_i d2 hd2
                    simp only [pOpt, Option.some.injEq, Sum.inl.injEq] at e2
                    subst e2
                    unfold SS.take at hl'
                    cases hok : σ.ok s' (σ.find s' []) [] with
                    | false => simp only [hok, cond_false] at hl'; cases hl'
                    | true =>
                      simp only [hok, cond_true] at hl'
                      obtain ⟨c2, s2, g1, g2, g3, g4, _⟩ := fill_state h3 h4 hx hok hin hl'
                      have g2 := g2 []
                      rw [List.append_nil, ← HL.out_mk _ _ _ hd2] at g2
                      show Code.roundsIn F n P code (AbsE P res b us Q) k a' c'.w
                      rw [← g1]
                      exact ih d2 hk (by rw [g2]; exact g3) (by rw [g2]; exact g4)
                  · cases e2
                · cases e2
              | exit id =>
                obtain ⟨c', s', e1, ⟨e2, hx⟩, h3, h4⟩ := he
                simp only at e2
                split at e2 <;> cases e2
              | ret =>
                obtain ⟨c', s', vs, rs, e1, ⟨e2, hx⟩, h3⟩ := he
                simp only at e2
                split at e2 <;> cases e2
              | goto _ => exact he.elim
              | panic _ => exact he.elim
              | outgrown => exact he.elim
            | inr x' =>
              simp only [Option.some.injEq] at hk
              subst hk
              refine wpIn_mono (hbody h1 h2 hsat) ?_
              intro e a' w' he
              cases e with
              | normal =>
                obtain ⟨c', s', e1, ⟨e2, hx⟩, h3, h4⟩ := he
                simp only at e2
                split at e2
                · split at e2 <;> cases e2
                · cases e2
              | exit id =>
                refine ways_absE (P := P) (res := res) (b := b) (us := us) hins hq (.exit id) a' w' ?_
                obtain ⟨c', s', e1, ⟨e2, hx⟩, h3, h4⟩ := he
                refine ⟨c', s', e1, ⟨?_, hx⟩, h3, h4⟩
                simp only at e2
                split at e2
                · rename_i z hz
                  cases e2
                  exact hz
                · cases e2
              | ret =>
                refine ways_absE (P := P) (res := res) (b := b) (us := us) hins hq .ret a' w' ?_
                obtain ⟨c', s', vs, rs, e1, ⟨e2, hx⟩, h3⟩ := he
                refine ⟨c', s', vs, rs, e1, ⟨?_, hx⟩, h3⟩
                simp only at e2
                split at e2
                · rename_i z hz
                  cases e2
                  exact hz
                · cases e2
              | goto _ => exact he.elim
              | panic _ => exact he.elim
              | outgrown => exact he.elim
      unfold SS.take at hl
      cases hok : σ.ok s0 (σ.find s0 []) [] with
      | false => simp only [hok, cond_false] at hl; cases hl
      | true =>
        simp only [hok, cond_true] at hl
        obtain ⟨c2, s2, g1, g2, g3, g4, _⟩ := fill_state h0 hfr0 (Ext.refl s0) hok hin hl
        have g2 := g2 []
        rw [List.append_nil, ← HL.out_mk _ _ _ hd0] at g2
        rw [← g1]
        exact key k d0 hk (by rw [g2]; exact g3) (by rw [g2]; exact g4)
    · cases hm
  · cases hm
theorem loopW_ext {σ : SS} {ws : List Way} {body : AS → Tree} : (loopW body s0 σ ws).All (EX s0) := by
  unfold loopW
  exact ok_all fun x => ways_ext _ x
end
end Go.Xr
namespace Go.Xr
open Go
section
variable {F : Fence} {n : Nat} {P : Program} {K : Kit} {a : Act} {w w' : World} {u : Value}
variable {b : Base} {us : List (Array Value)} {c c' : Cx} {s s' s0 : AS}
def retV : List Value → Value
  | [v] => v | vs => .tuple vs.toArray
theorem cell_put {r : Nat} {o o' : Obj} (h : w.heap[r]? = some o) (ho : o.isCells = false) {ad : Addr} {v : Value} (hc : w.cell? ad = some v) : (w.putObj r o').cell? ad = some v := by
  by_cases e : ad.block = r
  · unfold World.cell? at hc
    rw [e, h] at hc
    cases o <;> first | cases hc | cases ho
  · rw [World.cell?_of_block (w := w) (World.putObj_heap_other e)]
    exact hc
theorem St.putObj (h : St c us s a) {r : Nat} {o o' : Obj} {d : List Deferred} {mk' : Nat → Prop} (hr : c.w.heap[r]? = some o) (h1 : ¬ c.fz r) (h2 : ¬ c.bo r) (h3 : ∀ i x, s.box i ≠ none → c.ρ i = some x → x.1 ≠ r)
    (hmk : ∀ k, mk' k → c.mks k ∧ k ≠ r) (hd : Marks { c with w := c.w.putObj r o', mks := mk' } d) :
    St { c with w := c.w.putObj r o', mks := mk' } us s { a with defers := d } ∧ (∀ b k, c.E b k → c.E b k ∧ (c.w.putObj r o').heap[k]? = c.w.heap[k]?) ∧ ({ c with w := c.w.putObj r o', mks := mk' } : Cx).I s = c.I s := by
  have hother : ∀ k, k ≠ r → (c.w.putObj r o').heap[k]? = c.w.heap[k]? := fun k hk => World.putObj_heap_other hk
  have hE : ∀ b k, c.E b k → c.E b k ∧ (c.w.putObj r o').heap[k]? = c.w.heap[k]? := by
    intro b k hk
    refine ⟨hk, hother k fun e => ?_⟩
    subst e
    rcases hk with hk | ⟨_, hk⟩
    · exact h1 hk
    · exact h2 hk
  have hblk : ∀ i x, s.box i ≠ none → c.ρ i = some x → (c.w.putObj r o').heap[x.1]? = c.w.heap[x.1]? := fun i x hi hx => hother _ (h3 i x hi hx)
  generalize hc2 : ({ c with w := c.w.putObj r o', mks := mk' } : Cx) = c2 at *
  have hw2 : c2.w = c.w.putObj r o' := by rw [← hc2]
  have hρ2 : c2.ρ = c.ρ := by rw [← hc2]
  have hE2 : c2.E = c.E := by rw [← hc2]; rfl
  have hlp2 : c2.lp = c.lp := by rw [← hc2]
  have hmk2 : c2.mks = mk' := by rw [← hc2]
  have hfz2 : c2.fz = c.fz := by rw [← hc2]
  have hbo2 : c2.bo = c.bo := by rw [← hc2]
  have hI : c2.I s = c.I s := by
    funext i
    unfold Cx.I
    rw [hρ2, hw2]
    cases hb : s.box i with
    | none => rfl
    | some bx =>
      cases bx with
      | var v => rfl
      | cst k => rfl
      | buf kd t xs =>
        cases kd with
        | mp => rfl
        | lp p => rfl
        | it => rfl
        | mr => rfl
        | sl =>
          simp only [boxI]
          cases hx : c.ρ i with
          | none => rfl
          | some x => simp only [Option.map_some, roomOf, hblk i x (by rw [hb]; simp) hx]
  have hEE : ∀ b k, c.E b k → c2.E b k ∧ c2.w.heap[k]? = c.w.heap[k]? := fun b k hk => by rw [hE2, hw2]; exact hE b k hk
  refine ⟨⟨?_, hd, ?_, ?_, ?_, ?_, ?_, ?_, by rw [hlp2]; exact h.lv⟩, hE, hI⟩
  · intro k v hv
    obtain ⟨k1, k2⟩ := h.tm k v hv
    exact ⟨k1, AVR.mono hEE _ _ (fun i _ => .inl (by rw [hI])) k2⟩
  · exact UpOK.mono hEE s.up us (fun l _ k v _ i _ => .inl (by rw [hI])) h.up
  · intro i bx hi
    have hok := h.bx i bx hi
    cases bx with
    | cst k => exact hok
    | var v =>
      obtain ⟨blk, cs, T, q1, q2, q3⟩ := hok
      refine ⟨blk, cs, T, by rw [hρ2]; exact q1, by rw [hw2, hblk i _ (by rw [hi]; simp) q1]; exact q2, ?_⟩
      exact q3.mono hEE (fun j _ => .inl (by rw [hI]))
    | buf kd t xs => exact BoxOK.buf_mono (c := c) (s := s) (by rw [hρ2]) (fun x hx => by rw [hw2]; exact hblk i x (by rw [hi]; simp) hx) hEE (fun _ => by rw [hlp2]) hok
  · intro i j x y hi hj hx hy
    rw [hρ2] at hx hy
    exact h.inj i j x y hi hj hx hy
  · intro i x hi hx
    rw [hρ2] at hx
    rw [hw2, hfz2, hbo2, World.putObj_size]
    exact h.own i x hi hx
  · intro k hk
    rw [hfz2, hbo2] at hk
    rw [hw2, World.putObj_size]
    exact h.lt k hk
  · intro k hk
    rw [hmk2] at hk
    obtain ⟨k1, k2⟩ := hmk k hk
    obtain ⟨m1, m2, m3, m4⟩ := h.mks k k1
    rw [hw2, hfz2, hbo2, hρ2, hother k k2]
    exact ⟨m1, m2, m3, m4⟩
theorem Fr.putObj (h : Fr b c s) {r : Nat} {o' : Obj} {mk' : Nat → Prop} (hr : b.own0 r ∨ b.w0.heap.size ≤ r) (hm1 : ∀ k, b.mk0 k → mk' k) (hm2 : ∀ k, mk' k → b.mk0 k ∨ b.w0.heap.size ≤ k) (hcs : cellsN (some o') = cellsN c.w.heap[r]?) : Fr b { c with w := c.w.putObj r o', mks := mk' } s where
  os := h.os
  tape := h.tape
  output := h.output
  size := by rw [World.putObj_size]; exact h.size
  block := fun k hk hn => by
    rw [World.putObj_heap_other (fun e => by subst e; rcases hr with hr | hr; exact hn hr; omega)]
    exact h.block k hk hn
  own := h.own
  fz := h.fz
  fz' := h.fz'
  bo := h.bo
  lp := h.lp
  mks := hm1
  mks' := hm2
  cs := fun k hk => by
    by_cases e : k = r
    · subst e
      rw [World.putObj_heap_same (Nat.lt_of_lt_of_le hk h.size), hcs]
      exact h.cs k hk
    · rw [World.putObj_heap_other e]
      exact h.cs k hk
theorem unmark (hb : ∀ k, ¬ b.mk0 k) : ∀ (rs : List Nat) {c : Cx} {ds : List Deferred}, rs.Nodup → (∀ r ∈ rs, c.mks r) → ds = rs.map (fun r => { target := .collected r, args := #[] }) → St c us s { a with defers := ds } → Fr b c s →
    ∃ c', St c' us s { a with defers := [] } ∧ Fr b c' s ∧ (∀ b k, c.E b k → c'.E b k ∧ c'.w.heap[k]? = c.w.heap[k]?) ∧ c'.I s = c.I s ∧ (∀ ad v, c.w.cell? ad = some v → c'.w.cell? ad = some v) ∧
      ∀ (F : Fence) (n : Nat) (fn : Func) (tmps : Array Value) (R : Ending → World → Prop), (∃ v, (results fn tmps).run P c'.w = .ok v c'.w ∧ R (.returned v) c'.w) → LeavesInM F n P fn tmps R ds .returning c.w
  | [], c, ds, _, _, e, h, hfr => by
    subst e
    exact ⟨c, h, hfr, fun b k hk => ⟨hk, rfl⟩, rfl, fun _ _ h => h, fun F n fn tmps R hv => hv⟩
  | r :: rs, c, ds, hnd, hm, e, h, hfr => by
    have hr := hm r (by simp)
    obtain ⟨m1, m2, m3, m4⟩ := h.mks r hr
    have hnd' := List.nodup_cons.1 hnd
    have hsz : b.w0.heap.size ≤ r := by
      rcases hfr.mks' r hr with q | q
      · exact (hb r q).elim
      · exact q
    obtain ⟨k1, k2, k3⟩ := h.putObj (o' := .deferred none) (d := rs.map (fun r => { target := .collected r, args := #[] })) (mk' := fun k => c.mks k ∧ k ≠ r) m1 m2 m3 m4 (fun k hk => hk)
      ⟨rs, hnd'.2, rfl, fun k hk => ⟨hm k (List.mem_cons_of_mem _ hk), fun e => hnd'.1 (e ▸ hk)⟩⟩
    have kf : Fr b { c with w := c.w.putObj r (.deferred none), mks := fun k => c.mks k ∧ k ≠ r } s := hfr.putObj (.inr hsz) (fun k hk => (hb k hk).elim) (fun k hk => hfr.mks' k hk.1) (by rw [m1]; rfl)
    obtain ⟨c', j1, j2, j3, j4, j5, j6⟩ := unmark hb rs (c := { c with w := c.w.putObj r (.deferred none), mks := fun k => c.mks k ∧ k ≠ r }) hnd'.2 (fun k hk => ⟨hm k (List.mem_cons_of_mem _ hk), fun e => hnd'.1 (e ▸ hk)⟩) rfl k1 kf
    refine ⟨c', j1, j2, fun b k hk => ?_, j4.trans k3, fun ad v hv => j5 ad v (cell_put m1 rfl hv), fun F n fn tmps R hv => ?_⟩
    · obtain ⟨q1, q2⟩ := j3 b k (k2 b k hk).1
      exact ⟨q1, q2.trans (k2 b k hk).2⟩
    · subst e
      exact ⟨by simp, .inl ⟨r, _, rfl, run_takeDeferred m1, j6 F n fn tmps R hv⟩⟩
end
end Go.Xr
namespace Go.Xr
open Go
section
variable {F : Fence} {n : Nat} {P : Program} {K : Kit} {o : Oper} {a : Act} {w w' : World} {Qx : Exit → Act → World → Prop} {u : Value}
variable {b : Base} {us : List (Array Value)} {c c' : Cx} {s s' : AS} {Q : Ex → AS → Prop} {T : TypeId} {call : Oper → AV → List AV → AS → Tree}
theorem convInt_still (hK : KitOK P K) (h : St c us s a) {D : TypeId} {k : IntKind} {x : Operand} (ho : o.op = .convert T D x) (hD : K.td D = .pure (.int k)) (hs : (convT K s o T D (s.ev x)).sat Q) :
    ∃ u, ∀ w', (execOp a.eval o).run P w' = .ok (.value u) w' := by
  have hx := h.ev x
  have he : execOp a.eval o = (do let v ← convert T D (a.eval x); pure (.value v)) := by simp only [execOp, ho]
  generalize s.ev x = X at *
  unfold convT at hs
  rw [hD] at hs
  split at hs
  · rename_i k1 k2 y e1
    cases e1
    obtain ⟨hk, hs⟩ := sat_ok hs
    split at hk
    · rename_i t ht
      refine ⟨.int k (k.wrap y), fun w' => ?_⟩
      rw [he, (AVR_int.1 hx).1]
      have hu := tyB_int (td_pure hK hD).1
      have hT : ∃ d, P.underlying T = some d := by
        obtain ⟨hT, _⟩ := td_pure hK ht
        cases t with
        | int k => exact ⟨_, tyB_int hT⟩
        | bool => exact ⟨_, tyB_bool hT⟩
        | str => exact ⟨_, tyB_str hT⟩
        | unit => simp [tyB] at hT
        | pair a b => simp [tyB] at hT
        | st a => obtain ⟨fs, hu, _⟩ := tyB_st hT; exact ⟨_, hu⟩
        | arr n a => obtain ⟨e, hu, _⟩ := tyB_arr hT; exact ⟨_, hu⟩
        | sl b a => obtain ⟨e, hu, _⟩ := tyB_sl hT; exact ⟨_, hu⟩
      obtain ⟨d, hT⟩ := hT
      simp [convert, underlying_of hT, underlying_of hu, Conv.intToInt]
    · cases hk
  · rename_i e1; cases e1
  · rename_i e1; cases e1
  · rename_i e1; cases e1
  · exact hs.elim
theorem opT_pure (hF : HF F) (hK : KitOK P K) (h : St c us s a) (hfr : Fr b c s) (hc : clsOp K o = 0) (hs : (opT K call s o).sat Q) :
    ∃ u, ∀ w', (execOp a.eval o).run P w' = .ok (.value u) w' := by
  have hs0 := hs
  unfold opT at hs
  unfold clsOp at hc
  cases ho : o.op with
  | move x => rw [ho] at hs; exact (move_sound (F := F) (n := 0) (Qx := fun _ _ _ => True) hF h hfr (.inl ho) hs).2
  | assign x => exact ⟨a.eval x, fun w' => by simp only [execOp, ho]; rfl⟩
  | pick x y z => exact (pick_sound (F := F) (n := 0) (Qx := fun _ _ _ => True) hF h hfr ho hs0).2
  | nilCheck x => exact (nilCheck_sound (F := F) (n := 0) (Qx := fun _ _ _ => True) hF h hfr ho hs0).2
  | binOp op T x y T' =>
    rw [ho] at hs
    simp only at hs
    unfold eqnT at hs
    split at hs
    · rename_i hy
      exact (nilT_sound (F := F) (n := 0) (Qx := fun _ _ _ => True) (bb := true) hF hK h hfr ho hy hs).2
    · rename_i hy
      exact (nilT_sound (F := F) (n := 0) (Qx := fun _ _ _ => True) (bb := false) hF hK h hfr ho hy hs).2
    · exact (binT_sound (F := F) (n := 0) (Qx := fun _ _ _ => True) hF hK h hfr ho hs).2
  | unOp op T x => rw [ho] at hs; exact (unT_sound (F := F) (n := 0) (Qx := fun _ _ _ => True) hF h hfr ho hs).2
  | convert T D x =>
    rw [ho] at hs hc
    simp only at hc
    split at hc
    · rename_i k hD
      exact convInt_still hK h ho hD hs
    · cases hc
  | slice T x lo hi mx =>
    rw [ho] at hs
    cases mx with
    | none => exact (sliceT_sound (F := F) (n := 0) (Qx := fun _ _ _ => True) hF hK h hfr ho hs).2
    | some _ => rw [ho] at hc; cases hc
  | fieldAddr T x f => rw [ho] at hs; exact (fieldAddrT_sound (F := F) (n := 0) (Qx := fun _ _ _ => True) hF hK h hfr ho hs).2
  | field T x f => exact (fieldT_sound (F := F) (n := 0) (Qx := fun _ _ _ => True) hF hK h hfr ho hs0).2
  | indexAddr T x i => rw [ho] at hs; exact (idxAddrT_sound (F := F) (n := 0) (Qx := fun _ _ _ => True) hF hK h hfr ho hs).2
  | index T x i => exact (indexT_sound (F := F) (n := 0) (Qx := fun _ _ _ => True) hF hK h hfr ho hs0).2
  | extract x i => exact (extract_sound (F := F) (n := 0) (Qx := fun _ _ _ => True) hF h hfr ho hs0).2
  | makeFunc fn first cs => exact (makeFunc_sound (F := F) (n := 0) (Qx := fun _ _ _ => True) hF h hfr ho hs0).2
  | call cl =>
    rw [ho] at hs hc
    simp only at hs
    split at hs
    · rename_i bi hcal
      obtain ⟨callee, args, ty⟩ := cl
      simp only at hcal
      generalize hTs : Call.argTypes _ = Ts at hs
      generalize hXs : List.map s.ev _ = Xs at hs
      unfold builtinT at hs
      split at hs
      · rename_i hT2
        subst hcal
        simp only at hTs hc
        unfold lenMapT at hs
        split at hs
        · rename_i hkv
          exfalso
          rw [hTs, hT2] at hc
          unfold Kit.kv at hkv
          split at hkv
          · rename_i hm; simp only [hm] at hc; cases hc
          · cases hkv
        · exact hs.elim
      · obtain ⟨x, e1, rfl⟩ := map1 hXs
        exact (lenT_sound (F := F) (n := 0) (Qx := fun _ _ _ => True) hF hK h hfr ho hcal (toList1 (by rw [hTs]; assumption)) (toList1 e1) hs).2
      · subst hcal; simp at hc
      · subst hcal; simp at hc
      · subst hcal; simp at hc
      · obtain ⟨x, y, e1, rfl, rfl⟩ := map2 hXs
        exact (minmaxT_sound (F := F) (n := 0) (Qx := fun _ _ _ => True) hF h hfr (mx := false) ho hcal (toList2 e1) hs).2
      · obtain ⟨x, y, e1, rfl, rfl⟩ := map2 hXs
        exact (minmaxT_sound (F := F) (n := 0) (Qx := fun _ _ _ => True) hF h hfr (mx := true) ho hcal (toList2 e1) hs).2
      · subst hcal; simp at hc
      · subst hcal; simp at hc
      · exact hs.elim
    · rename_i x hcal
      obtain ⟨callee, args, ty⟩ := cl
      simp only at hcal
      subst hcal
      cases x with
      | func f => cases hb : K.pf f <;> simp [hb] at hc
      | _ => simp at hc
    · exact hs.elim
  | _ => rw [ho] at hc; simp at hc
theorem Reads.keeps {blk off : Nat} {cs : List Value} (hk : Keeps w w') (h : Reads w blk off cs) : Reads w' blk off cs := by
  intro j v hj
  have h1 := h j v hj
  cases hb : w.heap[blk]? with
  | none => simp [World.cell?, hb] at h1
  | some x => rw [World.cell?_of_block (a := ⟨blk, off + j, none⟩) (show w'.heap[blk]? = w.heap[blk]? by rw [hb, hk _ _ hb])]; exact h1
theorem load_still (hK : KitOK P K) (h : St c us s a) {x : Operand} (ho : o.op = .load T x) (hs : (loadT K s o T (s.ev x)).sat Q) :
    (∃ u, ∀ w', Keeps c.w w' → (execOp a.eval o).run P w' = .ok (.value u) w') ∧
    (isFad (s.ev x) = true → ∃ u, ∀ w', (∀ k, c.E true k → w'.heap[k]? = c.w.heap[k]?) → (execOp a.eval o).run P w' = .ok (.value u) w') := by
  have hx := h.ev x
  have he : execOp a.eval o = (do let v ← Instr.loadAt T (a.eval x); pure (.value v)) := by simp only [execOp, ho]
  generalize s.ev x = X at *
  unfold loadT at hs
  split at hs
  · rename_i t y
    obtain ⟨hk, hs⟩ := sat_ok hs
    obtain ⟨m, g, e1, e2⟩ := szEq_spec hk
    cases e2
    obtain ⟨b', blk, off, cs, hu, hE, hr, hc⟩ := AVR_fad.1 hx
    have hv : VarC c.w c.E (c.I s) (.pv t y) cs := hr
    obtain ⟨z, hz, hz2⟩ := hv.out rfl (fun hg => by rw [hg] at e1; exact sz_one hK e1)
    have key : ∀ w', Reads w' blk off cs → (execOp a.eval o).run P w' = .ok (.value z) w' := fun w' hw' => by
      rw [he, hu]
      simp only [Instr.loadAt, Instr.sureAddr, Sem.run_bind, Sem.run_pure, Result.andThen_ok, run_loadVar_reads hK e1 (RepC.len t _ _ hr) hw' hz]
    refine ⟨⟨z, fun w' hw' => key w' (hc.keeps hw')⟩, fun _ => ⟨z, fun w' hw' => key w' (hc.of_block (hw' blk ?_))⟩⟩
    rcases hE with hE | ⟨_, hE⟩
    · exact .inl hE
    · exact .inr ⟨rfl, hE⟩
  · rename_i i p
    obtain ⟨hk, hs⟩ := sat_ok hs
    obtain ⟨m, g, e1, e2⟩ := szEq_spec hk
    have hne : s.at_ i p ≠ .undef := by intro e; rw [e] at e2; simp [AV.sz] at e2
    obtain ⟨blk, o', cs, hu, hc, hv, _⟩ := place h hx hne
    obtain ⟨z, hz, hz2⟩ := hv.out e2 (fun hg => by rw [hg] at e1; exact sz_one hK e1)
    refine ⟨⟨z, fun w' hw' => ?_⟩, fun e => (by cases e)⟩
    rw [he, hu]
    simp only [Instr.loadAt, Instr.sureAddr, Sem.run_bind, Sem.run_pure, Result.andThen_ok, run_loadVar_reads hK e1 (hv.len e2) (hc.keeps hw') hz]
  · exact hs.elim
def Grow {α : Type} : Sem α → Prop
  | .pure _ => True | .halt _ => True
  | .program k => ∀ p, Grow (k p)
  | .mark _ k => Grow k
  | .new _ k => ∀ r, Grow (k r)
  | .choose _ k => ∀ r, Grow (k r)
  | _ => False
theorem Grow.bind {α β : Type} {f : α → Sem β} (hf : ∀ a, Grow (f a)) : ∀ x : Sem α, Grow x → Grow (x.bind f)
  | .pure a, _ => hf a
  | .halt _, _ => trivial
  | .program k, h => fun p => Grow.bind hf (k p) (h p)
  | .mark _ k, h => Grow.bind hf k h
  | .new _ k, h => fun r => Grow.bind hf (k r) (h r)
  | .choose _ k, h => fun r => Grow.bind hf (k r) (h r)
  | .load .., h => h.elim
  | .store .., h => h.elim
  | .shape .., h => h.elim
  | .freeze .., h => h.elim
  | .frozen .., h => h.elim
  | .getObj .., h => h.elim
  | .setObj .., h => h.elim
  | .sys .., h => h.elim
theorem Grow.bind' {α β : Type} {x : Sem α} {f : α → Sem β} (hx : Grow x) (hf : ∀ a, Grow (f a)) : Grow (x >>= f) := Grow.bind hf x hx
theorem Grow.keeps {α : Type} : ∀ (x : Sem α) (w w' : World) (v : α), Grow x → x.run P w = .ok v w' → Keeps w w'
  | .pure a, w, w', v, _, h => by
    simp only [Sem.run, Result.ok.injEq] at h
    rw [h.2]
    exact Keeps.refl _
  | .halt _, w, w', v, _, h => by cases h
  | .program k, w, w', v, hg, h => Grow.keeps (k P) w w' v (hg P) h
  | .mark _ k, w, w', v, hg, h => Grow.keeps k w w' v hg h
  | .new obj k, w, w', v, hg, h => by
    have := Grow.keeps (k w.heap.size) _ w' v (hg _) h
    intro j x hj
    refine this j x ?_
    have hlt := (Array.getElem?_eq_some_iff.1 hj).1
    show (w.heap.push obj)[j]? = some x
    rw [Array.getElem?_push_lt hlt]
    exact ((Array.getElem?_eq_some_iff.1 hj).2 ▸ rfl)
  | .choose q k, w, w', v, hg, h => by
    simp only [Sem.run] at h
    split at h
    · exact Grow.keeps (k 0) w w' v (hg _) h
    · have := Grow.keeps _ _ w' v (hg _) h
      exact fun j x hj => this j x hj
  | .load .., _, _, _, h, _ => h.elim
  | .store .., _, _, _, h, _ => h.elim
  | .shape .., _, _, _, h, _ => h.elim
  | .freeze .., _, _, _, h, _ => h.elim
  | .frozen .., _, _, _, h, _ => h.elim
  | .getObj .., _, _, _, h, _ => h.elim
  | .setObj .., _, _, _, h, _ => h.elim
  | .sys .., _, _, _, h, _ => h.elim
theorem grow_pure {α : Type} (x : α) : Grow (pure x : Sem α) := trivial
theorem grow_stuck {α : Type} {e : String} : Grow (stuck e : Sem α) := trivial
theorem grow_program {α : Type} {f : Program → Sem α} (h : ∀ p, Grow (f p)) : Grow (program >>= f) := fun p => h p
theorem grow_typeInfo : Grow (typeInfo T) := by
  refine grow_program fun p => ?_
  split <;> trivial
theorem grow_underlying : Grow (underlying T) := by
  refine grow_program fun p => ?_
  split <;> trivial
theorem grow_zeroValue : Grow (zeroValue T) := by
  refine Grow.bind' grow_typeInfo fun i => ?_
  split <;> trivial
theorem grow_sizeOf : Grow (sizeOf T) := Grow.bind' grow_typeInfo fun i => trivial
theorem grow_newRow {cs : Array Value} : Grow (newRow T cs) := fun r => trivial
theorem grow_alloc {e : TypeId} : Grow (Instr.alloc e true (.tuple #[])) :=
  Grow.bind' grow_zeroValue fun z => Grow.bind' grow_newRow fun r => trivial
theorem grow_box {e : TypeId} {v : Value} : Grow (Instr.box e v) := Grow.bind' grow_newRow fun r => trivial
theorem grow_ite {α : Type} {p : Prop} [Decidable p] {x y : Sem α} (hx : Grow x) (hy : Grow y) : Grow (if p then x else y) := by split <;> assumption
theorem grow_asIntOf {v : Value} : Grow (asIntOf v) := by unfold asIntOf; split <;> trivial
theorem grow_asInt {v : Value} : Grow (asInt v) := by unfold asInt; exact Grow.bind' grow_asIntOf fun _ => trivial
theorem grow_elemOf : Grow (elemOf T) := by unfold elemOf; refine Grow.bind' grow_underlying fun _ => ?_; split <;> trivial
theorem grow_newVar {v : Value} : Grow (newVar T v) := grow_newRow
theorem grow_panic {α : Type} {e : RuntimeError} : Grow (runtimePanic e : Sem α) := by
  refine grow_program fun p => ?_
  dsimp only
  repeat' first | exact trivial | exact grow_elemOf | exact grow_newVar | refine Grow.bind' ?_ fun _ => ?_ | split | dsimp only
theorem grow_askRoom {m : Nat} : Grow (askRoom m) := by unfold askRoom; split <;> trivial
theorem grow_buildSlice {e : TypeId} {m : Nat} {ps : Array (Nat × Value)} : Grow (Instr.buildSlice e m ps) := by
  unfold Instr.buildSlice
  repeat' first | exact trivial | exact grow_underlying | exact grow_sizeOf | exact grow_zeroValue | exact grow_newRow | refine Grow.bind' ?_ fun _ => ?_ | split | dsimp only
theorem grow_choose {q : Question} : Grow (choose q) := fun r => trivial
theorem grow_makeSlice {e : TypeId} {l m : Value} : Grow (Instr.makeSlice e l m) := by
  unfold Instr.makeSlice
  dsimp only
  repeat' first | exact trivial | exact grow_underlying | exact grow_sizeOf | exact grow_zeroValue | exact grow_newRow | exact grow_asInt | exact grow_panic | exact grow_askRoom | exact grow_typeInfo | exact grow_choose | refine Grow.bind' ?_ fun _ => ?_ | split | dsimp only
theorem grow_op (hc : clsOp K o = 2) (hn : ∀ cl x, o.op = .call cl → cl.callee ≠ .value x) {ρ : Operand → Value} : Grow (execOp ρ o) := by
  unfold clsOp at hc
  unfold execOp
  cases ho : o.op with
  | alloc e => exact Grow.bind' grow_alloc fun _ => trivial
  | box e x => exact Grow.bind' grow_box fun _ => trivial
  | buildSlice e m ps => exact Grow.bind' grow_buildSlice fun _ => trivial
  | makeSlice e l m => exact Grow.bind' grow_makeSlice fun _ => trivial
  | convert S D x =>
    rw [ho] at hc
    simp only at hc
    generalize K.td D = d at hc
    cases d with
    | pure t => cases t <;> cases hc
    | _ => cases hc
  | call cl =>
    rw [ho] at hc
    obtain ⟨callee, args, ty⟩ := cl
    cases callee with
    | builtin bi =>
      cases bi
      case len =>
        dsimp only at hc
        split at hc
        · split at hc <;> cases hc
        · cases hc
      all_goals cases hc
    | value x => exact (hn _ x ho rfl).elim
    | invoke _ _ => cases hc
  | slice T x lo hi mx => rw [ho] at hc; cases mx <;> cases hc
  | _ => rw [ho] at hc; cases hc
end
end Go.Xr
namespace Go.Xr
open Go
section
variable {F : Fence} {n : Nat} {P : Program} {K : Kit} {ops : Array Oper} {Q : Exit → Act → World → Prop} {X X' : Nat → Prop} {S : World → Prop} {w w' w'' : World} {a : Act}
def RelO (K : Kit) (X : Nat → Prop) (o : Oper) (w w' : World) : Prop :=
  (clsOp K o ≤ 1 → w' = w) ∧ (clsOp K o = 2 → Keeps w w') ∧ ∀ k, X k → w'.heap[k]? = w.heap[k]?
theorem RelO.refl (o : Oper) (w : World) : RelO K X o w w := ⟨fun _ => rfl, fun _ => Keeps.refl w, fun _ _ => rfl⟩
theorem RelO.mono {o : Oper} (h : ∀ k, X k → X' k) (k : RelO K X' o w w') : RelO K X o w w' := ⟨k.1, k.2.1, fun j hj => k.2.2 j (h j hj)⟩
def RelI (K : Kit) (X : Nat → Prop) (ops : Array Oper) (i : Nat) (w w' : World) : Prop := ∀ o, ops[i]? = some o → RelO K X o w w'
def wpAnyR (F : Fence) (n : Nat) (P : Program) (K : Kit) (X : Nat → Prop) (ops : Array Oper) (Q : Exit → Act → World → Prop) : Nat → Array Bool → Act → World → Prop
  | 0, listed, a, w => Region.ready .any ops listed = [] ∧ Q .normal a w
  | fuel + 1, listed, a, w =>
    (Region.ready .any ops listed = [] → Q .normal a w) ∧
    ∀ i ∈ Region.ready .any ops listed, wpOpIn F n P ops Q i (fun a' w' => RelI K X ops i w w' ∧ wpAnyR F n P K X ops Q fuel (listed.setIfInBounds i true) a' w') a w
theorem wpAnyR_any : ∀ (fuel : Nat) (listed : Array Bool) (a : Act) (w : World), wpAnyR F n P K X ops Q fuel listed a w → wpAnyIn F n P .any ops Q fuel listed a w
  | 0, _, _, _, h => h
  | fuel + 1, _, _, _, h => ⟨h.1, fun i hi => wpOpIn_mono (fun a' w' hh => wpAnyR_any fuel _ a' w' hh.2) (h.2 i hi)⟩
theorem wpAnyR_mono (hX : ∀ k, X k → X' k) : ∀ (fuel : Nat) (listed : Array Bool) (a : Act) (w : World), wpAnyR F n P K X' ops Q fuel listed a w → wpAnyR F n P K X ops Q fuel listed a w
  | 0, _, _, _, h => h
  | fuel + 1, _, _, _, h => ⟨h.1, fun i hi => wpOpIn_mono (fun a' w' hh => ⟨fun o ho => (hh.1 o ho).mono hX, wpAnyR_mono hX fuel _ a' w' hh.2⟩) (h.2 i hi)⟩
def YieldsS (P : Program) (ops : Array Oper) (S : World → Prop) (o : Oper) (v : Value) (a : Act) : Prop :=
  (Region.wanted o (yielded ops a.tmps) = true ∧ ∀ w, S w → (execOp a.eval o).run P w = .ok (.value v) w) ∨
  (Region.wanted o (yielded ops a.tmps) = false ∧ v = undef)
theorem YieldsS.op (hF : HF F) {i : Nat} {o : Oper} {v : Value} (hi : ops[i]? = some o) (hd : ∀ c, o.op ≠ .defer c) (hy : YieldsS P ops S o v a) (hS : S w) {K' : Act → World → Prop} (h : K' (a.put o.dst v) w) : wpOpIn F n P ops Q i K' a w := by
  unfold wpOpIn
  simp only [hi]
  rcases hy with ⟨h1, h2⟩ | ⟨h1, rfl⟩
  · simp only [h1, if_true]
    refine ⟨fun f _ => hF.1 f, ?_⟩
    rw [Oper.semAt_eq _ _ _ hd, h2 w hS]
    exact h
  · simp only [h1, Bool.false_eq_true, if_false]
    exact ⟨fun f _ => hF.1 f, h⟩
theorem YieldsS.put {oi oj : Oper} {v : Value} (hap : ∀ d, oj.dst = some d → d ∉ oi.looksAt ops) (hsi : ∀ cs b, oi.op ≠ .select cs b) (hy : YieldsS P ops S oi v a) (u : Value) : YieldsS P ops S oi v (a.put oj.dst u) := by
  unfold YieldsS at *
  rw [execOp_put oi hsi a oj.dst u hap, wanted_put oi a oj.dst u hap]
  exact hy
theorem wpOpIn_putS (hF : HF F) {j : Nat} {oi oj : Oper} {v : Value} (hj : ops[j]? = some oj) (h1 : ∀ d, oi.dst = some d → d ∉ oj.looksAt ops) (h2 : ∀ d, oi.dst = some d → oj.dst ≠ some d) (h3 : ∀ d, oj.dst = some d → d ∉ oi.looksAt ops)
    (hsi : ∀ cs b, oi.op ≠ .select cs b) (hsj : ∀ cs b, oj.op ≠ .select cs b) (hd : ∀ c, oj.op ≠ .defer c) (hQ : ∀ c a w, ¬ Q (.panic c) a w) {K' : Act → World → Prop}
    (hy : YieldsS P ops S oi v a) (h : wpOpIn F n P ops Q j K' (a.put oi.dst v) w) :
    wpOpIn F n P ops Q j (fun a' w' => YieldsS P ops S oi v a' ∧ K' (a'.put oi.dst v) w') a w := by
  have keep : ∀ u, YieldsS P ops S oi v (a.put oj.dst u) := fun u => hy.put h3 hsi u
  unfold wpOpIn at *
  simp only [hj] at *
  rw [wanted_put oj a oi.dst v h1] at h
  split
  · rename_i hw
    simp only [hw, if_true] at h
    unfold Oper.wpIn at *
    refine ⟨fun f _ => hF.1 f, ?_⟩
    have h := h.2
    rw [Oper.semAt_eq _ _ _ hd, execOp_put oj hsj a oi.dst v h1] at h
    rw [Oper.semAt_eq _ _ _ hd]
    generalize hr : (execOp a.eval oj).run P w = r at *
    cases r with
    | ok x w' =>
      cases x <;> simp only [Oper.uponIn] at h ⊢
      case value u => exact ⟨keep u, by rw [← Act.put_comm a v u h2]; exact h⟩
      case skip => exact ⟨keep _, by rw [← Act.put_comm a v undef h2]; exact h⟩
      case defer d =>
        have keepD : YieldsS P ops S oi v { a with defers := d :: a.defers } := hy
        refine ⟨keepD.put h3 hsi _, ?_⟩
        rw [← Act.put_comm _ v undef h2, ← Act.put_defers]
        exact h
      case enter f args =>
        refine ⟨h.1, CallsIn.mono h.2 fun e w'' he => ?_⟩
        cases e with
        | returned u => exact ⟨keep u, by rw [← Act.put_comm a v u h2]; exact he⟩
        | panicked c => exact (hQ _ _ _ he).elim
        | outgrown => exact he
      case row row args => exact ⟨h.1, RowsIn.mono h.2 fun u w'' he => ⟨keep u, by rw [← Act.put_comm a v u h2]; exact he⟩⟩
      case round l f tmps assign body =>
        refine ⟨h.1, RoundIn.mono h.2 fun e w'' he => ?_⟩
        cases e with
        | returned u => exact ⟨keep u, by rw [← Act.put_comm a v u h2]; exact he⟩
        | panicked c => exact (hQ _ _ _ he).elim
        | outgrown => exact he
    | halt x w' =>
      cases x <;> simp only [Oper.uponIn] at h ⊢
      case panic u => exact (hQ _ _ _ h).elim
  · rename_i hw
    simp only [hw] at h
    exact ⟨fun f _ => hF.1 f, keep _, by rw [← Act.put_comm a v undef h2]; exact h.2⟩
theorem wpAnyR_first (hF : HF F) {i : Nat} {oi : Oper} {v : Value} (hi : ops[i]? = some oi) (hsel : ∀ (j : Nat) (o : Oper), ops[j]? = some o → (∀ cs b, o.op ≠ .select cs b) ∧ ∀ c, o.op ≠ .defer c) (hQ : ∀ c a w, ¬ Q (.panic c) a w) :
    ∀ (fuel : Nat) (listed : Array Bool) (a : Act) (w : World),
      (∀ j oj, ops[j]? = some oj → j ≠ i → listed.getD j true = false → (∀ e ∈ oj.after, Region.binds .any e = true → e.on ≠ i) →
        ((∀ d, oi.dst = some d → d ∉ oj.looksAt ops) ∧ (∀ d, oi.dst = some d → oj.dst ≠ some d) ∧ ∀ d, oj.dst = some d → d ∉ oi.looksAt ops) ∧ ∀ w w', RelO K X oj w w' → S w → S w') →
      i ∈ Region.ready .any ops listed → YieldsS P ops S oi v a → S w → wpAnyR F n P K X ops Q fuel (listed.setIfInBounds i true) (a.put oi.dst v) w → wpAnyR F n P K X ops Q (fuel + 1) listed a w := by
  intro fuel
  induction fuel with
  | zero =>
    intro listed a w _ hr hy hS H
    refine ⟨fun h => (by rw [h] at hr; cases hr), fun j hj => ?_⟩
    by_cases hji : j = i
    · subst hji; exact hy.op hF hi (hsel _ _ hi).2 hS ⟨fun o _ => RelO.refl o w, H⟩
    · have := ready_mono hj hji
      rw [H.1] at this
      cases this
  | succ fuel ih =>
    intro listed a w hfree hr hy hS H
    refine ⟨fun h => (by rw [h] at hr; cases hr), fun j hj => ?_⟩
    by_cases hji : j = i
    · subst hji; exact hy.op hF hi (hsel _ _ hi).2 hS ⟨fun o _ => RelO.refl o w, H⟩
    · have h1 := H.2 j (ready_mono hj hji)
      obtain ⟨hjun, oj, hoj, hall⟩ := mem_ready.1 hj
      have hnot : ∀ e ∈ oj.after, Region.binds .any e = true → e.on ≠ i := fun e he hb heq => by
        have h1 := hall e he hb
        have h0 := (mem_ready.1 hr).1
        rw [heq] at h1
        simp only [Array.getD_eq_getD_getElem?] at h0 h1
        cases hx : listed[i]? with
        | none => simp [hx] at h1
        | some z => simp [hx] at h0 h1; rw [h1] at h0; cases h0
      obtain ⟨⟨q1, q2, q3⟩, q4⟩ := hfree j oj hoj hji hjun hnot
      refine wpOpIn_mono ?_ (wpOpIn_putS hF hoj q1 q2 q3 (hsel _ _ hi).1 (hsel _ _ hoj).1 (hsel _ _ hoj).2 hQ hy h1)
      rintro a' w' ⟨hy', hrel, H'⟩
      refine ⟨hrel, ih _ a' w' ?_ (ready_mono hr (Ne.symm hji)) hy' (q4 _ _ (hrel oj hoj) hS) ?_⟩
      · intro k ok hk hki hun
        refine hfree k ok hk hki ?_
        by_cases hkj : k = j
        · subst hkj; exact hjun
        · rwa [getD_set_ne true (Ne.symm hkj)] at hun
      · rwa [Array.setIfInBounds_comm _ _ hji]
end
section
variable {F : Fence} {n : Nat} {P : Program} {K : Kit} {o : Oper} {a : Act} {w w' : World} {Qx : Exit → Act → World → Prop} {u : Value}
variable {b : Base} {us : List (Array Value)} {c c' : Cx} {s s' : AS} {Q : Ex → AS → Prop} {T : TypeId} {call : Oper → AV → List AV → AS → Tree}
def baseOf (c : Cx) (s : AS) : Base where
  w0 := c.w
  own0 := fun k => ∃ i x, s.box i ≠ none ∧ c.ρ i = some x ∧ x.1 = k
  fz0 := c.fz
  bo0 := c.bo
  lp0 := c.lp
  mk0 := c.mks
theorem Fr.base (c : Cx) (s : AS) : Fr (baseOf c s) c s :=
  ⟨rfl, rfl, rfl, Nat.le_refl _, fun _ _ _ => rfl, fun i x hi hx => .inl ⟨i, x, hi, hx, rfl⟩, fun _ h => .inl h, fun _ h => h, fun _ => Iff.rfl, rfl, fun _ h => h, fun _ h => .inl h, fun _ _ => rfl⟩
theorem Fr.trans (h : Fr b c s) (k : Fr (baseOf c s) c' s') : Fr b c' s' where
  os := k.os.trans h.os
  tape := k.tape.trans h.tape
  output := k.output.trans h.output
  size := Nat.le_trans h.size k.size
  cs := fun j hj => (k.cs j (Nat.lt_of_lt_of_le hj h.size)).trans (h.cs j hj)
  block := fun j hj hn => (k.block j (Nat.lt_of_lt_of_le hj h.size) (by
    rintro ⟨i, x, hi, hx, rfl⟩
    rcases h.own i x hi hx with h1 | h1
    · exact hn h1
    · omega)).trans (h.block j hj hn)
  own := fun i x hi hx => by
    rcases k.own i x hi hx with ⟨i', x', h1, h2, h3⟩ | h1
    · rw [← h3]; exact h.own i' x' h1 h2
    · exact .inr (Nat.le_trans h.size h1)
  fz := fun j hj => by
    rcases k.fz j hj with h1 | ⟨i', x', h1, h2, h3⟩ | h1
    · exact h.fz j h1
    · rw [← h3]; exact .inr (h.own i' x' h1 h2)
    · exact .inr (.inr (Nat.le_trans h.size h1))
  fz' := fun j hj => k.fz' j (h.fz' j hj)
  bo := fun j => (k.bo j).trans (h.bo j)
  lp := k.lp.trans h.lp
  mks := fun r hr => k.mks r (h.mks r hr)
  mks' := fun r hr => by
    rcases k.mks' r hr with h1 | h1
    · exact h.mks' r h1
    · exact .inr (Nat.le_trans h.size h1)
theorem Fr.E (k : Fr (baseOf c s) c' s') : ∀ j, c.E true j → c'.E true j := by
  rintro j (h | ⟨_, h⟩)
  · exact .inl (k.fz' j h)
  · exact .inr ⟨rfl, (k.bo j).2 h⟩
theorem Fr.frozen (h : St c us s a) (k : Fr (baseOf c s) c' s') : ∀ j, c.E true j → c'.w.heap[j]? = c.w.heap[j]? := by
  intro j hj
  have hj' : c.fz j ∨ c.bo j := by
    rcases hj with h | ⟨_, h⟩
    · exact .inl h
    · exact .inr h
  refine k.block j (h.lt j hj') ?_
  rintro ⟨i, x, hi, hx, rfl⟩
  have := h.own i x hi hx
  rcases hj' with h1 | h1
  · exact this.2.1 h1
  · exact this.2.2 h1
theorem val_of {x : Sem Value} {y : Next} (h : (do let v ← x; pure (Next.value v) : Sem Next).run P w = .ok y w') : ∃ v, y = .value v := by
  rw [Sem.run_bind] at h
  cases hx : x.run P w with
  | ok v w2 =>
    rw [hx] at h
    simp only [Result.andThen_ok, Sem.run_pure, Result.ok.injEq] at h
    exact ⟨v, h.1.symm⟩
  | halt z w2 => rw [hx] at h; simp at h
theorem made_val (hc : clsOp K o = 2) (hn : ∀ cl x, o.op = .call cl → cl.callee ≠ .value x) {ρ : Operand → Value} {y : Next} (h : (execOp ρ o).run P w = .ok y w') : ∃ v, y = .value v := by
  unfold clsOp at hc
  unfold execOp at h
  cases ho : o.op with
  | alloc e => rw [ho] at h; exact val_of h
  | box e x => rw [ho] at h; exact val_of h
  | buildSlice e m ps => rw [ho] at h; exact val_of h
  | makeSlice e l m => rw [ho] at h; exact val_of h
  | convert S D x =>
    rw [ho] at hc
    simp only at hc
    generalize K.td D = d at hc
    cases d with
    | pure t => cases t <;> cases hc
    | _ => cases hc
  | call cl =>
    rw [ho] at hc
    obtain ⟨callee, args, ty⟩ := cl
    cases callee with
    | builtin bi =>
      cases bi
      case len =>
        dsimp only at hc
        split at hc
        · split at hc <;> cases hc
        · cases hc
      all_goals cases hc
    | value x => exact (hn _ x ho rfl).elim
    | invoke _ _ => cases hc
  | slice T x lo hi mx => rw [ho] at hc; cases mx <;> cases hc
  | _ => rw [ho] at hc; cases hc
theorem cls_value (hc : clsOp K o = 2) {cl : Call} {x : Operand} (ho : o.op = .call cl) (hx : cl.callee = .value x) : ∃ f, x = .func f ∧ K.pf f = true := by
  unfold clsOp at hc
  rw [ho] at hc
  obtain ⟨callee, args, ty⟩ := cl
  simp only at hx
  subst hx
  cases x with
  | func f =>
    cases hb : K.pf f with
    | true => exact ⟨f, rfl, hb⟩
    | false => simp [hb] at hc
  | _ => simp at hc
theorem op_rel (hF : HF F) (hK : KitOK P K) (hcall : CallSound K.pf P c.lp us call) (h : St c us s a) (hd : ∀ cl, o.op ≠ .defer cl) (hs : (opT K call s o).sat Q) :
    o.wpIn F n P a c.w (fun a' w' => RelO K (c.E true) o c.w w' ∧ ∃ c' s', c'.w = w' ∧ Q .normal s' ∧ St c' us s' a' ∧ Fr (baseOf c s) c' s') Qx := by
  have h0 : o.wpIn F n P a c.w (Abs (baseOf c s) us Q) Qx := opT_sound hF hK hcall h (Fr.base c s) hs
  have fin : ∀ a' w', (clsOp K o ≤ 1 → w' = c.w) → (clsOp K o = 2 → Keeps c.w w') → Abs (baseOf c s) us Q a' w' → (RelO K (c.E true) o c.w w' ∧ ∃ c' s', c'.w = w' ∧ Q .normal s' ∧ St c' us s' a' ∧ Fr (baseOf c s) c' s') := by
    rintro a' w' h1 h2 ⟨c', s', e, h3, h4, h5⟩
    exact ⟨⟨h1, h2, by rw [← e]; exact h5.frozen h⟩, c', s', e, h3, h4, h5⟩
  by_cases hc : clsOp K o ≤ 1
  · have hrun : ∃ u, (execOp a.eval o).run P c.w = .ok (.value u) c.w := by
      rcases Nat.lt_or_ge (clsOp K o) 1 with h1 | h1
      · obtain ⟨u, hu⟩ := opT_pure hF hK h (Fr.base c s) (by omega) hs
        exact ⟨u, hu _⟩
      · have h2 : clsOp K o = 1 := by omega
        unfold clsOp at h2
        unfold opT at hs
        cases ho : o.op with
        | load T x =>
          rw [ho] at hs
          obtain ⟨⟨u, hu⟩, _⟩ := load_still hK h ho hs
          exact ⟨u, hu _ (Keeps.refl _)⟩
        | convert T D x =>
          rw [ho] at h2
          simp only at h2
          generalize K.td D = d at h2
          cases d with
          | pure t => cases t <;> cases h2
          | _ => cases h2
        | call cl =>
          rw [ho] at h2
          obtain ⟨callee, args, ty⟩ := cl
          cases callee with
          | builtin bi =>
            cases bi
            case len =>
              dsimp only at h2
              split at h2
              · split at h2 <;> cases h2
              · cases h2
            all_goals cases h2
          | value x =>
            cases x with
            | func f => cases hb : K.pf f <;> simp [hb] at h2
            | _ => cases h2
          | invoke _ _ => cases h2
        | slice T x lo hi mx => rw [ho] at h2; cases mx <;> cases h2
        | _ => rw [ho] at h2; cases h2
    obtain ⟨u, hu⟩ := hrun
    refine ⟨h0.1, ?_⟩
    have h1 := h0.2
    rw [Oper.semAt_eq _ _ _ hd, hu] at h1 ⊢
    exact fin _ _ (fun _ => rfl) (fun _ => Keeps.refl _) h1
  · by_cases hc2 : clsOp K o = 2
    · by_cases hv : ∃ cl x, o.op = .call cl ∧ cl.callee = .value x
      · obtain ⟨cl, x, ho, hcal⟩ := hv
        obtain ⟨f, rfl, hpf⟩ := cls_value hc2 ho hcal
        unfold opT at hs
        rw [ho] at hs
        simp only at hs
        rw [hcal] at hs
        exact Oper.wpIn_mono (fun a' w' hh => fin a' w' (fun e => (hc e).elim) (fun _ => hh.1 f rfl hpf) hh.2) (hcall F n [] (baseOf c s) hF (fun _ _ _ h => h) rfl ho hcal h (Fr.base c s) hs)
      have hn : ∀ cl x, o.op = .call cl → cl.callee ≠ .value x := fun cl x h1 h2 => hv ⟨cl, x, h1, h2⟩
      refine ⟨h0.1, ?_⟩
      have h1 := h0.2
      rw [Oper.semAt_eq _ _ _ hd] at h1 ⊢
      have hg : Grow (execOp a.eval o) := grow_op (K := K) hc2 hn
      generalize hr : (execOp a.eval o).run P c.w = r at *
      cases r with
      | ok x w' =>
        have hk := Grow.keeps _ _ _ _ hg hr
        cases x <;> simp only [Oper.uponIn] at h1 ⊢
        case value u => exact fin _ _ (fun e => (hc e).elim) (fun _ => hk) h1
        all_goals (obtain ⟨v, e⟩ := made_val (K := K) hc2 hn hr; cases e)
      | halt x w' => cases x <;> exact h1
    · exact Oper.wpIn_mono (fun a' w' hh => fin a' w' (fun e => (hc e).elim) (fun e => (hc2 e).elim) hh) h0
end
end Go.Xr
namespace Go.Xr
open Go
theorem land_eq {L m : Nat} : Nat.beq (Nat.land L m) m = true ↔ ∀ k, m.testBit k = true → L.testBit k = true := by
  constructor
  · intro h k hk
    have h := Nat.eq_of_beq_eq_true h
    have : (L &&& m).testBit k = true := by
      show (Nat.land L m).testBit k = true
      rw [h]; exact hk
    rw [Nat.testBit_and] at this
    exact (Bool.and_eq_true _ _ ▸ this).1
  · intro h
    have : L &&& m = m := by
      apply Nat.eq_of_testBit_eq
      intro k
      rw [Nat.testBit_and]
      cases hk : m.testBit k with
      | true => rw [h k hk]; rfl
      | false => simp
    have e : Nat.land L m = m := this
    rw [e]
    exact Nat.beq_refl m
theorem land_bit {m k : Nat} : Nat.beq (Nat.land m (Nat.pow 2 k)) 0 = false ↔ m.testBit k = true := by
  have h : Nat.land m (Nat.pow 2 k) = m &&& 2 ^ k := rfl
  rw [h]
  constructor
  · intro h1
    cases hk : m.testBit k with
    | true => rfl
    | false =>
      have : m &&& 2 ^ k = 0 := by
        apply Nat.eq_of_testBit_eq
        intro j
        rw [Nat.testBit_and, Nat.testBit_two_pow, Nat.zero_testBit]
        by_cases e : k = j
        · subst e; simp [hk]
        · simp [e]
      rw [this] at h1
      cases h1
  · intro h1
    cases hb : Nat.beq (m &&& 2 ^ k) 0 with
    | false => rfl
    | true =>
      have := Nat.eq_of_beq_eq_true hb
      have h2 : (m &&& 2 ^ k).testBit k = true := by rw [Nat.testBit_and, Nat.testBit_two_pow, h1]; simp
      rw [this, Nat.zero_testBit] at h2
      cases h2
theorem lor_bit {L k j : Nat} : (Nat.lor L (Nat.pow 2 k)).testBit j = (L.testBit j || decide (k = j)) := by
  show (L ||| 2 ^ k).testBit j = _
  rw [Nat.testBit_or, Nat.testBit_two_pow]
theorem binds_any (e : Edge) : Region.binds .any e = bindsAny e := by
  unfold Region.binds bindsAny
  cases e.ground <;> rfl
theorem needOf_spec (o : Oper) (k : Nat) : (needOf o).testBit k = true ↔ ∃ e ∈ o.after, Region.binds .any e = true ∧ e.on = k := by
  unfold needOf
  have key : ∀ l : List Edge, (l.foldr (fun e m => bif bindsAny e then Nat.lor m (Nat.pow 2 e.on) else m) 0).testBit k = true ↔ ∃ e ∈ l, bindsAny e = true ∧ e.on = k := by
    intro l
    induction l with
    | nil => simp
    | cons e l ih =>
      simp only [List.foldr_cons, List.mem_cons, exists_eq_or_imp]
      cases hb : bindsAny e with
      | true =>
        simp only [cond_true, lor_bit, Bool.or_eq_true, decide_eq_true_eq, ih, true_and]
        exact or_comm
      | false =>
        simp only [cond_false, ih, Bool.false_eq_true, false_and, false_or]
  rw [key]
  simp only [binds_any]
  constructor
  · rintro ⟨e, h1, h2⟩; exact ⟨e, Array.mem_toList_iff.1 h1, h2⟩
  · rintro ⟨e, h1, h2⟩; exact ⟨e, Array.mem_toList_iff.2 h1, h2⟩
theorem pickR_spec {f : RO → Bool} : ∀ {l : List RO} {r : RO} {q : List RO}, pickR f l = some (r, q) → f r = true ∧ l.Perm (r :: q)
  | x :: l, r, q, h => by
    simp only [pickR] at h
    cases hx : f x with
    | true => rw [hx] at h; cases h; exact ⟨hx, List.Perm.refl _⟩
    | false =>
      rw [hx] at h
      simp only [cond_false] at h
      split at h
      · rename_i y p hy
        cases h
        obtain ⟨h1, h2⟩ := pickR_spec hy
        exact ⟨h1, (h2.cons x).trans (List.Perm.swap _ _ _)⟩
      · cases h
  | [], r, q, h => by cases h
theorem readysR_mem {f : RO → Bool} : ∀ {l : List RO} {r : RO}, r ∈ l → f r = true → ∃ q, (r, q) ∈ readysR f l ∧ l.Perm (r :: q)
  | [], r, hm, hf => by simp at hm
  | x :: l, r, hm, hf => by
    simp only [readysR]
    rcases List.mem_cons.1 hm with e | hm
    · subst e
      refine ⟨l, ?_, List.Perm.refl _⟩
      rw [hf]
      exact List.mem_cons_self
    · obtain ⟨q, h1, h2⟩ := readysR_mem hm hf
      refine ⟨x :: q, ?_, (h2.cons x).trans (List.Perm.swap _ _ _)⟩
      have h3 : (r, x :: q) ∈ (readysR f l).map fun y => (y.1, x :: y.2) := List.mem_map.2 ⟨_, h1, rfl⟩
      generalize (readysR f l).map (fun y => (y.1, x :: y.2)) = m at h3 ⊢
      cases f x with
      | true => exact List.mem_cons_of_mem _ h3
      | false => exact h3
theorem readysR_in {f : RO → Bool} : ∀ {l : List RO} {y : RO × List RO}, y ∈ readysR f l → y.1 ∈ l ∧ f y.1 = true
  | [], y, h => by simp [readysR] at h
  | x :: l, y, h => by
    simp only [readysR] at h
    have key : y ∈ ((readysR f l).map fun y => (y.1, x :: y.2)) → y.1 ∈ x :: l ∧ f y.1 = true := by
      intro hy
      obtain ⟨z, hz, rfl⟩ := List.mem_map.1 hy
      obtain ⟨h1, h2⟩ := readysR_in hz
      exact ⟨List.mem_cons_of_mem _ h1, h2⟩
    generalize (readysR f l).map (fun y => (y.1, x :: y.2)) = m at h key
    cases hx : f x with
    | true =>
      rw [hx] at h
      rcases List.mem_cons.1 h with e | h
      · subst e; exact ⟨List.mem_cons_self, hx⟩
      · exact key h
    | false => rw [hx] at h; exact key h
theorem ambT_sat {Q : Ex → AS → Prop} : ∀ (l : List Tree), (ambT l).sat Q → ∀ t ∈ l, t.sat Q
  | [t], h, x, hx => by simp at hx; subst hx; exact h
  | t :: t' :: r, h, x, hx => by
    rcases List.mem_cons.1 hx with e | hx
    · subst e; exact h.1
    · exact ambT_sat (t' :: r) h.2 x hx
  | [], h, _, _ => h.elim
theorem prepR_spec {K : Kit} : ∀ (l : List Oper) (k0 : Nat) (r : RO), r ∈ prepR K k0 l → ∃ j, r.k = k0 + j ∧ l[j]? = some r.o ∧ r.need = needOf r.o ∧ r.bit = Nat.pow 2 r.k ∧ r.cls = clsOp K r.o
  | o :: l, k0, r, h => by
    simp only [prepR] at h
    rcases List.mem_cons.1 h with e | h
    · rw [e]; exact ⟨0, rfl, rfl, rfl, rfl, rfl⟩
    · obtain ⟨j, h1, h2, h3⟩ := prepR_spec l _ r h
      exact ⟨j + 1, by rw [h1, Nat.succ_eq_add_one, Nat.add_assoc, Nat.add_comm 1 j], by rw [List.getElem?_cons_succ]; exact h2, h3⟩
  | [], k0, r, h => by cases h
theorem prepR_keys {K : Kit} : ∀ (l : List Oper) (k0 : Nat), (prepR K k0 l).map RO.k = List.range' k0 l.length
  | [], k0 => rfl
  | o :: l, k0 => by
    simp only [prepR, List.map_cons, List.length_cons, List.range'_succ, Nat.succ_eq_add_one]
    rw [prepR_keys l (k0 + 1)]
theorem looksL_eq (ops : Array Oper) (o : Oper) : looksL ops o = o.looksAt ops := by
  unfold looksL Oper.looksAt
  have h : (match o.guard with | some (g, _) => (match nth ops.toList g with | some o => (match o.dst with | some d => [d] | none => []) | none => []) | none => [] : List Nat) =
      (match o.guard with | some (g, _) => ((ops[g]?).bind (·.dst)).toList | none => []) := by
    cases o.guard with
    | none => rfl
    | some gw =>
      obtain ⟨g, want⟩ := gw
      simp only [nth_eq, Array.getElem?_toList]
      cases ops[g]? with
      | none => rfl
      | some o => cases hd : o.dst <;> simp [hd]
  exact congr (congrArg List.append rfl) h
section
variable {F : Fence} {n : Nat} {P : Program} {K : Kit} {o : Oper} {a : Act} {w w' : World} {Qx : Exit → Act → World → Prop} {u : Value} {ops : Array Oper}
variable {b : Base} {us : List (Array Value)} {c c' : Cx} {s s' : AS} {Q : Ex → AS → Prop} {T : TypeId} {call : Oper → AV → List AV → AS → Tree}
structure RegInv (K : Kit) (ops : Array Oper) (L : Nat) (rest : List RO) (listed : Array Bool) : Prop where
  spec : ∀ r ∈ rest, ops[r.k]? = some r.o ∧ r.need = needOf r.o ∧ r.bit = Nat.pow 2 r.k ∧ r.cls = clsOp K r.o
  un : ∀ r ∈ rest, listed.getD r.k true = false
  cov : ∀ k, listed.getD k true = false → ∃ r ∈ rest, r.k = k
  bits : ∀ k, listed.getD k false = L.testBit k
  nodup : (rest.map RO.k).Nodup
theorem RegInv.ready {L : Nat} {rest : List RO} {listed : Array Bool} (h : RegInv K ops L rest listed) {i : Nat} : i ∈ Region.ready .any ops listed ↔ ∃ r ∈ rest, r.k = i ∧ readyR L r = true := by
  rw [mem_ready]
  have key : ∀ r ∈ rest, (readyR L r = true ↔ ∀ e ∈ r.o.after, Region.binds .any e = true → listed.getD e.on false = true) := by
    intro r hr
    obtain ⟨_, h2, _⟩ := h.spec r hr
    unfold readyR
    rw [land_eq, h2]
    constructor
    · intro h1 e he hb
      rw [h.bits]
      exact h1 _ ((needOf_spec _ _).2 ⟨e, he, hb, rfl⟩)
    · intro h1 k hk
      obtain ⟨e, he, hb, rfl⟩ := (needOf_spec _ _).1 hk
      rw [← h.bits]
      exact h1 e he hb
  constructor
  · rintro ⟨h1, o, h2, h3⟩
    obtain ⟨r, hr, rfl⟩ := h.cov i h1
    have e := (h.spec r hr).1
    rw [h2] at e
    cases e
    exact ⟨r, hr, rfl, (key r hr).2 h3⟩
  · rintro ⟨r, hr, rfl, h1⟩
    exact ⟨h.un r hr, r.o, (h.spec r hr).1, (key r hr).1 h1⟩
theorem RegInv.step {L : Nat} {rest q : List RO} {r : RO} {listed : Array Bool} (h : RegInv K ops L rest listed) (hp : rest.Perm (r :: q)) : RegInv K ops (Nat.lor L r.bit) q (listed.setIfInBounds r.k true) := by
  have hm : ∀ x, x ∈ rest ↔ x = r ∨ x ∈ q := fun x => by rw [hp.mem_iff, List.mem_cons]
  have hr : r ∈ rest := (hm r).2 (.inl rfl)
  have hnd : (r.k :: q.map RO.k).Nodup := (hp.map RO.k).nodup_iff.1 h.nodup
  have hne : ∀ x ∈ q, x.k ≠ r.k := fun x hx e => (List.nodup_cons.1 hnd).1 (e ▸ List.mem_map_of_mem hx)
  have hlt : r.k < listed.size := by
    have := h.un r hr
    rcases Nat.lt_or_ge r.k listed.size with h1 | h1
    · exact h1
    · simp [Array.getElem?_eq_none h1] at this
  refine ⟨fun x hx => h.spec x ((hm x).2 (.inr hx)), fun x hx => ?_, fun k hk => ?_, fun k => ?_, (List.nodup_cons.1 hnd).2⟩
  · rw [getD_set_ne true (Ne.symm (hne x hx))]
    exact h.un x ((hm x).2 (.inr hx))
  · by_cases e : k = r.k
    · subst e
      simp [hlt] at hk
    · rw [getD_set_ne true (Ne.symm e)] at hk
      obtain ⟨x, hx, rfl⟩ := h.cov k hk
      rcases (hm x).1 hx with rfl | hx
      · exact (e rfl).elim
      · exact ⟨x, hx, rfl⟩
  · rw [(h.spec r hr).2.2.1, lor_bit, ← h.bits]
    by_cases e : r.k = k
    · subst e; simp [hlt]
    · rw [getD_set_ne false e]; simp [e]
theorem execG_sat {next : AS → Tree} (h : St c us s a) (hfr : Fr b c s) (hs : (execG K call ops o s next).sat Q) :
    ∃ s', St c us s' a ∧ Fr b c s' ∧ (s' = s ∨ ∃ d bb, s' = s.put d (.lit bb)) ∧
      ((Region.wanted o (yielded ops a.tmps) = true ∧ (opT K call s' o).sat (SeqQ next Q)) ∨ (Region.wanted o (yielded ops a.tmps) = false ∧ (skipG s' o).sat (SeqQ next Q))) := by
  unfold execG at hs
  split at hs
  · rename_i hg
    exact ⟨s, h, hfr, .inl rfl, .inl ⟨by simp [Region.wanted, hg], seq_sat hs⟩⟩
  · rename_i j want hg
    split at hs
    · exact hs.elim
    · rename_i d hd
      have hy : ∀ b' : Bool, a.tmps.getD d undef = .bool b' → d < a.tmps.size → Region.wanted o (yielded ops a.tmps) = (b' == want) := by
        intro b' e hlt
        have e2 : ((ops[j]?).bind (·.dst)) = some d := by
          rw [nth_eq] at hd
          simp only [Array.getElem?_toList] at hd
          cases ho : ops[j]? with
          | none => rw [ho] at hd; cases hd
          | some o' => rw [ho] at hd; exact hd
        have e3 : a.tmps[d]? = some (.bool b') := by
          rw [Array.getElem?_eq_getElem hlt]
          simpa [Array.getD, hlt] using e
        simp only [Region.wanted, hg, yielded, e2, Option.bind_some, e3]
        cases b' <;> cases want <;> rfl
      have hz : a.tmps.getD d undef = .tuple #[] → Region.wanted o (yielded ops a.tmps) = false := by
        intro e
        have e2 : ((ops[j]?).bind (·.dst)) = some d := by
          rw [nth_eq] at hd
          simp only [Array.getElem?_toList] at hd
          cases ho : ops[j]? with
          | none => rw [ho] at hd; cases hd
          | some o' => rw [ho] at hd; exact hd
        have e4 : yielded ops a.tmps j = none := by
          unfold yielded
          rw [e2]
          simp only [Option.bind_some]
          cases hg2 : a.tmps[d]? with
          | none => rfl
          | some u =>
            obtain ⟨hlt, hu⟩ := Array.getElem?_eq_some_iff.1 hg2
            have : u = .tuple #[] := by rw [← e, ← hu]; simp [Array.getD, hlt]
            rw [this]
        simp only [Region.wanted, hg, e4]
        rfl
      cases hn : nth s.tm d with
      | none =>
        have : nthD .undef s.tm d = .undef := by rw [nthD_eq, hn]; rfl
        rw [this] at hs
        exact hs.elim
      | some v =>
        obtain ⟨hlt, hv⟩ := h.tm d v hn
        have e : nthD .undef s.tm d = v := by rw [nthD_eq, hn]; rfl
        rw [e] at hs
        split at hs
        · rename_i b' hb
          rw [hb] at hv
          have hw := hy b' (AVR_lit.1 hv) hlt
          refine ⟨s, h, hfr, .inl rfl, ?_⟩
          have hs := seq_sat hs
          rw [hw]
          cases hbw : (b' == want) with
          | true => rw [hbw] at hs; exact .inl ⟨rfl, hs⟩
          | false => rw [hbw] at hs; exact .inr ⟨rfl, hs⟩
        · rename_i b' hb
          rw [hb] at hv
          have hvb := AVR_bool.1 hv
          have hw := hy b' hvb hlt
          have hlit : ∀ x : Bool, x = b' → St c us (s.put d (.lit x)) a := fun x hx => h.refine fun _ _ => AVR_lit.2 (by rw [hvb, hx])
          rw [hw]
          cases b' with
          | true =>
            refine ⟨_, hlit true rfl, hfr.refine d _, .inr ⟨d, true, rfl⟩, ?_⟩
            have hs := seq_sat (hs.1 rfl)
            cases want with
            | true => exact .inl ⟨rfl, hs⟩
            | false => exact .inr ⟨rfl, hs⟩
          | false =>
            refine ⟨_, hlit false rfl, hfr.refine d _, .inr ⟨d, false, rfl⟩, ?_⟩
            have hs := seq_sat (hs.2 rfl)
            cases want with
            | true => exact .inr ⟨rfl, hs⟩
            | false => exact .inl ⟨rfl, hs⟩
        · rename_i hb
          rw [hb] at hv
          simp only [AVR] at hv
          obtain ⟨vs, hv, hvs⟩ := hv
          subst hvs
          exact ⟨s, h, hfr, .inl rfl, .inr ⟨hz hv, seq_sat hs⟩⟩
        · exact hs.elim
theorem fad_put {d : Nat} {bb : Bool} {x : Operand} (h : isFad (s.ev x) = true) : isFad ((s.put d (.lit bb)).ev x) = true ∨ (s.put d (.lit bb)).ev x = .lit bb := by
  cases x with
  | tmp t =>
    simp only [AS.ev, nthD_eq] at h ⊢
    show isFad (s.rv ((nth (s.tm.set d (.lit bb)) t).getD .undef)) = true ∨ s.rv ((nth (s.tm.set d (.lit bb)) t).getD .undef) = .lit bb
    rw [nth_set]
    split
    · cases hn : nth s.tm t with
      | none => rw [hn] at h; cases h
      | some v => right; rfl
    · exact .inl h
  | const v =>
    have : (s.put d (.lit bb)).ev (.const v) = s.ev (.const v) := by unfold AS.ev; split <;> first | rfl | (rename_i h2; cases h2)
    rw [this]
    exact .inl h
  | _ => exact .inl h
end
end Go.Xr
