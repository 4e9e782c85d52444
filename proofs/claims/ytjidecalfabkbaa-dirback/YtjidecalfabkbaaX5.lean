import Derived.Test.YtjidecalfabkbaaX4
import Derived.OpenShut
import Derived.SizedLaws
import Derived.Deep.Slices
import Derived.ChangeStays
import Derived.RowKit3
import Derived.Calls
import Derived.Test.YtjidecalfabkbaaX1
/- the executor, part 5 -/
set_option linter.unusedVariables false
set_option linter.unusedSimpArgs false
namespace Go.Xr
open Go
mutual
theorem SV.kept (μ : Nat → Option Nat) {s : AS} {m : IdMap} : ∀ (v : SV) (st : Bool) (x : AV) (l : List PV), v.get s m st x = some l → ∃ v', (∀ r, v.fill (l ++ r) = (v', r)) ∧ (sameA (v'.ren μ) x = true → v'.ren μ = x)
  | .undef, st, x, l, h => by
    have hl : l = [] := by
      unfold SV.get at h
      cases st with
      | false => simpa using h.symm
      | true => simp only [cond_true] at h; split at h <;> cases h; rfl
    subst hl
    exact ⟨.undef, fun r => rfl, fun hs => by cases x <;> first | rfl | simp [AV.ren, sameA] at hs⟩
  | .hole t, st, x, l, h => by
    unfold SV.get at h
    split at h
    · rename_i p hp
      cases hb : p.t.eqt t with
      | false => rw [hb] at h; cases h
      | true =>
        rw [hb] at h
        cases h
        obtain ⟨y, rfl, hy⟩ := eqt_as hb
        refine ⟨.pv t y, fun r => by simp [SV.fill, hy], fun hs => ?_⟩
        cases x with
        | pv u z =>
          simp only [AS.rv, AS.toPV, Option.some.injEq] at hp
          cases hp
          rfl
        | _ => simp [AV.ren, sameA] at hs
    · cases h
  | .nil k, st, x, l, h => by
    unfold SV.get at h
    have hl : l = [] := by
      split at h
      · cases hb : k.eq _ with
        | true => rw [hb] at h; cases h; rfl
        | false => rw [hb] at h; cases h
      · cases h
    subst hl
    refine ⟨.nil k, fun r => rfl, fun hs => ?_⟩
    cases x with
    | nil k' => simp only [AV.ren, sameA] at hs; rw [nk_eq hs]; rfl
    | _ => simp [AV.ren, sameA] at hs
  | .sl i, st, x, l, h => by
    have hl : l = [] := by
      unfold SV.get at h
      split at h
      · cases hb : Nat.beq (m.get i) _ with
        | true => rw [hb] at h; cases h; rfl
        | false => rw [hb] at h; cases h
      · cases h
    subst hl
    refine ⟨.sl i, fun r => rfl, fun hs => ?_⟩
    simp only [AV.ren] at hs ⊢
    cases hm : μ i with
    | none => rw [hm] at hs; cases x <;> first | rfl | simp [sameA] at hs
    | some j =>
      rw [hm] at hs
      cases x with
      | sl j' => simp only [sameA] at hs; rw [Nat.eq_of_beq_eq_true hs]
      | _ => simp [sameA] at hs
  | .mp i, st, x, l, h => by
    have hl : l = [] := by
      unfold SV.get at h
      split at h
      · cases hb : Nat.beq (m.get i) _ with
        | true => rw [hb] at h; cases h; rfl
        | false => rw [hb] at h; cases h
      · cases h
    subst hl
    refine ⟨.mp i, fun r => rfl, fun hs => ?_⟩
    simp only [AV.ren] at hs ⊢
    cases hm : μ i with
    | none => rw [hm] at hs; cases x <;> first | rfl | simp [sameA] at hs
    | some j =>
      rw [hm] at hs
      cases x with
      | mp j' => simp only [sameA] at hs; rw [Nat.eq_of_beq_eq_true hs]
      | _ => simp [sameA] at hs
  | .yld i, st, x, l, h => by
    have hl : l = [] := by
      unfold SV.get at h
      split at h
      · cases hb : Nat.beq (m.get i) _ with
        | true => rw [hb] at h; cases h; rfl
        | false => rw [hb] at h; cases h
      · cases h
    subst hl
    refine ⟨.yld i, fun r => rfl, fun hs => ?_⟩
    simp only [AV.ren] at hs ⊢
    cases x <;> first | rfl | simp [sameA] at hs
  | .ptr i p, st, x, l, h => by
    have hl : l = [] := by
      unfold SV.get at h
      cases p with
      | nil =>
        simp only at h
        split at h
        · cases hb : Nat.beq (m.get i) _ with
          | true => rw [hb] at h; cases h; rfl
          | false => rw [hb] at h; cases h
        · cases h
      | cons a b => cases h
    subst hl
    refine ⟨.ptr i p, fun r => rfl, fun hs => ?_⟩
    simp only [AV.ren] at hs ⊢
    cases hm : μ i with
    | none => rw [hm] at hs; cases x <;> first | rfl | simp [sameA] at hs
    | some j =>
      rw [hm] at hs
      cases p with
      | cons a b => cases x <;> simp [sameA] at hs
      | nil =>
        cases x with
        | ptr j' q =>
          cases q with
          | nil => simp only [sameA] at hs; rw [Nat.eq_of_beq_eq_true hs]
          | cons a b => simp [sameA] at hs
        | _ => simp [sameA] at hs
  | .cst n, st, x, l, h => by
    have hl : l = [] := by
      unfold SV.get at h
      cases x with
      | cst k =>
        simp only at h
        cases st with
        | true => cases h
        | false =>
          cases hb : Nat.beq n k with
          | true => rw [hb] at h; cases h; rfl
          | false => rw [hb] at h; cases h
      | _ => cases h
    subst hl
    refine ⟨.cst n, fun r => rfl, fun hs => ?_⟩
    simp only [AV.ren] at hs ⊢
    cases x <;> first | rfl | simp [sameA] at hs
  | .clo f cs, st, x, l, h => by
    unfold SV.get at h
    split at h
    · rename_i g ds hx
      cases hb : Nat.beq f g with
      | false => rw [hb] at h; cases h
      | true =>
        rw [hb] at h
        obtain ⟨vs', h1, h2⟩ := getL_kept μ cs false ds l h
        refine ⟨.clo f vs', fun r => by simp only [SV.fill, h1 r], fun hs => ?_⟩
        cases x with
        | clo g' ds' =>
          simp only [AS.rv] at hx
          cases hx
          simp only [AV.ren, sameA, Bool.and_eq_true] at hs ⊢
          rw [h2 hs.2, Nat.eq_of_beq_eq_true hs.1]
        | _ => simp [AV.ren, sameA] at hs
    · cases h
  | .agg fs, st, x, l, h => by
    unfold SV.get at h
    split at h
    · rename_i gs hx
      obtain ⟨vs', h1, h2⟩ := getL_kept μ fs true gs l h
      refine ⟨.agg vs', fun r => by simp only [SV.fill, h1 r], fun hs => ?_⟩
      cases x with
      | agg gs' =>
        simp only [AS.rv] at hx
        cases hx
        simp only [AV.ren, sameA] at hs ⊢
        rw [h2 hs]
      | _ => simp [AV.ren, sameA] at hs
    · cases h
  | .tup fs, st, x, l, h => by
    unfold SV.get at h
    split at h
    · rename_i gs hx
      obtain ⟨vs', h1, h2⟩ := getL_kept μ fs false gs l h
      refine ⟨.tup vs', fun r => by simp only [SV.fill, h1 r], fun hs => ?_⟩
      cases x with
      | tup gs' =>
        simp only [AS.rv] at hx
        cases hx
        simp only [AV.ren, sameA] at hs ⊢
        rw [h2 hs]
      | _ => simp [AV.ren, sameA] at hs
    · cases h
theorem getL_kept (μ : Nat → Option Nat) {s : AS} {m : IdMap} : ∀ (vs : List SV) (st : Bool) (xs : List AV) (l : List PV), getL s m st vs xs = some l → ∃ vs', (∀ r, fillL vs (l ++ r) = (vs', r)) ∧ (sameL (renL μ vs') xs = true → renL μ vs' = xs)
  | [], st, xs, l, h => by
    cases xs with
    | nil => unfold getL at h; cases h; exact ⟨[], fun r => rfl, fun _ => rfl⟩
    | cons x xs => unfold getL at h; cases h
  | v :: vs, st, xs, l, h => by
    cases xs with
    | nil => unfold getL at h; cases h
    | cons x xs =>
      unfold getL at h
      split at h
      · rename_i l1 l2 e1 e2
        cases h
        obtain ⟨v', h1, h2⟩ := SV.kept μ v st x l1 e1
        obtain ⟨vs', h3, h4⟩ := getL_kept μ vs st xs l2 e2
        refine ⟨v' :: vs', fun r => ?_, fun hs => ?_⟩
        · show fillL (v :: vs) (l1 ++ l2 ++ r) = _
          rw [List.append_assoc]
          simp only [fillL, h1, h3]
        · simp only [renL, sameL, Bool.and_eq_true] at hs ⊢
          rw [h2 hs.1, h4 hs.2]
      · cases h
end
theorem getR_kept {s : AS} {m : IdMap} : ∀ (vs : List SV) (xs : List AV) (l : List PV), getR s m vs xs = some l → ∃ vs', ∀ r, fillL vs (l ++ r) = (vs', r)
  | [], xs, l, h => by
    unfold getR at h
    cases h
    exact ⟨[], fun r => rfl⟩
  | v :: vs, xs, l, h => by
    cases xs with
    | nil => unfold getR at h; cases h
    | cons x xs =>
      unfold getR at h
      split at h
      · rename_i l1 l2 e1 e2
        cases h
        obtain ⟨v', h1, _⟩ := SV.kept (fun _ => none) v false x l1 e1
        obtain ⟨vs', h3⟩ := getR_kept vs xs l2 e2
        refine ⟨v' :: vs', fun r => ?_⟩
        show fillL (v :: vs) (l1 ++ l2 ++ r) = _
        rw [List.append_assoc]
        simp only [fillL, h1, h3]
      · cases h
section
variable {s : AS} {m : IdMap}
theorem SB.kept_ex {i : Nat} {sb : SB} {li : List PV} (h : sb.get s m i = some li) : ∃ b', ∀ r, sb.fill (li ++ r) = (b', r) := by
  cases sb with
  | var v =>
    simp only [SB.get] at h
    split at h
    · rename_i x hx
      obtain ⟨v', h1, _⟩ := SV.kept (fun _ => none) v true x li h
      exact ⟨.var v', fun r => by simp only [SB.fill, h1]⟩
    · cases h
  | buf kd t =>
    simp only [SB.get] at h
    split at h
    · rename_i kd' t' xs hx
      cases hc : (kd.eq kd' && t.eqt t') with
      | false => rw [hc] at h; cases h
      | true => rw [hc] at h; cases h; exact ⟨_, fun r => rfl⟩
    · cases h
  | cst n =>
    simp only [SB.get] at h
    split at h
    · rename_i k hk
      cases hc : Nat.beq n k with
      | false => rw [hc] at h; cases h
      | true => rw [hc] at h; cases h; exact ⟨.cst n, fun r => rfl⟩
    · cases h
theorem rvE_nil {F : AS} (hF : F.env = []) (v : AV) : (∀ k, v ≠ .cst k) ∧ F.rv v = v ∨ F.rv v = .undef := by
  cases v with
  | cst n => right; simp only [AS.rv, hF, nthD]
  | _ => left; exact ⟨(fun k e => by cases e), rfl⟩
theorem SB.kept (μ : Nat → Option Nat) {i : Nat} {sb : SB} {li : List PV} {b' X : Bx} {F : AS} (hF1 : F.env = []) (hF2 : F.benv = []) (hg : sb.get s m i = some li) (hf : ∀ r, sb.fill (li ++ r) = (b', r)) (hX : s.box (m.get i) = some X)
    (hs : sameBx (Bx.ren μ (F.ro b')) X = true) : Bx.ren μ (F.ro b') = X := by
  have und : ∀ X, sameBx (Bx.ren μ (.var .undef)) X = true → Bx.ren μ (.var .undef) = X := by
    intro X h
    cases X with
    | var x => cases x <;> first | rfl | simp [Bx.ren, AV.ren, sameBx, sameA] at h
    | _ => simp [Bx.ren, sameBx] at h
  cases sb with
  | var v =>
    simp only [SB.get] at hg
    split at hg
    · rename_i x hx
      rw [hX] at hx
      cases hx
      obtain ⟨v', h1, h2⟩ := SV.kept μ v true x li hg
      have hb : b' = .var v' := by
        have := hf []
        simp only [SB.fill, h1] at this
        exact (Prod.mk.inj this).1.symm
      subst hb
      have hro : F.ro (.var v') = .var (F.rv v') := rfl
      rw [hro] at hs ⊢
      rcases rvE_nil hF1 v' with ⟨_, e⟩ | e
      · rw [e] at hs ⊢
        simp only [Bx.ren, sameBx] at hs ⊢
        rw [h2 hs]
      · rw [e] at hs ⊢
        exact und _ hs
    · cases hg
  | buf kd t =>
    simp only [SB.get] at hg
    split at hg
    · rename_i kd' t' xs hx
      rw [hX] at hx
      cases hx
      cases hc : (kd.eq kd' && t.eqt t') with
      | false => rw [hc] at hg; cases hg
      | true =>
        rw [hc] at hg
        cases hg
        simp only [Bool.and_eq_true] at hc
        cases BK.eq_eq hc.1
        cases Ty.eqt_eq hc.2
        have := hf []
        simp only [SB.fill, List.cons_append, List.nil_append, Prod.mk.injEq, and_true] at this
        rw [← this]
        have e : (⟨.sl false t, xs⟩ : PV).as (.sl false t) = some xs := by unfold PV.as; simp
        rw [e]
        rfl
    · cases hg
  | cst n =>
    have hb : b' = .cst n := by
      have := hf []
      simp only [SB.fill] at this
      exact (Prod.mk.inj this).1.symm
    subst hb
    have hro : F.ro (.cst n) = .var .undef := by
      simp only [AS.ro, AS.rb, hF2, nthD, AS.rv]
    rw [hro] at hs ⊢
    exact und _ hs
theorem fill_bx {σ : SS} {l : List PV} (hg : σ.get s m = some l) : ∃ bx, FilledB s m σ.bx bx ∧ ∀ s0 r, (σ.fill s0 (l ++ r)).1.bx = bx ∧ (σ.fill s0 (l ++ r)).1.env = s0.env ∧ (σ.fill s0 (l ++ r)).1.benv = s0.benv := by
  unfold SS.get at hg
  split at hg
  · rename_i l1 l2 l3 e1 e2 e3
    cases hg
    obtain ⟨vs', h1⟩ := getR_kept _ _ _ e1
    obtain ⟨bx, h2, h3⟩ := getB_spec σ.bx l2 e2 (fun i sb li h => SB.kept_ex h)
    refine ⟨bx, h3, fun s0 r => ?_⟩
    have e : l1 ++ (l2 ++ l3) ++ r = l1 ++ (l2 ++ (l3 ++ r)) := by simp
    show (σ.fill s0 (l1 ++ (l2 ++ l3) ++ r)).1.bx = bx ∧ _ ∧ _
    rw [e]
    simp only [SS.fill, h1, h2, and_self]
  · cases hg
end
theorem entry_ro {σ : SS} {d : HL σ.holes} {i k : Nat} {b' : Bx} (hF1 : (σ.fill s00 (HL.out _ d)).1.env = []) (hF2 : (σ.fill s00 (HL.out _ d)).1.benv = []) (hb : lookupN (σ.fill s00 (HL.out _ d)).1.bx i = some b') (hk : lookupN (entryS σ d).bx i = some (.cst k)) :
    (entryS σ d).ro (.cst k) = (σ.fill s00 (HL.out _ d)).1.ro b' := by
  unfold entryS at *
  dsimp only at *
  generalize (σ.fill s00 (HL.out _ d)).1 = F at *
  have hkeep : (F.keepI (List.append (rangeN 0 (len F.tm)) []) (F.bx.map fun x => x.1)).bx = F.bx := by
    show F.bx.filter _ = F.bx
    rw [List.filter_eq_self]
    intro x hx
    exact List.any_eq_true.2 ⟨x.1, List.mem_map.2 ⟨x, hx, rfl⟩, Nat.beq_refl _⟩
  generalize hkk : F.keepI (List.append (rangeN 0 (len F.tm)) []) (F.bx.map fun x => x.1) = k0 at *
  have he0 : k0.env = [] := by rw [← hkk]; exact hF1
  have hb0 : k0.benv = [] := by rw [← hkk]; exact hF2
  generalize hE : F.mark [] (rangeN 0 (len F.tm)) (F.bx.map fun x => x.1) = E at *
  have hEbx : E.bx = (markB k0.rv (len k0.benv) k0.bx k0.benv).1 := by rw [← hE, ← hkk]; rfl
  have hEbenv : E.benv = (markB k0.rv (len k0.benv) k0.bx k0.benv).2 := by rw [← hE, ← hkk]; rfl
  obtain ⟨_, l3⟩ := markB_spec (rv := k0.rv) (fun v hv => by rw [rv_eq]; exact rvE_ne hv) k0.benv k0.bx k0.benv ⟨[], by simp⟩
  have hrv : k0.rv = F.rv := by funext v; rw [rv_eq, rv_eq, he0, hF1]
  rcases l3 [] i with ⟨n1, _⟩ | ⟨p, q, n1, n2, n3⟩
  · rw [← hEbx, hk] at n1; cases n1
  · rw [hkeep, hb] at n1
    cases n1
    rw [← hEbx, hk] at n2
    cases n2
    rw [List.append_nil, ← hEbenv, hb0] at n3
    have hErb : E.rb (.cst k) = rbE E.benv (.cst k) := rb_eq
    have hFrb : F.rb b' = rbE [] b' := by rw [rb_eq, hF2]
    have E2 : ∀ v, (∀ j, v ≠ .cst j) → E.rv v = v := fun v hv => by rw [rv_eq]; exact rvE_ne hv
    unfold AS.ro
    rw [hFrb, hErb]
    rcases n3 with ⟨kd, t, xs, q1, q2⟩ | ⟨v, v', q1, q2, q3, q4⟩ | ⟨j, q1⟩ | ⟨v, j, q1, q2⟩
    · rw [q1, q2]
    · rw [q1, q2]
      show Bx.var (E.rv v') = Bx.var (F.rv v)
      rw [E2 v' q3, q4, hrv]
    · exfalso
      cases b' with
      | cst n => simp [rbE, nthD] at q1
      | _ => simp [rbE] at q1
    · exfalso
      rw [hrv] at q2
      rcases rvE_nil hF1 v with ⟨h1, e⟩ | e
      · rw [e] at q2; exact h1 j q2
      · rw [e] at q2; cases q2
theorem ro_env {r E : AS} (h1 : r.env = E.env) (h2 : r.benv = E.benv) (b : Bx) : r.ro b = E.ro b := by
  have e1 : r.rb = E.rb := by funext b; rw [rb_eq, rb_eq, h2]
  have e2 : r.rv = E.rv := by funext v; rw [rv_eq, rv_eq, h1]
  unfold AS.ro
  rw [e1, e2]
theorem ways_env {s0 : AS} : ∀ (l : List Way) (x : Ways l), (Ways.tree s0 l x).All fun _ r => r.env = s0.env ∧ r.benv = s0.benv
  | [], _ => trivial
  | [w], d => ⟨rfl, rfl⟩
  | w :: w' :: r, x => ⟨fun d => ⟨rfl, rfl⟩, fun y => ways_env (w' :: r) y⟩
theorem keptC_spec {s sB r : AS} {m : IdMap} {σ : SS} {l : List PV} {d : HL σ.holes} {to : Nat → Nat} {x : Nat × Bx} {b : Bx}
    (hg : σ.get sB m = some l) (hd : HL.mk σ.holes l = some d) (hr1 : r.env = (entryS σ d).env) (hr2 : r.benv = (entryS σ d).benv)
    (hbx : ∀ i, passB σ i = true → sB.box (m.get i) = s.box (m.get i)) (hto : ∀ i, passB σ i = true → to i = m.get i)
    (hk : keptC s (entryS σ d) r to σ x = some b) : ∃ n, b = .cst n ∧ s.rb (.cst n) = Bx.ren (mpOf r to) (r.ro x.2) ∧ ∀ j, s.rb (.cst n) ≠ .cst j := by
  unfold keptC at hk
  split at hk
  · rename_i k k' n h1 h2 h3
    cases hc : (Nat.beq k k' && passB σ x.1 && sameBx (Bx.ren (mpOf r to) (r.ro (.cst k))) (s.rb (.cst n))) with
    | false => rw [hc] at hk; cases hk
    | true =>
      rw [hc] at hk
      simp only [cond_true, Option.some.injEq] at hk
      simp only [Bool.and_eq_true] at hc
      obtain ⟨⟨e, hp⟩, hsame⟩ := hc
      have e := Nat.eq_of_beq_eq_true e
      subst e
      refine ⟨n, hk.symm, ?_, ?_⟩
      · obtain ⟨bx, hfb, hfill⟩ := fill_bx hg
        have ho := HL.out_mk _ _ _ hd
        have hfill := hfill s00 []
        rw [List.append_nil, ← ho] at hfill
        obtain ⟨f1, f2, f3⟩ := hfill
        have hX : sB.box (m.get x.1) = some (s.rb (.cst n)) := by
          rw [hbx _ hp, ← hto _ hp]
          unfold AS.box
          rw [h3]
          rfl
        rw [h1, ro_env hr1 hr2] at *
        rcases hfb x.1 with ⟨n1, _⟩ | ⟨sb, b', li, n1, n2, n3, n4⟩
        · exfalso
          obtain ⟨y, hy, e⟩ := List.any_eq_true.1 hp
          have : lookupN σ.bx x.1 ≠ none := by
            intro hn
            have hmem : ∀ (l : List (Nat × SB)) (i : Nat) (y : Nat × SB), y ∈ l → Nat.beq i y.1 = true → lookupN l i ≠ none := by
              intro l i y
              induction l with
              | nil => intro h; cases h
              | cons z q ih =>
                intro hm he
                obtain ⟨j, b⟩ := z
                simp only [lookupN]
                cases hb : Nat.beq i j with
                | true => simp
                | false =>
                  simp only [cond_false]
                  rcases List.mem_cons.1 hm with rfl | hm
                  · rw [hb] at he; cases he
                  · exact ih hm he
            exact hmem _ _ _ hy e hn
          exact this n1
        · rw [entry_ro f2 f3 (by rw [f1]; exact n2) h2] at hsame ⊢
          exact (SB.kept _ f2 f3 n3 n4 hX hsame).symm
      · intro j e
        rw [e] at hsame
        cases hy : Bx.ren (mpOf r to) (r.ro (.cst k)) <;> rw [hy] at hsame <;> simp [sameBx] at hsame
  · cases hk
theorem kills_env : ∀ (l : List Nat) (s : AS), (s.kills l).env = s.env ∧ (s.kills l).benv = s.benv
  | [], s => ⟨rfl, rfl⟩
  | i :: r, s => ⟨(kills_env r (s.kill i)).1, (kills_env r (s.kill i)).2⟩
theorem keptS_env {s E r : AS} {to : Nat → Nat} {σ : SS} : ∀ (q : List (Nat × Bx)) (N : AS), (keptS s E r to σ q N).env = N.env ∧ (keptS s E r to σ q N).benv = N.benv
  | [], N => ⟨rfl, rfl⟩
  | x :: q, N => by
    show (keptS s E r to σ q _).env = _ ∧ (keptS s E r to σ q _).benv = _
    have h := fun N => keptS_env (s := s) (E := E) (r := r) (to := to) (σ := σ) q N
    rw [(h _).1, (h _).2]
    split <;> exact ⟨rfl, rfl⟩
section
variable {c : Cx} {us : List (Array Value)} {N N' : AS} {a : Act} {b : Base}
structure SameS (N N' : AS) : Prop where
  tm : N'.tm = N.tm
  up : N'.up = N.up
  env : N'.env = N.env
  benv : N'.benv = N.benv
  box : ∀ i, N'.box i = N.box i
theorem SameS.refl (N : AS) : SameS N N := ⟨rfl, rfl, rfl, rfl, fun _ => rfl⟩
theorem SameS.rv (h : SameS N N') : N'.rv = N.rv := by funext v; rw [rv_eq, rv_eq, h.env]
theorem SameS.rb (h : SameS N N') : N'.rb = N.rb := by funext v; rw [rb_eq, rb_eq, h.benv]
theorem SameS.I (h : SameS N N') : c.I N' = c.I N := by funext i; unfold Cx.I; rw [h.box, h.rv]
theorem SameS.st (h : SameS N N') (k : St c us N a) : St c us N' a := by
  refine ⟨?_, k.df, ?_, ?_, ?_, ?_, k.lt, ?_, k.lv⟩
  · rw [h.tm, h.I, h.rv]; exact k.tm
  · rw [h.up, h.I, h.rv]; exact k.up
  · intro i bx hi
    rw [h.box] at hi
    have := k.bx i bx hi
    cases bx with
    | var v =>
      obtain ⟨blk, cs, T, q1, q2, q3⟩ := this
      exact ⟨blk, cs, T, q1, q2, by rw [h.I, h.rv]; exact q3⟩
    | buf kd t xs => exact this.buf_mono rfl (fun _ _ => rfl) (fun _ _ hk => ⟨hk, rfl⟩) (fun _ => rfl)
    | cst n => exact this
  · intro i j x y hi hj
    rw [h.box] at hi hj
    exact k.inj i j x y hi hj
  · intro i x hi
    rw [h.box] at hi
    exact k.own i x hi
  · intro r hr
    obtain ⟨q1, q2, q3, q4⟩ := k.mks r hr
    exact ⟨q1, q2, q3, fun i x hi => by rw [h.box] at hi; exact q4 i x hi⟩
theorem SameS.fr (h : SameS N N') (k : Fr b c N) : Fr b c N' :=
  ⟨k.os, k.tape, k.output, k.size, k.block, fun i x hi hx => by rw [h.box] at hi; exact k.own i x hi hx, k.fz, k.fz', k.bo, k.lp, k.mks, k.mks', k.cs⟩
theorem keptS_same {s E r : AS} {to : Nat → Nat} {σ : SS} : ∀ (q : List (Nat × Bx)) (N : AS), (∀ x ∈ q, ∀ b, keptC s E r to σ x = some b → N.box (to x.1) = some (N.rb b)) → SameS N (keptS s E r to σ q N)
  | [], N, _ => SameS.refl N
  | x :: q, N, h => by
    unfold keptS
    have step : SameS N (match keptC s E r to σ x with | some b => N.putBox (to x.1) b | none => N) := by
      cases hc : keptC s E r to σ x with
      | none => exact SameS.refl N
      | some b =>
        refine ⟨rfl, rfl, rfl, rfl, fun i => ?_⟩
        show (N.putBox (to x.1) b).box i = N.box i
        rw [box_put]
        split
        · rename_i e; rw [e, h x (by simp) b hc]
        · rfl
    have rest := keptS_same q (match keptC s E r to σ x with | some b => N.putBox (to x.1) b | none => N) (fun y hy b hb => by
      rw [step.box, step.rb]
      exact h y (List.mem_cons_of_mem _ hy) b hb)
    exact ⟨rest.tm.trans step.tm, rest.up.trans step.up, rest.env.trans step.env, rest.benv.trans step.benv, fun i => (rest.box i).trans (step.box i)⟩
theorem lookup_news {f : Nat → Nat} {g : Nat × Bx → Bx} {rest : List (Nat × Bx)} : ∀ (l : List (Nat × Bx)), (l.map fun x => f x.1).Nodup → ∀ x ∈ l, lookupN (List.append (l.map fun x => (f x.1, g x)) rest) (f x.1) = some (g x)
  | y :: l, hn, x, hx => by
    simp only [List.map_cons, List.nodup_cons] at hn
    show lookupN ((f y.1, g y) :: List.append (l.map fun x => (f x.1, g x)) rest) (f x.1) = _
    simp only [lookupN]
    rcases List.mem_cons.1 hx with rfl | hx
    · simp
    · have : Nat.beq (f x.1) (f y.1) = false := by
        cases hb : Nat.beq (f x.1) (f y.1) with
        | false => rfl
        | true => exact (hn.1 (List.mem_map.2 ⟨x, hx, Nat.eq_of_beq_eq_true hb⟩)).elim
      rw [this]
      exact lookup_news l hn.2 x hx
  | [], _, x, hx => by cases hx
theorem keptS_back {s s1 sB r : AS} {m : IdMap} {σ : SS} {l : List PV} {d : HL σ.holes} {to : Nat → Nat} {T : List Nat}
    (hg : σ.get sB m = some l) (hd : HL.mk σ.holes l = some d) (hr1 : r.env = (entryS σ d).env) (hr2 : r.benv = (entryS σ d).benv)
    (hbx : ∀ i, passB σ i = true → sB.box (m.get i) = s.box (m.get i)) (hto : ∀ i, passB σ i = true → to i = m.get i) (hs1 : s1.benv = s.benv) (hn : (r.bx.map fun x => to x.1).Nodup) :
    SameS (backS s1 r to T) (keptS s (entryS σ d) r to σ r.bx (backS s1 r to T)) := by
  refine keptS_same _ _ fun x hx b hb => ?_
  obtain ⟨n, rfl, h1, h2⟩ := keptC_spec hg hd hr1 hr2 hbx hto hb
  have hrb : (backS s1 r to T).rb (.cst n) = s.rb (.cst n) := by
    rw [rb_eq, rb_eq]
    show rbE s1.benv _ = _
    rw [hs1]
  rw [hrb]
  unfold AS.box
  have : lookupN (backS s1 r to T).bx (to x.1) = some (Bx.ren (mpOf r to) (r.ro x.2)) := lookup_news (f := to) (g := fun x => Bx.ren (mpOf r to) (r.ro x.2)) r.bx hn x hx
  rw [this, ← h1]
  cases hX : s.rb (.cst n) with
  | cst j => exact (h2 j hX).elim
  | var v => rfl
  | buf kd t xs => rfl
end
end Go.Xr
set_option linter.unusedSectionVars false
namespace Go.Xr
open Go
section
variable {F : Fence} {n : Nat} {P : Program} {K : Kit} {o : Oper} {a : Act} {w w' : World} {Qx : Exit → Act → World → Prop} {u : Value}
variable {b : Base} {us : List (Array Value)} {c c' : Cx} {s s' s0 : AS} {Q : Ex → AS → Prop} {T : TypeId}
def Smry.OK (P : Program) (S : Smry) : Prop :=
  (∃ fn code, P.funcs[S.f]? = some fn ∧ fn.body = some code ∧ (fn.name == "runtime.NumGoroutine") = false) ∧ S.σ.inR s00 = true ∧
  ∀ (F : Fence) (n : Nat), HF F → F.round = none → ∀ {b : Base}, (∀ k, ¬ b.mk0 k) → ∀ {c : Cx} {us : List (Array Value)} {V : List Value} {d : HL S.σ.holes} {x : Ways S.ws} {Q : Ex → AS → Prop},
    St c us (S.σ.fill s00 (HL.out _ d)).1 ⟨V.toArray, []⟩ → Fr b c (S.σ.fill s00 (HL.out _ d)).1 → S.M d = some x → (Ways.tree (entryS S.σ d) S.ws x).sat Q →
    CallsIn F n P S.f V.toArray c.w fun e w' => ∃ c' r vs rs a', c'.w = w' ∧ Q (.ret vs) r ∧ St c' us r a' ∧ Fr b c' r ∧ AVRL c'.w c'.E (c'.I r) vs rs ∧ e = .returned (retV rs)
theorem badOf_spec {m : IdMap} {r : AS} : ∀ (gs : List AV) (q : List (Nat × SB)), ∀ x ∈ q, m.get x.1 ∈ badOf s m r gs q ∨ ∃ k g, nth gs k = some g ∧ nth q k = some x ∧ goodG s m r g x.1 = true
  | [], q, x, hx => by left; unfold badOf; exact List.mem_map.2 ⟨x, hx, rfl⟩
  | g :: gs, [], x, hx => by cases hx
  | g :: gs, (i, sb) :: q, x, hx => by
    have rest : x ∈ q → m.get x.1 ∈ badOf s m r gs q ∨ ∃ k g', nth (g :: gs) k = some g' ∧ nth ((i, sb) :: q) k = some x ∧ goodG s m r g' x.1 = true := by
      intro hx
      rcases badOf_spec gs q x hx with h | ⟨k, g', h1, h2, h3⟩
      · exact .inl h
      · exact .inr ⟨k + 1, g', h1, h2, h3⟩
    simp only [badOf]
    cases hb : goodG s m r g i with
    | true =>
      simp only [cond_true]
      rcases List.mem_cons.1 hx with e | hx
      · subst e
        exact .inr ⟨0, g, rfl, rfl, hb⟩
      · exact rest hx
    | false =>
      simp only [cond_false]
      rcases List.mem_cons.1 hx with e | hx
      · subst e; left; exact List.mem_cons_self
      · rcases rest hx with h | h
        · exact .inl (List.mem_cons_of_mem _ h)
        · exact .inr h
theorem goodG_I {m : IdMap} {r : AS} {g : AV} {i : Nat} {sb : SB} {c' : Cx} {us' : List (Array Value)} {a' : Act} {u : Value} {E E' : Bool → Nat → Prop} {IB : Nat → Option BI} (hg : goodG s m r g i = true) (h : St c us s a) (k : St c' us' r a')
    (hcs : ∀ k, k < c.w.heap.size → cellsN c'.w.heap[k]? = cellsN c.w.heap[k]?) (hIB : IB (m.get i) = c.I s (m.get i)) (h1 : AVR c.w E IB (ghostV m (i, sb)) u) (h2 : AVR c'.w E' (c'.I r) (r.rv g) u)
    (hcap : ∀ t n x room, c.I s (m.get i) = some (.buf .sl t n (some (x, room))) → ∃ ad cap, u = .slice ad n cap ∧ 0 < cap) (hnil : ∀ t n, c.I s (m.get i) = some (.buf .sl t n none) → u = .slice none 0 0) : c'.I r i = c.I s (m.get i) := by
  unfold goodG at hg
  split at hg
  · rename_i j v v' hb hb'
    simp only [Bool.and_eq_true] at hg
    obtain ⟨e, halike⟩ := hg
    have e := Nat.eq_of_beq_eq_true e
    subst e
    obtain ⟨blk', cs', T', b1, b2, b3⟩ := k.bx i _ hb'
    have hI' : c'.I r i = some (.var blk' (fun p => offA p (r.rv v')) (fun p => arrA p (r.rv v'))) := by unfold Cx.I; rw [hb', b1]; rfl
    simp only [AS.rv, AVR, PtrAt, hI', offA] at h2
    obtain ⟨o', ho', hu'⟩ := h2
    cases ho'
    obtain ⟨blk, cs, T', d1, d2, d3⟩ := h.bx (m.get i) _ hb
    have hIs : c.I s (m.get i) = some (.var blk (fun p => offA p (s.rv v)) (fun p => arrA p (s.rv v))) := by unfold Cx.I; rw [hb, d1]; rfl
    have hblk : blk' = blk := by
      cases sb with
      | var sv =>
        simp only [ghostV, AVR, PtrAt, hIB, hIs, offA] at h1
        obtain ⟨o2, ho2, hu2⟩ := h1
        cases ho2
        rw [hu2] at hu'
        simp at hu'
        exact hu'.symm
      | cst n =>
        simp only [ghostV, AVR] at h1
        obtain ⟨x1, x2, x3, e⟩ := h1.one
        rw [e] at hu'
        cases hu'
      | buf kd t =>
        cases kd with
        | mp =>
          simp only [ghostV, AVR] at h1
          obtain ⟨x1, e⟩ := h1.one
          rw [e] at hu'
          cases hu'
        | _ =>
          simp only [ghostV, AVR] at h1
          obtain ⟨x1, x2, x3, e⟩ := h1.one
          rw [e] at hu'
          cases hu'
    have hsame := alike_same halike
    rw [hI', hIs, hblk]
    have f1 : (fun p => offA p (r.rv v')) = fun p => offA p (s.rv v) := funext fun p => (hsame p).1.symm
    have f2 : (fun p => arrA p (r.rv v')) = fun p => arrA p (s.rv v) := funext fun p => (hsame p).2.symm
    rw [f1, f2]
  · rename_i j t xs t' xs' hb hb'
    simp only [Bool.and_eq_true] at hg
    obtain ⟨e, et⟩ := hg
    have e := Nat.eq_of_beq_eq_true e
    subst e
    have et := Ty.eqt_eq et
    subst et
    have hI' : c'.I r i = some (.buf .sl t (List.length xs') ((c'.ρ i).map fun x => (x.1, x.2, roomOf c'.w x.1 x.2))) := by unfold Cx.I; rw [hb']; rfl
    have hIs : c.I s (m.get i) = some (.buf .sl t (List.length xs) ((c.ρ (m.get i)).map fun x => (x.1, x.2, roomOf c.w x.1 x.2))) := by unfold Cx.I; rw [hb]; rfl
    have hs1 : SlAt IB (m.get i) u := by
      cases sb with
      | var sv =>
        simp only [ghostV, AVR] at h1
        simp only [AS.rv, AVR] at h2
        obtain ⟨q, e1⟩ := h1.one
        obtain ⟨x1, x2, x3, e2⟩ := h2.one
        rw [e1] at e2
        cases e2
      | cst n => simpa only [ghostV, AVR] using h1
      | buf kd t =>
        cases kd with
        | mp =>
          simp only [ghostV, AVR] at h1
          simp only [AS.rv, AVR] at h2
          obtain ⟨q, e1⟩ := h1.one
          obtain ⟨x1, x2, x3, e2⟩ := h2.one
          rw [e1] at e2
          cases e2
        | _ => simpa only [ghostV, AVR] using h1
    simp only [AS.rv, AVR] at h2
    cases hρ : c.ρ (m.get i) with
    | none =>
      rw [hρ] at hIs
      have hu := hnil _ _ hIs
      cases hρ' : c'.ρ i with
      | none =>
        have l1 : List.length xs = 0 := by
          rcases (h.bx _ _ hb).2 with ⟨_, h0⟩ | ⟨blk, base, arr, T, lo, hi, cs, q1, _⟩
          · exact h0
          · rw [hρ] at q1; cases q1
        have l2 : List.length xs' = 0 := by
          rcases (k.bx _ _ hb').2 with ⟨_, h0⟩ | ⟨blk, base, arr, T, lo, hi, cs, q1, _⟩
          · exact h0
          · rw [hρ'] at q1; cases q1
        rw [hI', hIs, hρ', l1, l2]
        rfl
      | some y =>
        rw [hρ'] at hI'
        simp only [SlAt, hI', Option.map_some] at h2
        obtain ⟨cap, e2, _⟩ := h2
        rw [hu] at e2
        cases e2
    | some x =>
      rw [hρ] at hIs
      obtain ⟨ad, cap, hu, hpos⟩ := hcap _ _ _ _ hIs
      rw [← hIB] at hIs
      simp only [SlAt, hIs, Option.map_some] at hs1
      obtain ⟨cap1, e1, _⟩ := hs1
      cases hρ' : c'.ρ i with
      | none =>
        rw [hρ'] at hI'
        simp only [SlAt, hI', Option.map_none] at h2
        obtain ⟨ad2, e2⟩ := h2
        rw [hu] at e2
        injection e2 with f1 f2 f3
        omega
      | some y =>
        rw [hρ'] at hI'
        simp only [SlAt, hI', Option.map_some] at h2
        obtain ⟨cap2, e2, _⟩ := h2
        rw [e1] at e2
        injection e2 with f1 f2 f3
        simp only [Option.some.injEq, Addr.mk.injEq, and_true] at f1
        obtain ⟨f4, f5⟩ := f1
        rw [hI', ← hIB, hIs]
        have hlt := (h.own (m.get i) x (by rw [hb]; simp) hρ).1
        simp only [Option.map_some]
        rw [← f4, ← f5, roomOf_cells (hcs x.1 hlt), f2]
  · rename_i j t xs t' xs' hb hb'
    simp only [Bool.and_eq_true] at hg
    obtain ⟨e, et⟩ := hg
    have e := Nat.eq_of_beq_eq_true e
    subst e
    have et := Ty.eqt_eq et
    subst et
    obtain ⟨blk, q1, _⟩ := h.bx _ _ hb
    obtain ⟨blk', q2, _⟩ := k.bx _ _ hb'
    have hI' : c'.I r i = some (.buf .mp t 0 (some (blk', 0, 0))) := by unfold Cx.I; rw [hb', q2]; rfl
    have hIs : c.I s (m.get i) = some (.buf .mp t 0 (some (blk, 0, 0))) := by unfold Cx.I; rw [hb, q1]; rfl
    simp only [AS.rv, AVR, MpAt, hI'] at h2
    have hblk : blk' = blk := by
      cases sb with
      | var sv =>
        simp only [ghostV, AVR] at h1
        obtain ⟨q, e1⟩ := h1.one
        rw [e1] at h2
        cases h2
      | cst n =>
        simp only [ghostV, AVR] at h1
        obtain ⟨x1, x2, x3, e⟩ := h1.one
        rw [e] at h2
        cases h2
      | buf kd t =>
        cases kd with
        | mp =>
          simp only [ghostV, AVR, MpAt, hIB, hIs] at h1
          rw [h1] at h2
          cases h2
          rfl
        | _ =>
          simp only [ghostV, AVR] at h1
          obtain ⟨x1, x2, x3, e⟩ := h1.one
          rw [e] at h2
          cases h2
    rw [hI', hIs, hblk]
  · cases hg
theorem lend_one (h : St c us s a) {E' : Bool → Nat → Prop} {I' : Nat → Option BI} {σ : SV} {v : AV} {u : Value} (hv : AVR c.w c.E (c.I s) v u) (hE : ∀ b k, c.E b k → E' b k ∧ E' true k)
    (hI : ∀ i, I' i = c.I s i ∨ I' i = none) (hl : ∀ i ∈ lentV s σ v, s.box i ≠ none → ∀ y, c.ρ i = some y → E' true y.1) : AVR c.w E' I' (lendV s σ v) u := by
  have plain : AVR c.w E' I' v u := AVR.mono (fun b k hk => ⟨(hE b k hk).1, rfl⟩) v u (fun i _ => hI i) hv
  have hrv : s.rv v = v := AS.rv_of hv
  unfold lendV
  unfold lentV at hl
  split
  · rename_i t
    dsimp only at hl
    rw [hrv] at hl ⊢
    split
    · simp only [AVR] at hv ⊢
      refine ⟨[.slice none 0 0], ⟨none, 0, rfl, Nat.le_refl _, Nat.zero_le _, .inl rfl⟩, ?_⟩
      rw [hv]
      rfl
    split
    · rename_i l hls
      obtain ⟨hm, hsp⟩ := list_spec h hls hv
      rcases hsp with ⟨y, rfl, _⟩ | ⟨ad, cap, rfl, h1, h2⟩
      · exact plain
      · have key : AVR c.w E' I' (.pv (.sl true l.t) l.xs) (.slice ad (List.length l.xs) cap) := by
          simp only [AVR]
          refine ⟨_, ⟨ad, cap, rfl, h1, hm, ?_⟩, rfl⟩
          by_cases h0 : List.length l.xs = 0
          · exact .inl h0
          · rcases h2 with h2 | ⟨blk, off, cs, rfl, h3, h4⟩
            · exact (h0 h2).elim
            · refine .inr ⟨blk, off, cs, rfl, ?_, h3.mono (fun x cs hx => hx.mono fun b k hk => ⟨(hE b k hk).1, rfl⟩), h4⟩
              rcases list_blk h hls hv h0 with ⟨b', hb'⟩ | ⟨i, hi, hbox, y, hy, e⟩
              · exact (hE b' blk hb').2
              · rw [← e]; exact hl i hi hbox y hy
        split
        · exact plain
        · exact key
    · exact plain
  · exact plain
theorem lend_all (h : St c us s a) {E' : Bool → Nat → Prop} {I' : Nat → Option BI} (hE : ∀ b k, c.E b k → E' b k ∧ E' true k) (hI : ∀ i, I' i = c.I s i ∨ I' i = none) : ∀ (σs : List SV) (as : List AV) (V : List Value),
    (∀ i ∈ lentL s σs as, s.box i ≠ none → ∀ y, c.ρ i = some y → E' true y.1) → AVRL c.w c.E (c.I s) as V → AVRL c.w E' I' (lendL s σs as) V
  | σ :: r, v :: q, V, hl, hv => by
    obtain ⟨u, q', rfl, h1, h2⟩ := AVRL_cons.1 hv
    simp only [lentL] at hl
    exact AVRL_cons.2 ⟨u, q', rfl, lend_one h h1 hE hI (fun i hi => hl i (List.mem_append.2 (.inl hi))), lend_all h hE hI r q q' (fun i hi => hl i (List.mem_append.2 (.inr hi))) h2⟩
  | [], as, V, hl, hv => by unfold lendL; exact AVRL.mono (fun b k hk => ⟨(hE b k hk).1, rfl⟩) as V (fun i _ => hI i) hv
  | _ :: _, [], V, hl, hv => by unfold lendL; exact AVRL.mono (fun b k hk => ⟨(hE b k hk).1, rfl⟩) [] V (fun i _ => hI i) hv
theorem getB_mem {m : IdMap} : ∀ (bs : List (Nat × SB)) (l : List PV), getB s m bs = some l → ∀ x ∈ bs, ∃ li, x.2.get s m x.1 = some li
  | (i, sb) :: bs, l, h, x, hx => by
    simp only [getB] at h
    split at h
    · rename_i l1 l2 h1 h2
      rcases List.mem_cons.1 hx with e | hx
      · subst e; exact ⟨l1, h1⟩
      · exact getB_mem bs l2 h2 x hx
    · cases h
  | [], _, _, _, hx => by cases hx
theorem ghosts {I : Nat → Option BI} {E : Bool → Nat → Prop} {m : IdMap} {G : Nat × SB → Value → Prop} : ∀ bs : List (Nat × SB), (∀ x ∈ bs, ∃ u, AVR w E I (ghostV m x) u ∧ G x u) → ∃ us, AVRL w E I (bs.map (ghostV m)) us ∧ ∀ k x, nth bs k = some x → ∃ u, us[k]? = some u ∧ G x u
  | [], _ => ⟨[], AVRL_nil.2 rfl, fun k x h => by cases h⟩
  | x :: bs, h => by
    obtain ⟨u, hu, hg⟩ := h x (by simp)
    obtain ⟨us, hus, hr⟩ := ghosts bs fun y hy => h y (by simp [hy])
    refine ⟨u :: us, AVRL_cons.2 ⟨u, us, rfl, hu, hus⟩, fun k y hy => ?_⟩
    cases k with
    | zero => simp only [nth, Option.some.injEq] at hy; subst hy; exact ⟨u, rfl, hg⟩
    | succ k => obtain ⟨u', h1, h2⟩ := hr k y hy; exact ⟨u', by simpa using h1, h2⟩
theorem ext00 : Ext s00 s := ⟨⟨s.env, rfl⟩, s.benv, rfl⟩
theorem retA_ren {mp : Nat → Option Nat} (vs : List AV) : (retA vs).ren mp = retA (renL mp vs) := by
  match vs with
  | [] => simp only [retA, AV.ren, renL]
  | [v] => simp only [retA, renL]
  | u :: v :: r => simp only [retA, AV.ren, renL]
theorem any_beq {l : List Nat} {i : Nat} : l.any (fun j => Nat.beq j i) = true ↔ i ∈ l := by
  rw [List.any_eq_true]
  exact ⟨fun ⟨x, hx, e⟩ => by rw [← Nat.eq_of_beq_eq_true e]; exact hx, fun h => ⟨i, h, Nat.beq_refl i⟩⟩
theorem Smry.apply_sound0 {S : Smry} (hS : S.OK P) (hF : HF F) (hro : F.round = none) {V : List Value} {as : List AV} {t : Tree} (ht : S.apply o as s = some t) (hs : t.sat Q) (hv : AVRL c.w c.E (c.I s) as V) (h : St c us s a) (hfr : Fr b c s)
    (hroom : ∀ j t xs x, s.box j = some (.buf .sl t xs) → c.ρ j = some x → List.length xs ≠ 0 ∨ t.size ≤ roomOf c.w x.1 x.2) :
    CallsIn F n P S.f V.toArray c.w fun e w' => ∃ v, e = .returned v ∧ (S.σ.bx = [] → Keeps c.w w') ∧ Abs b us Q (a.put o.dst v) w' := by
  unfold Smry.apply at ht
  dsimp only at ht
  generalize hm : findB s S.σ.bx (findL s S.σ.tm as []) = m at ht
  generalize hlent : lentL s S.σ.tm as = lent at ht
  generalize hsB : smallS s (lendL s S.σ.tm as) S.σ m = sB at ht
  cases hc : (S.σ.ok sB m [] && S.σ.noLp && (lent.all fun i => !(S.σ.bx.any fun y => Nat.beq (m.get y.1) i))) with
  | false => rw [hc] at ht; cases ht
  | true =>
    rw [hc] at ht
    simp only [cond_true] at ht
    simp only [Bool.and_eq_true] at hc
    obtain ⟨⟨hok, hnlp⟩, hdis⟩ := hc
    split at ht
    · rename_i l hget
      split at ht
      · rename_i d hd
        cases ht
        obtain ⟨x, hx, hq⟩ := hs
        replace hq := Tree.sat_bind _ hq
        generalize hT : S.σ.bx.map (fun x => m.get x.1) = T
        have inT : ∀ i, (S.σ.bx.any fun y => Nat.beq (m.get y.1) i) = true ↔ i ∈ T := by
          intro i
          rw [← hT, ← any_beq, List.any_map]
          rfl
        have hdis : ∀ j ∈ lent, j ∉ T := by
          intro j hj hjT
          have := List.all_eq_true.1 hdis j hj
          rw [(inT j).2 hjT] at this
          cases this
        generalize hcB : (⟨c.w, c.fz, fun k => c.bo k ∨ ∃ j ∈ lent, s.box j ≠ none ∧ ∃ y, c.ρ j = some y ∧ y.1 = k, c.ρ, fun _ => none, fun _ => False⟩ : Cx) = cB
        have hwB : cB.w = c.w := by rw [← hcB]
        have hfzB : cB.fz = c.fz := by rw [← hcB]
        have hρB : cB.ρ = c.ρ := by rw [← hcB]
        have hlpB : cB.lp = fun _ => none := by rw [← hcB]
        have hmkB : cB.mks = fun _ => False := by rw [← hcB]
        have hboB : ∀ k, cB.bo k ↔ c.bo k ∨ ∃ j ∈ lent, s.box j ≠ none ∧ ∃ y, c.ρ j = some y ∧ y.1 = k := fun k => by rw [← hcB]
        have hE : ∀ b k, c.E b k → cB.E b k ∧ cB.E true k := by
          intro b k hk
          rcases hk with hk | ⟨hb, hk⟩
          · exact ⟨.inl (by rw [hfzB]; exact hk), .inl (by rw [hfzB]; exact hk)⟩
          · exact ⟨.inr ⟨hb, (hboB k).2 (.inl hk)⟩, .inr ⟨rfl, (hboB k).2 (.inl hk)⟩⟩
        have hE1 : ∀ b k, c.E b k → cB.E b k ∧ c.w.heap[k]? = c.w.heap[k]? := fun b k hk => ⟨(hE b k hk).1, rfl⟩
        have hless := h.less (tm := []) (f := fun i => S.σ.bx.any fun y => Nat.beq (m.get y.1) i) (up := s.up) (fun k v hv => by simp [nth] at hv) rfl
        have hIeq : cB.I sB = c.I { s with tm := [], bx := s.bx.filter fun x => S.σ.bx.any fun y => Nat.beq (m.get y.1) x.1, up := s.up } := by rw [← hsB, ← hcB]; rfl
        have hbeq : sB.box = AS.box { s with tm := [], bx := s.bx.filter fun x => S.σ.bx.any fun y => Nat.beq (m.get y.1) x.1, up := s.up } := by rw [← hsB]; rfl
        have hrvB : sB.rv = s.rv := by rw [← hsB]; rfl
        have hIB : ∀ i, cB.I sB i = c.I s i ∨ cB.I sB i = none := fun i => by rw [hIeq]; exact less_I (tm := []) (f := fun i => S.σ.bx.any fun y => Nat.beq (m.get y.1) i) (up := s.up) i
        have hboxB : ∀ i, sB.box i = if (S.σ.bx.any fun y => Nat.beq (m.get y.1) i) then s.box i else none := by
          intro i
          rw [hbeq]
          unfold AS.box
          simp only [lookup_filter (f := fun i => S.σ.bx.any fun y => Nat.beq (m.get y.1) i)]
          split <;> rfl
        have boxT : ∀ i, i ∈ T → sB.box i = s.box i := fun i hi => by rw [hboxB, if_pos ((inT i).2 hi)]
        have boxT' : ∀ i, sB.box i ≠ none → i ∈ T ∧ s.box i ≠ none := by
          intro i hi
          rw [hboxB] at hi
          split at hi
          · rename_i h1; exact ⟨(inT i).1 h1, hi⟩
          · exact (hi rfl).elim
        have hIT : ∀ i, i ∈ T → cB.I sB i = c.I s i := fun i hi => by
          unfold Cx.I
          rw [hwB, hρB, hrvB, boxT i hi]
        have hgets : ∃ l2, getB sB m S.σ.bx = some l2 := by
          unfold SS.get at hget
          split at hget
          · rename_i h1 h2 h3; exact ⟨_, h2⟩
          · cases hget
        obtain ⟨l2, hl2⟩ := hgets
        have mT : ∀ x ∈ S.σ.bx, m.get x.1 ∈ T := fun x hx => by rw [← hT]; exact List.mem_map.2 ⟨x, hx, rfl⟩
        have hgh : ∀ x ∈ S.σ.bx, ∃ u, AVR c.w cB.E (cB.I sB) (ghostV m x) u ∧ ((∀ t n x' room, c.I s (m.get x.1) = some (.buf .sl t n (some (x', room))) → ∃ ad cap, u = .slice ad n cap ∧ 0 < cap) ∧ ∀ t n, c.I s (m.get x.1) = some (.buf .sl t n none) → u = .slice none 0 0) := by
          rintro ⟨i, sb⟩ hx
          obtain ⟨li, hli⟩ := getB_mem _ _ hl2 _ hx
          have hT' := mT _ hx
          have hb := boxT _ hT'
          have hI := hIT _ hT'
          cases sb with
          | cst n =>
            have := List.all_eq_true.1 hS.2.1 _ hx
            simp [s00, len, Nat.blt] at this
          | var v =>
            simp only [SB.get] at hli
            split at hli
            · rename_i y hy
              rw [hb] at hy
              obtain ⟨blk, cs, T', h1, h2, h3⟩ := h.bx _ _ hy
              have hIs : c.I s (m.get i) = some (.var blk (fun p => offA p (s.rv y)) (fun p => arrA p (s.rv y))) := by
                unfold Cx.I; rw [hy, h1]; rfl
              refine ⟨.pointer (some ⟨blk, 0, none⟩), ?_, fun t n x' room e => (by rw [hIs] at e; cases e), fun t n e => (by rw [hIs] at e; cases e)⟩
              simp only [ghostV, AVR, PtrAt, hI, hIs]
              exact ⟨0, by simp only [offA], rfl⟩
            · cases hli
          | buf kd t =>
            simp only [SB.get] at hli
            split at hli
            · rename_i kd' t' xs hy
              have hkd : kd = kd' := by
                cases hq : kd.eq kd' && t.eqt t' with
                | false => rw [hq] at hli; cases hli
                | true => simp only [Bool.and_eq_true] at hq; exact BK.eq_eq hq.1
              subst hkd
              have hfree := List.all_eq_true.1 hnlp _ hx
              simp only at hfree
              rw [hb] at hy
              cases kd with
              | lp p => cases hfree
              | it => cases hfree
              | mr => cases hfree
              | mp =>
                obtain ⟨blk', h1, h2⟩ := h.bx _ _ hy
                have hIs : c.I s (m.get i) = some (.buf .mp t' 0 (some (blk', 0, 0))) := by unfold Cx.I; rw [hy, h1]; rfl
                exact ⟨.map (some blk'), by simp only [ghostV, AVR, MpAt, hI, hIs], fun t n x' room e => (by rw [hIs] at e; cases e), fun t n e => (by rw [hIs] at e; cases e)⟩
              | sl =>
              obtain ⟨hm', hbx⟩ := h.bx _ _ hy
              rcases hbx with ⟨h1, h2⟩ | ⟨blk', base', arr, T', lo, hi, cs, h1, h2, h3, h4, h5, h6⟩
              · have hIs : c.I s (m.get i) = some (.buf .sl t' (List.length xs) none) := by unfold Cx.I; rw [hy, h1]; rfl
                exact ⟨.slice none 0 0, by simp only [ghostV, AVR, SlAt, hI, hIs]; exact ⟨none, rfl⟩, fun t n x' room e => (by rw [hIs] at e; cases e), fun t n e => rfl⟩
              · have hIs : c.I s (m.get i) = some (.buf .sl t' (List.length xs) (some (blk', base', roomOf c.w blk' base'))) := by unfold Cx.I; rw [hy, h1]; rfl
                have hlen := RepL.len (RepC.len t') xs cs h4
                have hro : roomOf c.w blk' base' = arr.size - base' := by simp only [roomOf, h2]
                have hle : List.length xs * t'.size ≤ roomOf c.w blk' base' := by rw [hro]; omega
                have hrm := hroom _ _ _ _ hy h1
                refine ⟨.slice (some ⟨blk', base', none⟩) (List.length xs) (if List.length xs = 0 then 1 else List.length xs), ?_, fun t n x' room e => ?_, fun t n e => (by rw [hIs] at e; cases e)⟩
                · simp only [ghostV, AVR, SlAt, hI, hIs]
                  refine ⟨_, rfl, by split <;> omega, ?_⟩
                  split
                  · rename_i h0
                    rcases hrm with h | h
                    · exact (h h0).elim
                    · rw [Nat.one_mul]; exact h
                  · exact hle
                · rw [hIs] at e
                  cases e
                  exact ⟨_, _, rfl, by split <;> omega⟩
            · cases hli
        obtain ⟨gv, hgv, hgG⟩ := ghosts S.σ.bx hgh
        have htm : sB.tm = lendL s S.σ.tm as := by rw [← hsB]; rfl
        have hup : sB.up = [S.σ.bx.map (ghostV m)] := by rw [← hsB]; rfl
        have hargs : AVRL c.w cB.E (cB.I sB) (lendL s S.σ.tm as) V := lend_all h hE hIB _ _ _ (fun i hi hb y hy => .inr ⟨rfl, (hboB _).2 (.inr ⟨i, by rw [← hlent]; exact hi, hb, y, hy, rfl⟩)⟩) hv
        have hSt : St cB [gv.toArray] sB ⟨V.toArray, []⟩ := by
          refine ⟨?_, ⟨[], List.nodup_nil, rfl, fun r hr => by cases hr⟩, ?_, ?_, ?_, ?_, ?_, fun r hr => (by rw [hmkB] at hr; cases hr), fun i d hd => (by rw [hlpB] at hd; cases hd)⟩
          · intro k v hk
            rw [htm] at hk
            obtain ⟨u, h1, h2⟩ := AVRL_nth _ _ k v hargs hk
            have hlt : k < V.length := by rw [← AVRL_len _ _ hargs]; exact nth_lt _ _ _ hk
            refine ⟨by simpa using hlt, ?_⟩
            rw [hwB, AS.rv_of h2]
            have : (V.toArray).getD k undef = u := by rw [Array.getD_eq_getD_getElem?]; simp [h1]
            rw [this]
            exact h2
          · rw [hup, hwB]
            refine ⟨_, [], rfl, ?_, rfl⟩
            intro k v hk
            obtain ⟨u, h1, h2⟩ := AVRL_nth _ _ k v hgv hk
            have hlt : k < gv.length := by rw [← AVRL_len _ _ hgv]; exact nth_lt _ _ _ hk
            refine ⟨by simpa using hlt, ?_⟩
            rw [AS.rv_of h2]
            have : (gv.toArray).getD k undef = u := by rw [Array.getD_eq_getD_getElem?]; simp [h1]
            rw [this]
            exact h2
          · intro i bx hi
            rw [hbeq] at hi
            have hok := hless.bx i bx hi
            cases bx with
            | cst n => exact hok.elim
            | var v =>
              obtain ⟨blk, cs, T', h1, h2, h3⟩ := hok
              refine ⟨blk, cs, T', by rw [hρB]; exact h1, by rw [hwB]; exact h2, ?_⟩
              rw [hwB, hrvB]
              exact VarC.mono hE1 (fun j _ => .inl (by rw [hIeq])) h3
            | buf kd t xs =>
              refine BoxOK.buf_mono (c := c) (by rw [hρB]) (fun x hx => by rw [hwB]) (fun b k hk => by rw [hwB]; exact hE1 b k hk) (fun hf => ?_) hok
              rw [← hbeq] at hi
              obtain ⟨hiT, hne⟩ := boxT' i (by rw [hi]; simp)
              rw [← hT] at hiT
              obtain ⟨x, hx, e⟩ := List.mem_map.1 hiT
              have hfree := List.all_eq_true.1 hnlp _ hx
              obtain ⟨li, hli⟩ := getB_mem _ _ hl2 _ hx
              obtain ⟨xi, sb⟩ := x
              simp only at e hli hfree
              cases sb with
              | cst n =>
                have := List.all_eq_true.1 hS.2.1 _ hx
                simp [s00, len, Nat.blt] at this
              | var v =>
                simp only [SB.get, e, hi] at hli
                cases hli
              | buf kd2 t2 =>
                simp only [SB.get, e, hi] at hli
                cases hq : kd2.eq kd && t2.eqt t with
                | false => rw [hq] at hli; cases hli
                | true =>
                  simp only [Bool.and_eq_true] at hq
                  cases BK.eq_eq hq.1
                  simp only [hf] at hfree
                  cases hfree
          · intro i j x y hi hj
            rw [hρB]
            exact h.inj i j x y (boxT' i hi).2 (boxT' j hj).2
          · intro i x hi hx
            rw [hρB] at hx
            obtain ⟨h1, h2⟩ := boxT' i hi
            obtain ⟨k1, k2, k3⟩ := h.own i x h2 hx
            refine ⟨by rw [hwB]; exact k1, by rw [hfzB]; exact k2, fun hb => ?_⟩
            rcases (hboB _).1 hb with hb | ⟨j, g1, g2, y, g3, g4⟩
            · exact k3 hb
            · exact hdis j g1 (by rw [← h.inj i j x y h2 g2 hx g3 g4.symm]; exact h1)
          · intro k hk
            rw [hfzB, hboB] at hk
            rw [hwB]
            rcases hk with hk | hk | ⟨j, g1, g2, y, g3, g4⟩
            · exact h.lt k (.inl hk)
            · exact h.lt k (.inr hk)
            · rw [← g4]; exact (h.own j y g2 g3).1
        have hFr : Fr ⟨c.w, fun x => ∃ j ∈ T, s.box j ≠ none ∧ ∃ y, c.ρ j = some y ∧ y.1 = x, c.fz, cB.bo, fun _ => none, fun _ => False⟩ cB sB := by
          refine ⟨by rw [hwB], by rw [hwB], by rw [hwB], by rw [hwB]; exact Nat.le_refl _, fun k _ _ => by rw [hwB], ?_, fun k hk => .inl (by rw [hfzB] at hk; exact hk), fun k hk => by rw [hfzB]; exact hk, fun k => Iff.rfl, hlpB, fun r hr => hr.elim, fun r hr => by rw [hmkB] at hr; exact hr.elim, fun k hk => by rw [hwB]⟩
          intro i x hi hx
          rw [hρB] at hx
          obtain ⟨h1, h2⟩ := boxT' i hi
          exact .inl ⟨i, h1, h2, x, hx, rfl⟩
        obtain ⟨c1, s1, e1, e2, g1, g2, _⟩ := fill_state hSt hFr ext00 hok hS.2.1 hget
        have e2 := e2 []
        rw [List.append_nil, ← HL.out_mk _ _ _ hd] at e2
        have e1 : c1.w = c.w := e1.trans hwB
        rw [← e1]
        refine CallsIn.mono (hS.2.2 F n hF hro (fun _ hk => hk) (V := V) (d := d) (by rw [e2]; exact g1) (by rw [e2]; exact g2) hx (Tree.sat_all _ hq (ways_env S.ws x))) ?_
        rintro e w' ⟨c', r, vs, rs, a', hw, ⟨hb, hre1, hre2⟩, k, kf, hvs, rfl⟩
        unfold Smry.back at hb
        dsimp only at hb
        generalize hto : toOf s o m S.σ = to at hb
        generalize hL : someL lent = L at hb
        obtain ⟨hok2, hb⟩ := sat_ok hb
        simp only [Bool.and_eq_true] at hok2
        obtain ⟨⟨n1, n2⟩, n3⟩ := hok2
        generalize hkl : List.append (badOf s m r ((headU r.up).map r.rv) S.σ.bx) ((r.bx.filter fun x => !passB S.σ x.1).map fun x => to x.1) = kl at hb
        obtain ⟨ks, kn, kI, kb⟩ := h.kills kl
        rw [hT] at hb
        have hLn : L = true → noBL vs = true ∧ (r.bx.all fun x => (r.ro x.2).noB) = true := by
          intro e
          rw [e] at n3
          simpa using n3
        have topass : ∀ x ∈ S.σ.bx, to x.1 = m.get x.1 := by
          intro x hx
          rw [← hto]
          have : passB S.σ x.1 = true := List.any_eq_true.2 ⟨x, hx, Nat.beq_refl _⟩
          simp only [toOf, this, cond_true]
        have key := back_state (L := L) h ks (hfr.kills kl) kI kb k kf (fun _ => Iff.rfl) (fun x hx => (hboB x).2 (.inl hx)) ?_ (nodupN_spec _ n1) (nodupN_spec _ n2) ?_ ?_ ?_
        · obtain ⟨r1, r2, r3⟩ := key
          rw [retT_eq] at hb
          have hres := ret_avr (r3 vs rs (fun e => (hLn e).1) hvs)
          rw [← retA_ren] at hres
          have hpm : ∀ i, passB S.σ i = true → to i = m.get i := fun i hp => by rw [← hto]; simp only [toOf, hp, cond_true]
          have hsame := keptS_back (s := s) (s1 := s.kills kl) (sB := sB) (r := r) (T := T) hget hd hre1 hre2 (fun i hp => boxT _ (by
            obtain ⟨y, hy, e⟩ := List.any_eq_true.1 hp
            rw [Nat.eq_of_beq_eq_true e]
            exact mT y hy)) hpm (kills_env kl s).2 (nodupN_spec _ n2)
          rw [← hsame.I] at hres
          replace r1 := hsame.st r1
          replace r2 := hsame.fr r2
          refine ⟨_, rfl, fun hnil => ?_, backC c c' r to, _, hw, hb, r1.putO hres o.dst, r2.putO o.dst _⟩
          have hTn : T = [] := by rw [← hT, hnil]; rfl
          intro k0 y0 hy0
          rw [← hw, kf.block k0 (by rw [e1] at hy0; exact (Array.getElem?_eq_some_iff.1 hy0).1) (by rintro ⟨j, hj, _⟩; rw [hTn] at hj; cases hj)]
          rw [e1] at hy0
          exact hy0
        · intro e x hx
          cases lent with
          | nil =>
            rcases (hboB x).1 hx with hx | ⟨j, hj, _⟩
            · exact hx
            · cases hj
          | cons y l => simp only [someL] at hL; rw [← hL] at e; cases e
        · intro j hj
          rw [← hT] at hj
          obtain ⟨x, hx, rfl⟩ := List.mem_map.1 hj
          rcases badOf_spec ((headU r.up).map r.rv) S.σ.bx x hx with hb | ⟨kk, g, h1, h2, hgood⟩
          · left; exact kn _ (.inl (by rw [← hkl]; exact List.mem_append.2 (.inl hb)))
          · right
            have hbx : r.box x.1 ≠ none := by
              unfold goodG at hgood
              split at hgood
              · rename_i h; rw [h]; simp
              · rename_i h; rw [h]; simp
              · rename_i h; rw [h]; simp
              · cases hgood
            refine ⟨x.1, hbx, topass x hx, ?_⟩
            have hu := k.up
            cases hup : r.up with
            | nil => rw [hup] at h1; simp [headU, nth] at h1
            | cons l0 rest =>
              rw [hup] at hu h1
              obtain ⟨u0, q0, eu, hu1, _⟩ := hu
              simp only [List.cons.injEq] at eu
              obtain ⟨eu, _⟩ := eu
              subst eu
              simp only [headU, nth_map, Option.map_eq_some_iff] at h1
              obtain ⟨g0, h1, eg⟩ := h1
              obtain ⟨_, hg⟩ := hu1 kk _ h1
              have hgv2 : r.rv g = g := by
                unfold goodG at hgood
                split at hgood
                · rfl
                · rfl
                · rfl
                · cases hgood
              rw [eg, ← hgv2] at hg
              have hn : nth (S.σ.bx.map (ghostV m)) kk = some (ghostV m x) := by rw [nth_map, h2]; rfl
              obtain ⟨u1, e3, hg2⟩ := AVRL_nth _ _ kk _ hgv hn
              obtain ⟨u2, e4, hG1, hG2⟩ := hgG kk _ h2
              rw [e3] at e4
              cases e4
              have : gv.toArray.getD kk undef = u1 := by rw [Array.getD_eq_getD_getElem?]; simp [e3]
              rw [this] at hg
              obtain ⟨i, sb⟩ := x
              exact goodG_I hgood h k (fun k hk => kf.cs k hk) (hIT _ (mT _ hx)) hg2 hg (fun t n x' room e => hG1 t n x' room e) hG2
        · intro i hi
          obtain ⟨b0, hm', _⟩ := box_mem hi
          cases hp : passB S.σ i with
          | true =>
            left
            obtain ⟨x, hx, e⟩ := List.any_eq_true.1 hp
            rw [Nat.eq_of_beq_eq_true e, topass x hx]
            exact mT x hx
          | false =>
            right
            refine kn _ (.inl ?_)
            rw [← hkl]
            exact List.mem_append.2 (.inr (List.mem_map.2 ⟨(i, b0), List.mem_filter.2 ⟨hm', by simp [hp]⟩, rfl⟩))
        · intro e x hx
          exact List.all_eq_true.1 (hLn e).2 x hx
      · cases ht
    · cases ht
theorem Smry.apply_sound {S : Smry} (hS : S.OK P) (hF : HF F) (hro : F.round = none) {V : List Value} {as : List AV} {t : Tree} (ht : S.apply o as s = some t) (hs : t.sat Q) (hv : AVRL c.w c.E (c.I s) as V) (h : St c us s a) (hfr : Fr b c s) :
    CallsIn F n P S.f V.toArray c.w fun e w' => ∃ v, e = .returned v ∧ (S.σ.bx = [] → Keeps c.w w') ∧ Abs b us Q (a.put o.dst v) w' :=
  Smry.apply_sound0 (c := c.tight s) hS hF hro ht hs (AVRL.le tight_I _ _ hv) h.tight hfr.tight (fun j t xs x hb hx => tight_room (c := c) hb hx)
end
end Go.Xr
namespace Go.Xr
open Go
section
variable {F : Fence} {n : Nat} {P : Program} {K : Kit} {o : Oper} {a : Act} {w w' : World} {Qx : Exit → Act → World → Prop} {u : Value}
variable {b : Base} {us : List (Array Value)} {c c' : Cx} {s s' s0 : AS} {Q : Ex → AS → Prop} {T : TypeId}
theorem sumOf_some {f : FuncId} {as : List AV} {t : Tree} : ∀ l : List Smry, sumOf l f o as s = some t → ∃ S ∈ l, S.f = f ∧ S.apply o as s = some t
  | S :: l, h => by
    simp only [sumOf] at h
    cases hb : Nat.beq S.f f with
    | true =>
      rw [hb] at h
      simp only [cond_true] at h
      split at h
      · rename_i t' ht
        cases h
        exact ⟨S, by simp, Nat.eq_of_beq_eq_true hb, ht⟩
      · obtain ⟨S', h1, h2⟩ := sumOf_some l h
        exact ⟨S', List.mem_cons_of_mem _ h1, h2⟩
    | false =>
      rw [hb] at h
      simp only [cond_false] at h
      obtain ⟨S', h1, h2⟩ := sumOf_some l h
      exact ⟨S', List.mem_cons_of_mem _ h1, h2⟩
  | [], h => by cases h
theorem callS_sound {pf : FuncId → Bool} {l : List Smry} (hl : ∀ S ∈ l, S.OK P) (hpf : ∀ f, pf f = true → ∀ S ∈ l, S.f = f → S.σ.bx = []) {L : Nat → Option LD} {us0 : List (Array Value)} : CallSound pf P L us0 (callS l) := by
  intro F n pre b hF _ o cl x a c s us Q Qx _ ho hcal h hfr hs
  have hx := h.ev x
  generalize hX : s.ev x = X at *
  cases X with
  | clo f cs =>
    simp only [AVR] at hx
    obtain ⟨vs, hxe, hxc⟩ := hx
    have hargs : AVRL c.w c.E (c.I s) (List.append (cl.args.toList.map s.ev) cs) ((cl.args.toList.map a.eval) ++ vs) := AVRL_append _ _ _ _ (h.evs _) hxc
    simp only [callS] at hs
    generalize hA : List.append (cl.args.toList.map s.ev) cs = A at *
    split at hs
    · rename_i t ht
      obtain ⟨S, hS, rfl, hap⟩ := sumOf_some l ht
      have hok := hl S hS
      obtain ⟨⟨fn, code, hf, hbody, hname⟩, _⟩ := id hok
      generalize hV : (cl.args.toList.map a.eval) ++ vs = V at *
      have hrun : (execOp a.eval o).run P c.w = .ok (.enter S.f V.toArray) c.w := by
        simp only [execOp, ho, resolve, hcal, hxe, Deferred.ofValue, Sem.run_bind, Sem.run_pure, Result.andThen_ok, invoke, run_callFunc hf hbody hname]
        rw [← hV]
        congr 2
        simp
      have hd : ∀ c, o.op ≠ .defer c := fun c => by rw [ho]; simp
      refine ⟨fun f _ => hF.1 f, ?_⟩
      rw [Oper.semAt_eq _ _ _ hd, hrun]
      simp only [Oper.uponIn_enter]
      refine ⟨fun e => (by rw [hF.2] at e; cases e), ?_⟩
      have hFp : HF F.plain := ⟨hF.1, hF.2⟩
      refine CallsIn.mono (Smry.apply_sound (n := n - 1) hok hFp rfl hap hs hargs h hfr) ?_
      rintro e w' ⟨v, rfl, hkp, hq⟩
      refine ⟨fun f' e' hp => hkp (hpf f' hp S hS ?_), hq⟩
      subst e'
      simp only [AS.ev, AV.clo.injEq] at hX
      exact hX.1.symm
    · exact hs.elim
  | _ => simp only [callS] at hs; exact hs.elim
theorem all_any {R : Ex → AS → Prop} (h : ∀ e s, R e s) : ∀ t : Tree, t.All R
  | .leaf e s => h e s
  | .chk b t => all_any h t
  | .br b x y => ⟨all_any h x, all_any h y⟩
  | .amb x y => ⟨all_any h x, all_any h y⟩
  | .bnd D _ m g => fun d => all_any h (g d)
  | .cases A B _ _ x g g' => ⟨fun d => all_any h (g d), fun d => all_any h (g' d)⟩
  | .any D _ p g => fun d => all_any h (g d)
  | .fail => trivial
theorem callS_ext {l : List Smry} (o : Oper) (v : AV) (as : List AV) (s : AS) : (callS l o v as s).All (EX s) := by
  unfold callS
  split
  · rename_i f cs
    split
    · rename_i t ht
      obtain ⟨S, _, _, hap⟩ := sumOf_some l ht
      unfold Smry.apply at hap
      dsimp only at hap
      simp only [cond_eq_ite] at hap
      split at hap
      · split at hap
        · split at hap
          · cases hap
            intro x
            refine Tree.all_bind _ (all_any (fun e r => ?_) _)
            unfold Smry.back
            split
            · exact ok_all (ret_all ((keptS_env _ _).1.trans (kills_env _ s).1) ((keptS_env _ _).2.trans (kills_env _ s).2))
            · exact trivial
          · cases hap
        · cases hap
      · cases hap
    · exact trivial
  · exact trivial
theorem fieldsB_pf {l : List Smry} {il : List (FuncId × Hn)} : ∀ (fs : List Field) (ts : List TypeId) (n : Nat), fieldsB P (K.withPf l il) fs ts n = fieldsB P K fs ts n
  | [], [], _ => rfl
  | [], _ :: _, _ => rfl
  | _ :: _, [], _ => rfl
  | f :: r, T :: q, n => by
    simp only [fieldsB, fieldsB_pf r q]
    rfl
theorem zerosB_pf {l : List Smry} {il : List (FuncId × Hn)} : ∀ (ts : List TypeId) (cs : List Value), zerosB (K.withPf l il) ts cs = zerosB K ts cs
  | [], [] => rfl
  | [], _ :: _ => rfl
  | T :: fs, cs => by
    simp only [zerosB, zerosB_pf fs]
    rfl
theorem KitOK.withPf (hK : KitOK P K) (l : List Smry) (il : List (FuncId × Hn)) : KitOK P (K.withPf l il) := by
  refine ⟨fun T => ?_, hK.fn, hK.mixed⟩
  have h := hK.td T
  simp only [tdB, fieldsB_pf, zerosB_pf] at h ⊢
  exact h
theorem pfOf_spec {l : List Smry} {il : List (FuncId × Hn)} {f : FuncId} (h : pfOf l il f = true) : lookupN il f = none ∧ ∀ S ∈ l, S.f = f → S.σ.bx = [] := by
  unfold pfOf at h
  simp only [Bool.and_eq_true] at h
  refine ⟨?_, fun S hS e => ?_⟩
  · cases hl : lookupN il f with
    | none => rfl
    | some y => rw [hl] at h; cases h.1
  · have h2 := List.all_eq_true.1 h.2 S hS
    rw [e, Nat.beq_refl] at h2
    cases hb : S.σ.bx with
    | nil => rfl
    | cons x q => rw [hb] at h2; simp [nilB] at h2
theorem endT_all {res : List ResultVar} {t : Tree} {s0 : AS} (h : t.All (EX s0)) : (t.bind (endT K res)).All (EX s0) := by
  refine Tree.all_bind _ (Tree.All.mono (fun e s' hx => ?_) _ h)
  exact Tree.All.mono (fun e s'' h' => Ext.trans hx h') _ endT_ext
theorem Smry.ok (hK : KitOK P K) {l : List Smry} (hl : ∀ S ∈ l, S.OK P) (S : Smry) (hn : Hn) (hin1 : S.σ.inR s00 = true) (hin2 : ∀ d, (S.ws.all fun w => w.σ.inR (entryS S.σ d)) = true) (chk : ∀ d, smryRun K l S.f hn S.σ S.ws d = S.M d) (hsome : (K.fn S.f).isSome = true) : S.OK P := by
  cases hfn : K.fn S.f with
  | none => rw [hfn] at hsome; cases hsome
  | some y =>
    obtain ⟨nt, res, code⟩ := y
    obtain ⟨fn, hf, hnt, hres, hbody, hname⟩ := hK.fn S.f nt res code hfn
    refine ⟨⟨fn, code, hf, hbody, hname⟩, hin1, fun F n hF hro b hmk c us V d x Q h hfr hm hq => ?_⟩
    have e := chk d
    rw [hm] at e
    unfold smryRun at e
    rw [hfn] at e
    dsimp only at e
    obtain ⟨hm1, hfrm, _⟩ := h.mark hfr [] (rangeN 0 (len (S.σ.fill s00 (HL.out _ d)).1.tm)) ((S.σ.fill s00 (HL.out _ d)).1.bx.map fun x => x.1)
    have h1 := start_tm hnt hm1
    have hfr1 : Fr b c (startS S.σ nt d) := ⟨hfrm.os, hfrm.tape, hfrm.output, hfrm.size, hfrm.block, hfrm.own, hfrm.fz, hfrm.fz', hfrm.bo, hfrm.lp, hfrm.mks, hfrm.mks', hfrm.cs⟩
    have hall := endT_all (K := K) (res := res) (denC_ext (K := K.withPf l []) (run := runN (K.withPf l []) 8) (runN_sound (hK.withPf l []) 8).2 (callS_ext (l := l)) (vars := K.vars S.f) (res := res) code hn none (startS S.σ nt d))
    have hs := Tree.sat_bind _ (Tree.sat_all _ (Tree.run_sat _ e) hall)
    subst hres
    refine CallsIn.mono (calls_of_wp (Q := fun e s => pOpt (Ways.take S.ws e s) = some x ∧ EX (startS S.σ nt d) e s) hK hF hro hf hbody hmk (denC_sound (rd := none) (hK.withPf l []) (runN_sound (hK.withPf l []) 8).1 (runN_sound (hK.withPf l []) 8).2 callS_ext (vars := K.vars S.f) code hn hF hro (callS_sound (pf := (K.withPf l []).pf) hl fun f hf => (pfOf_spec (il := []) hf).2) h1 hfr1 hs)) ?_
    rintro e w' ⟨c', s2, vs, rs, a2, rfl, k1, k2, k3, k4, rfl⟩
    obtain ⟨k1, kx⟩ := k1
    obtain ⟨wy, hmem, dw, j1, j2⟩ := Ways.take_one S.ws k1 hq
    obtain ⟨c'', e', s', g1, g2, g3, g4, g5⟩ := Way.take_spec (s0 := entryS S.σ d) k2 k3 kx (List.all_eq_true.1 (hin2 d) _ hmem) j1
    obtain ⟨vs', rfl, g6⟩ := g5
    rw [g2] at j2
    exact ⟨c'', s', vs', rs, a2, g1, j2, g3, g4, g6 rs k4, rfl⟩
end
end Go.Xr
namespace Go.Xr
open Go
section
variable {H : Type} {enc : TypeId × Value → H} {P : Program} {K : Kit} {w : World} {E : Bool → Nat → Prop}
theorem cellsOf_eq {t : Ty} {T : TypeId} (h : tyB P t (.inl T) = true) : P.cellsOf T = t.size ∧ 0 < t.size := by
  obtain ⟨i, z, h1, h2, h3, _⟩ := infoB_spec (tyB_info h)
  exact ⟨by simp [Program.cellsOf, h1, h2], h3⟩
theorem reach_le {m : Nat} (h : m ≤ reachBytes) : m ≤ maxL := by
  have := reachBytes_lt
  unfold maxL
  omega
theorem rows_RepL {α : Type} {R : α → List Value → Prop} {sz : Nat} : ∀ (n : Nat) (cs : List Value), cs.length = n * sz → (∀ i, i < n → ∃ y, R y ((cs.drop (i * sz)).take sz)) → ∃ ys : List α, ys.length = n ∧ RepL R ys cs
  | 0, cs, hl, _ => ⟨[], rfl, List.eq_nil_of_length_eq_zero (by rw [hl, Nat.zero_mul])⟩
  | n + 1, cs, hl, h => by
    obtain ⟨y, hy⟩ := h 0 (by omega)
    simp only [Nat.zero_mul, List.drop_zero] at hy
    have hl2 : (cs.drop sz).length = n * sz := by rw [List.length_drop, hl, Nat.succ_mul]; omega
    obtain ⟨ys, h1, h2⟩ := rows_RepL n (cs.drop sz) hl2 (fun i hi => by
      obtain ⟨z, hz⟩ := h (i + 1) (by omega)
      refine ⟨z, ?_⟩
      rw [List.drop_drop]
      have : sz + i * sz = (i + 1) * sz := by rw [Nat.succ_mul]; omega
      rw [this]; exact hz)
    exact ⟨y :: ys, by simp [h1], cs.take sz, cs.drop sz, (List.take_append_drop sz cs).symm, hy, h2⟩
theorem rows_Reads {α : Type} {R : α → List Value → Prop} {sz b off : Nat} : ∀ (m k : Nat), (∀ i, i < m → ∃ y cs, R y cs ∧ cs.length = sz ∧ ∀ j, j < sz → w.cell? ⟨b, off + ((k + i) * sz + j), none⟩ = cs[j]?) →
    ∃ (ys : List α) (cs : List Value), ys.length = m ∧ RepL R ys cs ∧ Reads w b (off + k * sz) cs
  | 0, k, _ => ⟨[], [], rfl, rfl, fun j v h => by simp at h⟩
  | m + 1, k, h => by
    obtain ⟨y, c1, h1, h2, h3⟩ := h 0 (by omega)
    obtain ⟨ys, c2, g1, g2, g3⟩ := rows_Reads m (k + 1) (fun i hi => by
      obtain ⟨y, c, q1, q2, q3⟩ := h (i + 1) (by omega)
      refine ⟨y, c, q1, q2, fun j hj => ?_⟩
      rw [← q3 j hj]
      congr 2
      rw [show k + (i + 1) = k + 1 + i by omega])
    refine ⟨y :: ys, c1 ++ c2, by simp [g1], ⟨c1, c2, rfl, h1, g2⟩, fun j v hj => ?_⟩
    rcases Nat.lt_or_ge j c1.length with hlt | hge
    · rw [List.getElem?_append_left hlt] at hj
      have := h3 j (by omega)
      rw [hj] at this
      rw [← this]
      congr 2
      rw [Nat.add_zero]; omega
    · rw [List.getElem?_append_right hge] at hj
      have := g3 _ _ hj
      rw [← this]
      congr 2
      rw [Nat.succ_mul]; omega
theorem tyB_single {t : Ty} {f : Field} {off : Nat} (h1 : t ≠ .unit) (h2 : ∀ a b, t ≠ .pair a b) (h : tyB P t (.inr ([f], off)) = true) : f.offset = off ∧ tyB P t (.inl f.type) = true := by
  cases t with
  | unit => exact (h1 rfl).elim
  | pair a b => exact (h2 a b rfl).elim
  | _ =>
    simp only [tyB, oneB, Bool.and_eq_true] at h ⊢
    exact ⟨Nat.eq_of_beq_eq_true h.1.1, h.2⟩
theorem tyB_row {t : Ty} {fs : List Field} {off : Nat} (h1 : t ≠ .unit) (h2 : ∀ a b, t ≠ .pair a b) (h : tyB P t (.inr (fs, off)) = true) : ∃ f, fs = [f] := by
  match fs with
  | [f] => exact ⟨f, rfl⟩
  | [] =>
    exfalso
    cases t with
    | unit => exact h1 rfl
    | pair a b => exact h2 a b rfl
    | _ => simp [tyB, oneB] at h
  | f :: g :: r =>
    exfalso
    cases t with
    | unit => exact h1 rfl
    | pair a b => exact h2 a b rfl
    | _ => simp [tyB, oneB] at h
theorem weights_all_mem {e : TypeId} : ∀ {l : List (DataW H)} {i : Nat} {d : DataW H}, l[i]? = some d → ∀ m ∈ d.weights P e, m ∈ DataW.weightsAll P e l
  | x :: l, 0, d, h, m, hm => by
    simp only [List.getElem?_cons_zero, Option.some.injEq] at h
    subst h
    simp only [DataW.weightsAll, List.mem_append]
    exact .inl hm
  | x :: l, i + 1, d, h, m, hm => by
    simp only [List.getElem?_cons_succ] at h
    simp only [DataW.weightsAll, List.mem_append]
    exact .inr (weights_all_mem h m hm)
  | [], i, d, h, _, _ => by simp at h
theorem open_row {n : Nat} (ih : ∀ (t : Ty) (T : TypeId) (cs : List Value) (x : DataW H × List MemPlace), tyB P t (.inl T) = true → (∀ m ∈ x.1.weights P T, m ≤ reachBytes) → DataW.trod enc P w 0 (fun _ => true) true n T cs = some x → ∃ y : t.T, RepC w E t y cs) {cs : List Value} :
    ∀ (a : Ty) (fs : List Field) (off : Nat) (xs : List (DataW H × List MemPlace)), tyB P a (.inr (fs, off)) = true → xs.length = fs.length →
      (∀ (i : Nat) (f : Field), fs[i]? = some f → DataW.trod enc P w 0 (fun _ => true) true n f.type ((cs.drop f.offset).take (P.cellsOf f.type)) = xs[i]?) →
      (∀ m ∈ DataW.weightsEach P (fs.map (·.type)) (xs.map (·.1)), m ≤ reachBytes) → ∃ y : a.T, RepC w E a y ((cs.drop off).take a.size) := by
  intro a
  induction a with
  | unit => intro fs off xs ht hl hx hw; exact ⟨(), by simp [RepC, Ty.size]⟩
  | pair a b iha ihb =>
    intro fs off xs ht hl hx hw
    match fs, xs, hl with
    | f :: fs, x0 :: xs, hl =>
      simp only [tyB, Bool.and_eq_true] at ht
      obtain ⟨⟨⟨h1, h2⟩, h3⟩, h4⟩ := ht
      have h1 := Nat.eq_of_beq_eq_true h1
      have h0 := hx 0 f rfl
      simp only [List.getElem?_cons_zero] at h0
      have hsz := (cellsOf_eq h3).1
      rw [h1, hsz] at h0
      obtain ⟨y1, hy1⟩ := ih a f.type _ x0 h3 (fun m hm => hw m (by simp only [List.map_cons, DataW.weightsEach, List.mem_append]; exact .inl hm)) h0
      obtain ⟨y2, hy2⟩ := ihb fs (Nat.add off a.size) xs h4 (by simpa using hl) (fun i g hg => by simpa using hx (i + 1) g (by simpa using hg)) (fun m hm => hw m (by simp only [List.map_cons, DataW.weightsEach, List.mem_append]; exact .inr hm))
      refine ⟨(y1, y2), _, _, ?_, hy1, hy2⟩
      show (cs.drop off).take (a.size + b.size) = _
      rw [List.take_add, List.drop_drop]
      rfl
    | [], [], hl => simp [tyB] at ht
  | int k =>
    intro fs off xs ht hl hx hw
    obtain ⟨f, rfl⟩ := tyB_row (by simp) (by simp) ht
    obtain ⟨h1, h2⟩ := tyB_single (by simp) (by simp) ht
    match xs, hl with
    | [x0], hl =>
      have h0 := hx 0 f rfl
      rw [h1, (cellsOf_eq h2).1] at h0
      exact ih _ f.type _ x0 h2 (fun m hm => hw m (by simp only [List.map_cons, DataW.weightsEach, List.mem_append]; exact .inl hm)) h0
  | bool =>
    intro fs off xs ht hl hx hw
    obtain ⟨f, rfl⟩ := tyB_row (by simp) (by simp) ht
    obtain ⟨h1, h2⟩ := tyB_single (by simp) (by simp) ht
    match xs, hl with
    | [x0], hl =>
      have h0 := hx 0 f rfl
      rw [h1, (cellsOf_eq h2).1] at h0
      exact ih _ f.type _ x0 h2 (fun m hm => hw m (by simp only [List.map_cons, DataW.weightsEach, List.mem_append]; exact .inl hm)) h0
  | str =>
    intro fs off xs ht hl hx hw
    obtain ⟨f, rfl⟩ := tyB_row (by simp) (by simp) ht
    obtain ⟨h1, h2⟩ := tyB_single (by simp) (by simp) ht
    match xs, hl with
    | [x0], hl =>
      have h0 := hx 0 f rfl
      rw [h1, (cellsOf_eq h2).1] at h0
      exact ih _ f.type _ x0 h2 (fun m hm => hw m (by simp only [List.map_cons, DataW.weightsEach, List.mem_append]; exact .inl hm)) h0
  | st a _ =>
    intro fs off xs ht hl hx hw
    obtain ⟨f, rfl⟩ := tyB_row (by simp) (by simp) ht
    obtain ⟨h1, h2⟩ := tyB_single (by simp) (by simp) ht
    match xs, hl with
    | [x0], hl =>
      have h0 := hx 0 f rfl
      rw [h1, (cellsOf_eq h2).1] at h0
      exact ih _ f.type _ x0 h2 (fun m hm => hw m (by simp only [List.map_cons, DataW.weightsEach, List.mem_append]; exact .inl hm)) h0
  | arr k a _ =>
    intro fs off xs ht hl hx hw
    obtain ⟨f, rfl⟩ := tyB_row (by simp) (by simp) ht
    obtain ⟨h1, h2⟩ := tyB_single (by simp) (by simp) ht
    match xs, hl with
    | [x0], hl =>
      have h0 := hx 0 f rfl
      rw [h1, (cellsOf_eq h2).1] at h0
      exact ih _ f.type _ x0 h2 (fun m hm => hw m (by simp only [List.map_cons, DataW.weightsEach, List.mem_append]; exact .inl hm)) h0
  | sl b a _ =>
    intro fs off xs ht hl hx hw
    obtain ⟨f, rfl⟩ := tyB_row (by simp) (by simp) ht
    obtain ⟨h1, h2⟩ := tyB_single (by simp) (by simp) ht
    match xs, hl with
    | [x0], hl =>
      have h0 := hx 0 f rfl
      rw [h1, (cellsOf_eq h2).1] at h0
      exact ih _ f.type _ x0 h2 (fun m hm => hw m (by simp only [List.map_cons, DataW.weightsEach, List.mem_append]; exact .inl hm)) h0
theorem open_rep (hE : ∀ b k, k < w.heap.size → E b k) : ∀ (n : Nat) (t : Ty) (T : TypeId) (cs : List Value) (x : DataW H × List MemPlace), tyB P t (.inl T) = true → (∀ m ∈ x.1.weights P T, m ≤ reachBytes) →
    DataW.trod enc P w 0 (fun _ => true) true n T cs = some x → ∃ y : t.T, RepC w E t y cs := by
  intro n
  induction n with
  | zero => intro t T cs x _ _ h; simp [DataW.trod] at h
  | succ n ih =>
    intro t T cs x ht hw h
    cases t with
    | int k =>
      obtain ⟨m, rfl, rfl, hm⟩ := DataW.trod_int (tyB_int ht) h
      refine ⟨m, rfl, ?_⟩
      simp only [Lit.wf, Bool.and_eq_true, decide_eq_true_eq] at hm
      exact hm
    | bool =>
      obtain ⟨b, rfl, rfl⟩ := DataW.trod_bool (tyB_bool ht) h
      exact ⟨b, rfl⟩
    | str =>
      obtain ⟨s, rfl, rfl, hs⟩ := DataW.trod_string (tyB_str ht) h
      refine ⟨s.data.toList.map fun b => (b.toNat : Int), s, rfl, rfl, ?_⟩
      have := hw s.data.toList.length (by simp [DataW.weights])
      have h2 := reach_le this
      simpa using h2
    | unit => simp [tyB] at ht
    | pair a b => simp [tyB] at ht
    | st a =>
      obtain ⟨fs, hu, hr, _⟩ := tyB_st ht
      obtain ⟨xs, m, hm, rfl, hl, hxl, hx⟩ := DataW.trod_struct hu h
      obtain rfl : m = n := by omega
      obtain ⟨y, hy⟩ := open_row (cs := cs) ih a fs.toList 0 xs hr (by simpa using hxl) (fun i f hf => hx i f (by simpa using hf)) (fun q hq => hw q (by simp only [DataW.weights, hu]; exact hq))
      refine ⟨y, ?_⟩
      have hsz : cs.length = a.size := hl.trans (cellsOf_eq ht).1
      rw [List.drop_zero, ← hsz, List.take_length] at hy
      exact hy
    | arr k a =>
      obtain ⟨e, hu, hr, _⟩ := tyB_arr ht
      obtain ⟨xs, m, hm, rfl, hl, hxl, hx⟩ := DataW.trod_array hu h
      obtain rfl : m = n := by omega
      have hsz : cs.length = k * a.size := hl.trans (cellsOf_eq ht).1
      obtain ⟨ys, h1, h2⟩ := rows_RepL (R := RepC w E a) (sz := a.size) k cs hsz (fun i hi => by
        have h3 := hx i hi
        rw [(cellsOf_eq hr).1] at h3
        have hxi : xs[i]? = some (xs[i]'(by omega)) := List.getElem?_eq_getElem _
        rw [hxi] at h3
        exact ih a e _ _ hr (fun q hq => hw q (by
          simp only [DataW.weights, hu]
          exact weights_all_mem (i := i) (by rw [List.getElem?_map, hxi]; rfl) q hq)) h3)
      exact ⟨ys, h1, h2⟩
    | sl b a =>
      obtain ⟨e, hu, hr, hb⟩ := tyB_sl0 ht
      obtain ⟨hsz, hpos⟩ := cellsOf_eq hr
      rcases DataW.trod_slice hu h with ⟨rfl, rfl⟩ | ⟨ad, len, cap, elems, rest, m, hm, rfl, rfl, _, hlc, _, hel, helems, _, _⟩
      · exact ⟨[], none, 0, rfl, Nat.le_refl _, by simp [maxL], .inl rfl⟩
      · obtain rfl : m = n := by omega
        have hlen : len ≤ maxL := by
          have := hw ((elems.map (·.1)).length + (rest.map (·.1)).length |> (· * P.bytesOf e)) (by simp only [DataW.weights, hu]; exact List.mem_cons_self)
          simp only [List.length_map, hel] at this
          have h2 : len ≤ (len + rest.length) * P.bytesOf e := Nat.le_trans (by omega) (Nat.le_mul_of_pos_right _ hb)
          exact reach_le (Nat.le_trans h2 this)
        by_cases h0 : len = 0
        · subst h0
          exact ⟨[], some ad, cap, rfl, hlc, by simp [maxL], .inl rfl⟩
        · obtain ⟨blk, off, spot⟩ := ad
          have hcell : ∀ i, i < len → ∃ y cs', RepC w E a y cs' ∧ cs'.length = a.size ∧ ∀ j, j < a.size → w.cell? (((⟨blk, off, spot⟩ : Addr).add (i * a.size)).add j) = cs'[j]? := by
            intro i hi
            have h3 := helems i hi
            have hxi : elems[i]? = some (elems[i]'(by omega)) := List.getElem?_eq_getElem _
            rw [hxi, hsz] at h3
            obtain ⟨cs', h4, h5⟩ := Option.bind_eq_some_iff.1 h3
            obtain ⟨_, h6, h7⟩ := World.cells?_some h4
            obtain ⟨y, hy⟩ := ih a e _ _ hr (fun q hq => hw q (by
              simp only [DataW.weights, hu]
              refine List.mem_cons_of_mem _ (List.mem_append_left _ ?_)
              exact weights_all_mem (i := i) (by rw [List.getElem?_map, hxi]; rfl) q hq)) h5
            exact ⟨y, cs', hy, h6, h7⟩
          have hspot : spot = none ∧ blk < w.heap.size := by
            obtain ⟨y, cs', h1, h2, h3⟩ := hcell 0 (by omega)
            have h4 := h3 0 hpos
            have hc : cs'[0]? = some (cs'[0]'(by omega)) := List.getElem?_eq_getElem _
            rw [hc] at h4
            simp only [Nat.zero_mul, Addr.add, if_true] at h4
            refine ⟨by simpa using World.cell?_spot h4, ?_⟩
            unfold World.cell? at h4
            cases hb2 : w.heap[blk]? with
            | none => simp [hb2] at h4
            | some o => exact (Array.getElem?_eq_some_iff.1 hb2).1
          obtain ⟨rfl, hblk⟩ := hspot
          obtain ⟨ys, cs, g1, g2, g3⟩ := rows_Reads (w := w) (R := RepC w E a) (sz := a.size) (b := blk) (off := off) len 0 (fun i hi => by
            obtain ⟨y, cs', h1, h2, h3⟩ := hcell i hi
            refine ⟨y, cs', h1, h2, fun j hj => ?_⟩
            rw [← h3 j hj]
            congr 1
            rw [Nat.zero_add]
            unfold Addr.add
            by_cases h1 : i * a.size = 0 <;> by_cases h2 : j = 0 <;> simp [h1, h2] <;> omega)
          subst g1
          rw [Nat.zero_mul, Nat.add_zero] at g3
          exact ⟨ys, _, cap, rfl, hlc, hlen, .inr ⟨blk, off, cs, rfl, hE b blk hblk, g2, g3⟩⟩
end
end Go.Xr
namespace Go.Xr
open Go
def Ty.ok : (t : Ty) → t.T → Prop
  | .int k, x => k.has x
  | .bool, _ => True
  | .str, x => (∀ y ∈ (x : List Int), 0 ≤ y ∧ y ≤ 255) ∧ List.length x ≤ maxL
  | .unit, _ => True
  | .pair a b, x => a.ok (pFst x) ∧ b.ok (pSnd x)
  | .st a, x => a.ok x
  | .arr n a, x => List.length x = n ∧ ∀ y ∈ (x : List a.T), a.ok y
  | .sl _ a, x => List.length x ≤ maxL ∧ ∀ y ∈ (x : List a.T), a.ok y
def HL.ok : (ts : List Ty) → HL ts → Prop
  | [], _ => True
  | t :: ts, d => t.ok (pFst d) ∧ HL.ok ts (pSnd d)
def HL.avs : (ts : List Ty) → HL ts → List AV
  | [], _ => [] | t :: ts, d => .pv t (pFst d) :: HL.avs ts (pSnd d)
section
variable {w : World} {E : Bool → Nat → Prop} {I : Nat → Option BI}
theorem RepL.all {α : Type} {R : α → List Value → Prop} {P : α → Prop} (h : ∀ x cs, R x cs → P x) : ∀ (xs : List α) (cs : List Value), RepL R xs cs → ∀ y ∈ xs, P y
  | x :: xs, cs, ⟨c1, c2, e, h1, h2⟩, y, hy => by
    rcases List.mem_cons.1 hy with rfl | hy
    · exact h _ _ h1
    · exact RepL.all h xs c2 h2 y hy
  | [], _, _, y, hy => by cases hy
theorem RepC.tok : ∀ (t : Ty) (x : t.T) (cs : List Value), RepC w E t x cs → t.ok x
  | .int k, x, cs, h => h.2
  | .bool, x, cs, h => trivial
  | .str, x, cs, ⟨s, _, h1, h2⟩ => by
    subst h1
    refine ⟨fun y hy => ?_, by simpa using h2⟩
    obtain ⟨z, _, rfl⟩ := List.mem_map.1 hy
    have := z.toNat_lt
    omega
  | .unit, x, cs, h => trivial
  | .pair a b, x, cs, ⟨c1, c2, e, h1, h2⟩ => ⟨RepC.tok a _ c1 h1, RepC.tok b _ c2 h2⟩
  | .st a, x, cs, h => RepC.tok a x cs h
  | .arr n a, x, cs, ⟨e, h⟩ => ⟨e, RepL.all (RepC.tok a) x cs h⟩
  | .sl b a, x, cs, ⟨ad, cap, e, _, h1, h2⟩ => by
    refine ⟨h1, ?_⟩
    rcases h2 with h2 | ⟨blk, off, cs', _, _, h3, _⟩
    · intro y hy
      rw [List.length_eq_zero_iff.1 h2] at hy
      cases hy
    · exact RepL.all (RepC.tok a) x cs' h3
theorem avs_ok : ∀ (ts : List Ty) (d : HL ts) (us : List Value), AVRL w E I (HL.avs ts d) us → HL.ok ts d
  | [], _, _, _ => trivial
  | t :: ts, d, us, h => by
    obtain ⟨u, q, rfl, h1, h2⟩ := AVRL_cons.1 h
    simp only [AVR] at h1
    obtain ⟨cs, h3, _⟩ := h1
    exact ⟨RepC.tok t _ cs h3, avs_ok ts _ q h2⟩
end
end Go.Xr
namespace Go.Xr
open Go Go.ChangeShapes Go.WideShapes
section
variable {H : Type} {enc : TypeId × Value → H} {P : Program} {K : Kit} {w w' : World} {E : Bool → Nat → Prop}
def PureT (P : Program) (T : TypeId) : Prop := ∃ t, tyB P t (.inl T) = true
theorem row_kids : ∀ (a : Ty) (fs : List Field) (off : Nat), tyB P a (.inr (fs, off)) = true →
    (∀ f ∈ fs, PureT P f.type) ∧ a.size = (fs.map fun f => P.cellsOf f.type).sum ∧ ∀ (j : Nat) f, fs[j]? = some f → f.offset = off + ((fs.take j).map fun f => P.cellsOf f.type).sum := by
  intro a
  have one : ∀ (t : Ty) (fs : List Field) (off : Nat), t ≠ .unit → (∀ a b, t ≠ .pair a b) → tyB P t (.inr (fs, off)) = true →
      (∀ f ∈ fs, PureT P f.type) ∧ t.size = (fs.map fun f => P.cellsOf f.type).sum ∧ ∀ (j : Nat) f, fs[j]? = some f → f.offset = off + ((fs.take j).map fun f => P.cellsOf f.type).sum := by
    intro t fs off h1 h2 h
    obtain ⟨f, rfl⟩ := tyB_row h1 h2 h
    obtain ⟨h3, h4⟩ := tyB_single h1 h2 h
    refine ⟨fun g hg => ?_, ?_, fun j g hg => ?_⟩
    · simp at hg; subst hg; exact ⟨t, h4⟩
    · simp [(cellsOf_eq h4).1]
    · cases j with
      | zero => simp at hg; subst hg; simp [h3]
      | succ j => simp at hg
  induction a with
  | unit =>
    intro fs off h
    match fs with
    | [] => exact ⟨by simp, by simp [Ty.size], by simp⟩
    | f :: r => simp [tyB] at h
  | pair a b iha ihb =>
    intro fs off h
    match fs with
    | [] => simp [tyB] at h
    | f :: fs =>
      simp only [tyB, Bool.and_eq_true] at h
      obtain ⟨⟨⟨h1, h2⟩, h3⟩, h4⟩ := h
      have h1 := Nat.eq_of_beq_eq_true h1
      obtain ⟨k1, k2, k3⟩ := ihb fs _ h4
      have hc := (cellsOf_eq h3).1
      refine ⟨fun g hg => ?_, ?_, fun j g hg => ?_⟩
      · rcases List.mem_cons.1 hg with rfl | hg
        · exact ⟨a, h3⟩
        · exact k1 g hg
      · show a.size + b.size = _
        rw [k2]; simp [hc]
      · cases j with
        | zero => simp at hg; subst hg; simp [h1]
        | succ j =>
          rw [k3 j g (by simpa using hg)]
          show off + a.size + _ = _
          simp [hc, Nat.add_assoc]
  | int k => exact fun fs off h => one _ fs off (by simp) (by simp) h
  | bool => exact fun fs off h => one _ fs off (by simp) (by simp) h
  | str => exact fun fs off h => one _ fs off (by simp) (by simp) h
  | st a _ => exact fun fs off h => one _ fs off (by simp) (by simp) h
  | arr k a _ => exact fun fs off h => one _ fs off (by simp) (by simp) h
  | sl b a _ => exact fun fs off h => one _ fs off (by simp) (by simp) h
theorem pure_under {t : Ty} {T : TypeId} (h : tyB P t (.inl T) = true) : (∃ k, P.underlying T = some (.int k)) ∨ P.underlying T = some .bool ∨ P.underlying T = some .string ∨
    (∃ a fs, t = .st a ∧ P.underlying T = some (.struct fs) ∧ tyB P a (.inr (fs.toList, 0)) = true) ∨ (∃ n a e, t = .arr n a ∧ P.underlying T = some (.array n e) ∧ tyB P a (.inl e) = true) ∨ (∃ b a e, t = .sl b a ∧ P.underlying T = some (.slice e) ∧ tyB P a (.inl e) = true) := by
  cases t with
  | int k => exact .inl ⟨k, tyB_int h⟩
  | bool => exact .inr (.inl (tyB_bool h))
  | str => exact .inr (.inr (.inl (tyB_str h)))
  | unit => simp [tyB] at h
  | pair a b => simp [tyB] at h
  | st a => obtain ⟨fs, hu, hr, _⟩ := tyB_st h; exact .inr (.inr (.inr (.inl ⟨a, fs, rfl, hu, hr⟩)))
  | arr n a => obtain ⟨e, hu, hr, _⟩ := tyB_arr h; exact .inr (.inr (.inr (.inr (.inl ⟨n, a, e, rfl, hu, hr⟩))))
  | sl b a => obtain ⟨e, hu, hr⟩ := tyB_sl h; exact .inr (.inr (.inr (.inr (.inr ⟨b, a, e, rfl, hu, hr⟩))))
theorem pure_kids : Kids P (PureT P) where
  pointer := fun {t e} ⟨ty, h⟩ hu => by
    rcases pure_under h with ⟨k, h1⟩ | h1 | h1 | ⟨_, _, _, h1, _⟩ | ⟨_, _, _, _, h1, _⟩ | ⟨_, _, _, _, h1, _⟩ <;> rw [hu] at h1 <;> cases h1
  slice := fun {t e} ⟨ty, h⟩ hu => by
    rcases pure_under h with ⟨k, h1⟩ | h1 | h1 | ⟨_, _, _, h1, _⟩ | ⟨_, _, _, _, h1, _⟩ | ⟨_, a, e', _, h1, h2⟩ <;> rw [hu] at h1 <;> cases h1
    exact ⟨a, h2⟩
  array := fun {t e n} ⟨ty, h⟩ hu => by
    rcases pure_under h with ⟨k, h1⟩ | h1 | h1 | ⟨_, _, _, h1, _⟩ | ⟨m, a, e', e1, h1, h2⟩ | ⟨_, _, _, _, h1, _⟩ <;> rw [hu] at h1 <;> cases h1
    refine ⟨⟨a, h2⟩, ?_⟩
    rw [(cellsOf_eq h).1, (cellsOf_eq h2).1, e1]
    rfl
  struct := fun {t fs} ⟨ty, h⟩ hu => by
    rcases pure_under h with ⟨k, h1⟩ | h1 | h1 | ⟨a, fs', e1, h1, h2⟩ | ⟨_, _, _, _, h1, _⟩ | ⟨_, _, _, _, h1, _⟩ <;> rw [hu] at h1 <;> cases h1
    obtain ⟨k1, k2, k3⟩ := row_kids a fs.toList 0 h2
    refine ⟨k1, ?_, fun j f hf => ?_⟩
    · rw [(cellsOf_eq h).1, e1]; exact k2
    · rw [k3 j f hf, Nat.zero_add]
  map := fun {t k e} ⟨ty, h⟩ hu => by
    rcases pure_under h with ⟨k, h1⟩ | h1 | h1 | ⟨_, _, _, h1, _⟩ | ⟨_, _, _, _, h1, _⟩ | ⟨_, _, _, _, h1, _⟩ <;> rw [hu] at h1 <;> cases h1
theorem trod_again {n : Nat} {T : TypeId} {cs : List Value} {x : DataW H × List MemPlace} {sp : Nat → Bool} (ht : PureT P T) (h : DataW.trod enc P w 0 (fun _ => true) true n T cs = some x)
    (hw : ∀ k, k < w.heap.size → w'.heap[k]? = w.heap[k]?) (hs : ∀ p ∈ x.2, sp p.block = true) : DataW.trod enc P w' 0 sp true n T cs = some x := by
  refine DataW.trod_stays pure_kids (fun {t e} ⟨ty, h1⟩ hu => ?_) (fun e => by cases e) ht h (fun p hp => ?_) hs
  · have hlt := DataW.trod_lt n T cs x h p hp
    cases p with
    | cell b off => exact World.cell?_of_block (hw b hlt)
    | map b => exact hw b hlt
  · rcases pure_under h1 with ⟨k, h2⟩ | h2 | h2 | ⟨_, _, _, h2, _⟩ | ⟨_, _, _, _, h2, _⟩ | ⟨_, a, e', _, h2, h3⟩ <;> rw [hu] at h2 <;> cases h2
    have := cellsOf_eq h3
    omega
theorem trodAll_again {sp : Nat → Bool} (hw : ∀ k, k < w.heap.size → w'.heap[k]? = w.heap[k]?) : ∀ {ts : List TypeId} {vs : List Value} {ds : List (DataW H)} {ps : List MemPlace}, (∀ t ∈ ts, PureT P t) →
    DataW.TrodAll enc P w 0 (fun _ => true) true ts vs ds ps → (∀ p ∈ ps, sp p.block = true) → DataW.TrodAll enc P w' 0 sp true ts vs ds ps
  | [], vs, ds, ps, _, h, _ => by
    obtain ⟨rfl, rfl, rfl⟩ := trodAll_nil h
    exact rfl
  | t :: ts, vs, ds, ps, ht, h, hs => by
    obtain ⟨v, vs1, d, ds1, a, b, rfl, rfl, rfl, ⟨n, h1⟩, h2⟩ := trodAll_cons h
    exact ⟨a, b, ⟨n, trod_again (ht t (by simp)) h1 hw (fun p hp => hs p (List.mem_append_left _ hp))⟩, trodAll_again hw (fun t' h' => ht t' (List.mem_cons_of_mem _ h')) h2 (fun p hp => hs p (List.mem_append_right _ hp)), rfl⟩
def tysB (P : Program) : List TypeId → List Ty → Bool
  | [], [] => true
  | T :: Ts, t :: ts => tyB P t (.inl T) && tysB P Ts ts
  | _, _ => false
theorem isV_of {t : Ty} {T : TypeId} (h : tyB P t (.inl T) = true) {base : Nat} {v : Value} (hv : Value.okWide P w .any base T v) : IsV t.isAgg v.cells.toList v := by
  unfold Value.okWide at hv
  have hnon : Cell.okWide P w .any base T v → (∃ k, P.underlying T = some (.int k)) ∨ P.underlying T = some .bool ∨ P.underlying T = some .string ∨ (∃ e, P.underlying T = some (.slice e)) → v.cells = #[v] := by
    intro h1 h2
    unfold Cell.okWide Cell.ok at h1
    rcases h2 with ⟨k, h2⟩ | h2 | h2 | ⟨e, h2⟩ <;> rw [h2] at h1 <;> cases v <;> simp_all [Value.cells]
  rcases pure_under h with ⟨k, h1⟩ | h1 | h1 | ⟨a, fs, rfl, h1, _⟩ | ⟨n, a, e, rfl, h1, _⟩ | ⟨b, a, e, rfl, h1, _⟩
  · rw [h1] at hv
    have ha : t.isAgg = false := by cases t <;> first | rfl | (obtain ⟨fs, hu, _⟩ := tyB_st h; rw [h1] at hu; cases hu) | (obtain ⟨fs, hu, _⟩ := tyB_arr h; rw [h1] at hu; cases hu)
    rw [ha, hnon hv (.inl ⟨k, h1⟩)]
    rfl
  · rw [h1] at hv
    have ha : t.isAgg = false := by cases t <;> first | rfl | (obtain ⟨fs, hu, _⟩ := tyB_st h; rw [h1] at hu; cases hu) | (obtain ⟨fs, hu, _⟩ := tyB_arr h; rw [h1] at hu; cases hu)
    rw [ha, hnon hv (.inr (.inl h1))]
    rfl
  · rw [h1] at hv
    have ha : t.isAgg = false := by cases t <;> first | rfl | (obtain ⟨fs, hu, _⟩ := tyB_st h; rw [h1] at hu; cases hu) | (obtain ⟨fs, hu, _⟩ := tyB_arr h; rw [h1] at hu; cases hu)
    rw [ha, hnon hv (.inr (.inr (.inl h1)))]
    rfl
  · rw [h1] at hv
    obtain ⟨cs, rfl, _⟩ := hv
    simp [IsV, Ty.isAgg, Value.cells]
  · rw [h1] at hv
    obtain ⟨cs, rfl, _⟩ := hv
    simp [IsV, Ty.isAgg, Value.cells]
  · rw [h1] at hv
    rw [hnon hv (.inr (.inr (.inr ⟨e, h1⟩)))]
    rfl
theorem args_open (hK : KitOK P K) (hE : ∀ b k, k < w.heap.size → E b k) {I : Nat → Option BI} {base : Nat} : ∀ (Ts : List TypeId) (pts : List Ty) (vs : List Value) (ds : List (DataW H)) (ps : List MemPlace), tysB P Ts pts = true →
    (∀ (j : Nat) t v, Ts[j]? = some t → vs[j]? = some v → Value.okWide P w .any base t v) → (∀ m ∈ DataW.weightsEach P Ts ds, m ≤ reachBytes) → DataW.TrodAll enc P w 0 (fun _ => true) true Ts vs ds ps →
    (∃ d : HL pts, AVRL w E I (HL.avs pts d) vs) ∧ ds.length = Ts.length ∧ vs.length = Ts.length ∧ ∀ t ∈ Ts, PureT P t
  | [], [], vs, ds, ps, _, _, _, h => by
    obtain ⟨rfl, rfl, rfl⟩ := trodAll_nil h
    exact ⟨⟨(), AVRL_nil.2 rfl⟩, rfl, rfl, by simp⟩
  | T :: Ts, t :: pts, vs, ds, ps, htys, hok, hw, h => by
    obtain ⟨v, vs1, d, ds1, a, b, rfl, rfl, rfl, ⟨n, h1⟩, h2⟩ := trodAll_cons h
    simp only [tysB, Bool.and_eq_true] at htys
    obtain ⟨hT, k2⟩ := htys
    obtain ⟨y, hy⟩ := open_rep hE n t T _ _ hT (fun m hm => hw m (by simp only [DataW.weightsEach, List.mem_append]; exact .inl hm)) h1
    obtain ⟨⟨d', hd'⟩, e2, e3, e4⟩ := args_open hK hE (I := I) Ts pts vs1 ds1 b k2 (fun j t v ht hv => hok (j + 1) t v (by simpa using ht) (by simpa using hv)) (fun m hm => hw m (by simp only [DataW.weightsEach, List.mem_append]; exact .inr hm)) h2
    refine ⟨⟨(y, d'), AVRL_cons.2 ⟨v, vs1, rfl, ?_, hd'⟩⟩, by simp [e2], by simp [e3], fun t' ht' => ?_⟩
    · show AVR w E I (.pv t y) v
      simp only [AVR]
      exact ⟨_, hy, isV_of hT (hok 0 T v rfl rfl)⟩
    · rcases List.mem_cons.1 ht' with rfl | ht'
      · exact ⟨t, hT⟩
      · exact e4 t' ht'
  | [], _ :: _, _, _, _, htys, _, _, _ => by simp [tysB] at htys
  | _ :: _, [], _, _, _, htys, _, _, _ => by simp [tysB] at htys
def boolEnd (e : Ex) : PO PB := match e with
  | .ret [.pv .bool b] => pOpt (some b)
  | .ret [.lit b] => pOpt (some (pB b))
  | _ => pOpt none
noncomputable def lawTree (K : Kit) (l : List Smry) (hn : Hn) (f : FuncId) (args : List AV) : Tree :=
  match K.fn f with
  | none => .fail
  | some (nt, res, code) => denC (K.withPf l []) (runN (K.withPf l []) 8) (callS l) none (K.vars f) res code hn { tm := List.append args (repL .undef (Nat.sub nt (len args))), bx := [], env := [], benv := [], base := 1, nx := 2, up := [] }
noncomputable def lawRun (K : Kit) (l : List Smry) (hn : Hn) (f : FuncId) (args : List AV) : PO PB := (lawTree K l hn f args).run fun e _ => boolEnd e
theorem hf_wide : HF Fence.wide := ⟨fun _ => trivial, rfl⟩
def SameOld (w w' : World) : Prop := w'.os = w.os ∧ w'.output = w.output ∧ w.heap.size ≤ w'.heap.size ∧ ∀ k, k < w.heap.size → w'.heap[k]? = w.heap[k]?
theorem law_calls (hK : KitOK P K) {l : List Smry} (hl : ∀ S ∈ l, S.OK P) {hn : Hn} {f : FuncId} {as : List AV} {args : Array Value}
    (hargs : AVRL w (fun _ k => k < w.heap.size) (fun _ => none) as args.toList) (hrun : lawRun K l hn f as = some true) :
    Calls P f args w fun e w' => e = .returned (.bool true) ∧ SameOld w w' := by
  unfold lawRun at hrun
  have hsat := Tree.run_sat _ hrun
  unfold lawTree at hsat
  split at hsat
  · exact hsat.elim
  · rename_i nt res code hfn
    obtain ⟨fn, hf, hnt, hres, hbody, hname⟩ := hK.fn f nt res code hfn
    let c0 : Cx := { w := w, fz := fun k => k < w.heap.size, bo := fun _ => False, ρ := fun _ => none, lp := fun _ => none, mks := fun _ => False }
    let b0 : Base := { w0 := w, own0 := fun _ => False, fz0 := fun k => k < w.heap.size, bo0 := fun _ => False, lp0 := fun _ => none, mk0 := fun _ => False }
    generalize hs1 : ({ tm := List.append as (repL .undef (Nat.sub nt (len as))), bx := [], env := [], benv := [], base := 1, nx := 2, up := [] } : AS) = s1 at hsat
    generalize ha1 : ({ tmps := args ++ Array.replicate (fn.ntmps - args.size) undef, defers := [] } : Act) = a1
    have hbox : ∀ i, s1.box i = none := fun i => by subst hs1; rfl
    have hI1 : c0.I s1 = fun _ => none := by funext i; unfold Cx.I; rw [hbox]; rfl
    have hargs' : AVRL c0.w c0.E (c0.I s1) as args.toList := by
      rw [hI1]
      exact AVRL.mono (fun b k hk => ⟨.inl hk, rfl⟩) _ _ (fun i _ => .inl rfl) hargs
    have hlen := AVRL_len as args.toList hargs'
    have h1 : St c0 [] s1 a1 := by
      refine ⟨?_, by rw [← ha1]; exact ⟨[], List.nodup_nil, rfl, fun r hr => by cases hr⟩, ?_, fun i b hi => ?_, fun i j x y hi => (hi (hbox i)).elim, fun i x hi => (hi (hbox i)).elim, fun k hk => hk.elim id (fun h => h.elim), fun r hr => hr.elim, fun i d hd => by cases hd⟩
      · intro k v hv
        have htm : s1.tm = as ++ repL .undef (Nat.sub nt (len as)) := by rw [← hs1]; rfl
        rw [htm] at hv
        have htmps : a1.tmps = args ++ Array.replicate (fn.ntmps - args.size) undef := by rw [← ha1]
        rw [htmps]
        rcases nth_append _ _ k v hv with h2 | ⟨h2, h3⟩
        · obtain ⟨u, h3, h4⟩ := AVRL_nth as args.toList k v hargs' h2
          have hk : k < args.toList.length := by rw [← hlen]; exact nth_lt _ _ _ h2
          have hk' : k < args.size := by simpa using hk
          refine ⟨by simp; omega, ?_⟩
          rw [show s1.rv v = v from AS.rv_of h4]
          have : (args ++ Array.replicate (fn.ntmps - args.size) undef).getD k undef = u := by
            rw [Array.getD_eq_getD_getElem?, Array.getElem?_append_left hk', ← Array.getElem?_toList, h3]
            rfl
          rw [this]
          exact h4
        · obtain ⟨e, h4⟩ := nth_repL _ _ _ h3
          subst e
          refine ⟨?_, by simp only [AS.rv, AVR]⟩
          rw [len_eq] at h4
          have h5 : k - as.length < nt - as.length := h4
          have h6 : as.length = args.size := by simpa using hlen
          simp
          omega
      · have : s1.up = [] := by rw [← hs1]
        rw [this]; rfl
      · rw [hbox] at hi; cases hi
    have hfr1 : Fr b0 c0 s1 := ⟨rfl, rfl, rfl, Nat.le_refl _, fun _ _ _ => rfl, fun i x hi => (hi (hbox i)).elim, fun k hk => .inl hk, fun k hk => hk, fun k => Iff.rfl, rfl, fun r hr => hr.elim, fun r hr => hr.elim, fun _ _ => rfl⟩
    subst hres
    have hcode := denC_sound (n := 0) (rd := none) (hK.withPf l []) (runN_sound (hK.withPf l []) 8).1 (runN_sound (hK.withPf l []) 8).2 callS_ext (vars := K.vars f) (res := fn.results.toList) code hn hf_wide rfl (callS_sound (pf := (K.withPf l []).pf) hl fun f hf => (pfOf_spec (il := []) hf).2) h1 hfr1 hsat
    have hold : ∀ {c : Cx} {s : AS}, Fr b0 c s → SameOld w c.w := fun h => ⟨h.os, h.output, h.size, fun k hk => h.block k hk (fun h => h)⟩
    have key : CallsIn Fence.wide 0 P f args w fun e w' => e = .returned (.bool true) ∧ SameOld w w' := by
      rw [← ha1] at hcode
      refine CallsIn.mono (calls_of_wp (b := b0) (us := []) (Q := fun e s => boolEnd e = some true) hK hf_wide rfl hf hbody (fun k hk => hk) (wpIn_mono hcode (AbsE.mono fun e s k1 => ?_))) ?_
      · cases e with
        | ret vs => exact k1
        | normal => cases k1
        | exit _ => cases k1
      · rintro e w' ⟨c', s2, vs2, rs, a2, rfl, k1, k2, k3, k5, rfl⟩
        refine ⟨?_, hold k3⟩
        unfold boolEnd at k1
        split at k1
        · rename_i b heq
          cases heq
          simp only [pOpt, Option.some.injEq] at k1
          obtain ⟨u, q, rfl, q1, q2⟩ := AVRL_cons.1 k5
          rw [AVRL_nil.1 q2, AVR_bool.1 q1, k1]
          rfl
        · rename_i b heq
          cases heq
          simp only [pOpt, Option.some.injEq] at k1
          obtain ⟨u, q, rfl, q1, q2⟩ := AVRL_cons.1 k5
          rw [AVRL_nil.1 q2, AVR_lit.1 q1, show b = true from k1]
          rfl
        · cases k1
    exact CallsIn.calls key room_wide
theorem post_same {f : Func} {s : ChangeSpec} {apart fresh handsOn again : Bool} {W W' : World} {args : Array Value} {v : Value} {ds gs : List (DataW H)} {before pa pv : List MemPlace}
    (hW : DataW.Whole enc P f.params.toList s.vars apart W args.toList ds gs before)
    (hres : ∀ (b : Nat) (sp : Nat → Bool) (hd : Bool), DataW.TrodAll enc P W' b sp hd f.resultTypes.toList (v.resultList f.resultTypes.size) (s.fn H (ds ++ gs)).results [])
    (hargs : ∀ sp : Nat → Bool, (∀ p ∈ before, sp p.block = true) → DataW.TrodAll enc P W' 0 sp true f.params.toList args.toList (s.fn H (ds ++ gs)).args pa)
    (hvars : ∀ sp : Nat → Bool, (∀ p ∈ before, sp p.block = true) → DataW.TrodVars enc P W' sp s.vars (s.fn H (ds ++ gs)).vars pv)
    (hps : before = pa ++ pv) (hk : W.keptBut W' (· ∈ before)) (hfz : ∀ a, a.block < W.heap.size → W'.frozen? a = W.frozen? a)
    (hok : ∀ (j : Nat) (t : TypeId) (r : Value), f.resultTypes[j]? = some t → (v.resultList f.resultTypes.size)[j]? = some r → Value.okWide P W' .any 0 t r) :
    s.post enc P f apart fresh handsOn again W args v W' := by
  have hold : ∀ p ∈ before, (fun b => decide (b < W.heap.size)) p.block = true := fun p hp => by simpa using hW.lt p hp
  have hlt := hW.lt
  refine ⟨ds, gs, before, [], pa, pv, hW, hres _ _ _, hargs _ hold, hvars _ hold, World.keptBut_mono (fun p hp => ⟨hp, ?_⟩) hk, fun _ => ?_⟩
  · rw [hps, List.mem_append] at hp
    exact Or.inr hp
  · obtain ⟨_, _, _, _, _, hz, hn⟩ := hW
    refine ⟨hok, _, _, ([] ++ pa) ++ pv, ⟨[] ++ pa, pv, trodAll_append (hargs _ (fun _ _ => rfl)) (hres _ _ _), hvars _ (fun _ _ => rfl), rfl, ?_, ?_⟩, ?_⟩
    · intro b off hp
      have hm : MemPlace.cell b off ∈ before := by rw [hps]; simpa using hp
      rw [hfz _ (hlt _ hm)]
      exact hz b off hm
    · intro ha
      have := hn ha
      rw [hps] at this
      simpa using this
    · intro p hp _
      rw [hps]
      simpa using hp
theorem keptBut_of (h : SameOld w w') (may : MemPlace → Prop) : w.keptBut w' may := by
  refine ⟨h.1, h.2.1, fun i hi => ?_⟩
  have e := h.2.2.2 i hi
  have hx : w.heap[i]? = some (w.heap[i]'hi) := Array.getElem?_eq_getElem hi
  rw [e, hx]
  cases w.heap[i]'hi <;> first | exact ⟨rfl, rfl, rfl, fun _ _ => rfl⟩ | exact .inr ⟨rfl, rfl⟩ | rfl
theorem frozen_of (h : SameOld w w') : ∀ a : Addr, a.block < w.heap.size → w'.frozen? a = w.frozen? a := fun a ha => by
  unfold World.frozen?
  rw [h.2.2.2 _ ha]
theorem law_contract (hK : KitOK P K) {l : List Smry} (hl : ∀ S ∈ l, S.OK P) {hn : Hn} {f : FuncId} {fn : Func} {pts : List Ty} {s : ChangeSpec} {bt : TypeId}
    (htys : tysB P fn.params.toList pts = true) (hr : fn.resultTypes = #[bt]) (hbt : P.underlying bt = some .bool) (hv : s.vars = []) (hfn : ∀ ds : List (DataW H), ds.length = fn.params.size → s.fn H ds = { results := [.lit (.bool true)], args := ds })
    (hrun : ∀ d : HL pts, HL.ok pts d → lawRun K l hn f (HL.avs pts d) = some true) {apart fresh handsOn again : Bool}
    (W : World) (base : Nat) (args : Array Value) (ds gs : List (DataW H)) (before : List MemPlace)
    (hval : ∀ (j : Nat) t v, fn.params[j]? = some t → args[j]? = some v → Value.okWide P W .any base t v)
    (hW : DataW.Whole enc P fn.params.toList s.vars apart W args.toList ds gs before)
    (hwt : (DataW.weightsEach P (fn.params.toList ++ s.plain.varTypes P) (ds ++ gs)).all (· ≤ reachBytes) = true) :
    Calls P f args W fun e W' => ∃ v, e = .returned v ∧ s.post enc P fn apart fresh handsOn again W args v W' := by
  have hW' := hW
  obtain ⟨p, q, hA, hV, rfl, hfz, hnd⟩ := hW
  rw [hv] at hV
  obtain ⟨rfl, rfl⟩ := trodVars_none hV
  have hvt : s.plain.varTypes P = [] := by
    simp [ChangeSpec.plain, DataSpec.varTypes, hv]
  rw [hvt, List.append_nil, List.append_nil] at hwt
  obtain ⟨⟨d, hd⟩, e1, e2, e3⟩ := args_open (E := fun _ k => k < W.heap.size) (I := fun _ => none) hK (fun b k hk => hk) fn.params.toList pts args.toList ds p htys (fun j t v h1 h2 => hval j t v (by simpa using h1) (by simpa using h2)) (fun m hm => by simpa using List.all_eq_true.1 hwt m hm) hA
  refine (law_calls hK hl hd (hrun d (avs_ok _ d _ hd))).mono fun e W' ⟨he, hg⟩ => ?_
  subst he
  have hdl : ds.length = fn.params.size := by simpa using e1
  have hsf : s.fn H (ds ++ []) = { results := [.lit (.bool true)], args := ds } := by rw [List.append_nil]; exact hfn ds hdl
  have hrl : (Value.bool true).resultList fn.resultTypes.size = [.bool true] := by rw [hr]; rfl
  refine ⟨_, rfl, post_same (pa := p) (pv := []) hW' (fun b sp hd => ?_) (fun sp hsp => ?_) (fun sp _ => ?_) (by simp) (keptBut_of hg _) (frozen_of hg) (fun j t r h1 h2 => ?_)⟩
  · rw [hsf, hrl, hr]
    exact trodAll_cons_mk (RowKit.shut_bool hbt _) trodAll_mk0
  · rw [hsf]
    exact trodAll_again hg.2.2.2 e3 hA (fun p hp => hsp p (by simpa using hp))
  · rw [hsf, hv]
    rfl
  · rw [hr] at h1
    rw [hrl] at h2
    match j, h1, h2 with
    | 0, h1, h2 =>
      simp at h1 h2
      subst h1; subst h2
      exact RowKit.okWide_bool_mk hbt _
end
end Go.Xr
namespace Go.Xr
open Go
section
variable {F : Fence} {n : Nat} {P : Program} {K : Kit} {o : Oper} {a : Act} {w w' : World} {Qx : Exit → Act → World → Prop} {u : Value}
variable {b : Base} {us : List (Array Value)} {c c' : Cx} {s s' s0 : AS} {Q : Ex → AS → Prop} {T : TypeId}
theorem callI_ext {l : List Smry} {il : List (FuncId × Hn)} (hK : KitOK P K) : ∀ (k : Nat) (o : Oper) (v : AV) (as : List AV) (s : AS), (callI K l il k o v as s).All (EX s)
  | 0, o, v, as, s => callS_ext o v as s
  | k + 1, o, v, as, s => by
    unfold callI
    split
    · rename_i f cs
      split
      · rename_i h _
        refine Tree.all_bind _ (Tree.All.mono ?_ _ ((runN_sound hK 8).2 f h _ _ (callI_ext hK k)))
        intro e s' hx
        have hx : Ext s s' := Ext.trans (Ext.of rfl rfl) hx
        split
        · rename_i vs ft up hup
          exact Tree.All.mono (fun e s'' h' => hx.trans (Ext.trans (Ext.of rfl rfl) h')) _ (ret_all (s := { s' with tm := ft, up := up, base := s.base }) rfl rfl)
        · exact trivial
      · exact callS_ext o _ as s
    · exact callS_ext o _ as s
theorem St.rebase (h : St c us s a) (x y : Nat) : St c us { s with base := x, nx := y } a := ⟨h.tm, h.df, h.up, h.bx, h.inj, h.own, h.lt, h.mks, h.lv⟩
theorem row_of_args {E : Bool → Nat → Prop} {I : Nat → Option BI} (s : AS) : ∀ (as : List AV) (us : List Value), AVRL w E I as us → RowOK w E I s.rv as us.toArray := by
  intro as us h k v hk
  have key : ∀ (as : List AV) (us : List Value), AVRL w E I as us → ∀ k v, nth as k = some v → k < us.length ∧ ∃ u, us[k]? = some u ∧ AVR w E I v u := by
    intro as
    induction as with
    | nil => intro us _ k v hk; cases hk
    | cons x as ih =>
      intro us hv k v hk
      obtain ⟨u, q, rfl, j1, j2⟩ := AVRL_cons.1 hv
      cases k with
      | zero => simp only [nth, Option.some.injEq] at hk; subst hk; exact ⟨by simp, u, rfl, j1⟩
      | succ k =>
        obtain ⟨m1, u', m2, m3⟩ := ih q j2 k v hk
        exact ⟨by simp; omega, u', by simpa using m2, m3⟩
  obtain ⟨m1, u', m2, m3⟩ := key _ _ h k v hk
  refine ⟨by simpa using m1, ?_⟩
  rw [rv_of_avr s v u' m3]
  have : us.toArray.getD k undef = u' := by rw [Array.getD_eq_getD_getElem?]; simp [m2]
  rw [this]
  exact m3
theorem callI_sound (hK : KitOK P K) {l : List Smry} (hl : ∀ S ∈ l, S.OK P) {il : List (FuncId × Hn)} (hpf : ∀ f, K.pf f = true → lookupN il f = none ∧ ∀ S ∈ l, S.f = f → S.σ.bx = []) : ∀ (k : Nat) {L : Nat → Option LD} {us0 : List (Array Value)}, CallSound K.pf P L us0 (callI K l il k)
  | 0, L, us0 => callS_sound hl fun f hf => (hpf f hf).2
  | k + 1, L, us0 => by
    intro F n pre b hF hLb o cl x a c s us Q Qx hus ho hcal h hfr hs
    have plain : (callS l o (s.ev x) (cl.args.toList.map s.ev) s).sat Q → o.wpIn F n P a c.w (fun a' w' => (∀ f, x = .func f → K.pf f = true → Keeps c.w w') ∧ Abs b us Q a' w') Qx := fun hs => callS_sound hl (fun f hf => (hpf f hf).2) (L := L) (us0 := us0) F n pre b hF hLb hus ho hcal h hfr hs
    unfold callI at hs
    have hx := h.ev x
    split at hs
    · rename_i f cs hX
      split at hs
      · rename_i hn hlk
        have hnk : ∀ f', x = .func f' → K.pf f' = true → False := by
          intro f' e hp
          rw [e] at hX
          simp only [AS.ev, AV.clo.injEq] at hX
          have := (hpf f' hp).1
          rw [hX.1, hlk] at this
          cases this
        refine Oper.wpIn_mono (K := Abs b us Q) (fun a' w' hh => ⟨fun f' e hp => (hnk f' e hp).elim, hh⟩) ?_
        rw [hX] at hx
        simp only [AVR] at hx
        obtain ⟨vs, hxe, hxc⟩ := hx
        have hargs : AVRL c.w c.E (c.I s) (List.append (cl.args.toList.map s.ev) cs) ((cl.args.toList.map a.eval) ++ vs) := AVRL_append _ _ _ _ (h.evs _) hxc
        generalize hA : List.append (cl.args.toList.map s.ev) cs = A at *
        generalize hV : (cl.args.toList.map a.eval) ++ vs = V at *
        have hp := h.push (tm := []) (t := #[]) (fun k v hv => by cases hv) (ds := []) ⟨[], List.nodup_nil, rfl, fun r hr => by cases hr⟩
        have hrow : RowOK c.w c.E (c.I { s with tm := [], up := s.tm :: s.up }) s.rv A V.toArray := row_of_args s A V hargs
        have hp3 := ((hp.retm hrow (ds := []) ⟨[], List.nodup_nil, rfl, fun r hr => by cases hr⟩).remk (mk' := fun _ => False) (fun r hr => hr.elim) (ds := []) ⟨[], List.nodup_nil, rfl, fun r hr => by cases hr⟩).rebase s.nx (Nat.succ s.nx)
        generalize hsg : ({ s with tm := A, up := s.tm :: s.up, base := s.nx, nx := Nat.succ s.nx } : AS) = sg at *
        have hbx : ∀ j, sg.box j = s.box j := fun j => by rw [← hsg]; rfl
        have hp3 : St { c with mks := fun _ => False } (a.tmps :: us) sg ⟨V.toArray, []⟩ := hp3
        let cg : Cx := { c with mks := fun _ => False }
        let bg : Base := { baseOf cg sg with mk0 := fun _ => False }
        have hfg : Fr bg cg sg := ⟨rfl, rfl, rfl, Nat.le_refl _, fun _ _ _ => rfl, fun i x hi hx => .inl ⟨i, x, hi, hx, rfl⟩, fun _ h => .inl h, fun _ h => h, fun _ => Iff.rfl, rfl, fun _ h => h, fun _ h => .inl h, fun _ _ => rfl⟩
        have ownB : ∀ k, bg.own0 k → b.own0 k ∨ b.w0.heap.size ≤ k := by
          rintro k ⟨j, x, hj, hx, rfl⟩
          rw [hbx] at hj
          exact hfr.own j x hj hx
        have hFp : HF F.plain := ⟨hF.1, hF.2⟩
        obtain ⟨⟨fn, code, hf, hbody, hname⟩, hcalls⟩ := (runN_sound hK 8).1 F.plain (n - 1) hFp rfl (callI_sound hK hl hpf k (L := bg.lp0) (us0 := a.tmps :: us)) (callI_ext hK k) (fun _ h => h) hp3 hfg (Tree.sat_bind _ hs)
        have hrun : (execOp a.eval o).run P c.w = .ok (.enter f V.toArray) c.w := by
          simp only [execOp, ho, resolve, hcal, hxe, Deferred.ofValue, Sem.run_bind, Sem.run_pure, Result.andThen_ok, invoke, run_callFunc hf hbody hname]
          rw [← hV]
          congr 2
          simp
        have hd : ∀ c, o.op ≠ .defer c := fun c => by rw [ho]; simp
        refine ⟨fun f _ => hF.1 f, ?_⟩
        rw [Oper.semAt_eq _ _ _ hd, hrun]
        simp only [Oper.uponIn_enter]
        refine ⟨fun e => (by rw [hF.2] at e; cases e), ?_⟩
        refine CallsIn.mono hcalls ?_
        rintro e w' ⟨c', s', vs', rs, a', rfl, hq, k1, kf, hvs, rfl⟩
        split at hq
        · rename_i vs2 ft up e1 hup
          cases e1
          have mkOld : ∀ r, c.mks r → c'.w.heap[r]? = some (.deferred (some [])) ∧ ¬ c'.fz r ∧ ¬ c'.bo r ∧ ∀ i x, s'.box i ≠ none → c'.ρ i = some x → x.1 ≠ r := by
            intro r hr
            obtain ⟨m1, m2, m3, m4⟩ := h.mks r hr
            have hlt : r < c.w.heap.size := (Array.getElem?_eq_some_iff.1 m1).1
            have hno : ¬ bg.own0 r := by
              rintro ⟨j, x, hj, hx, e⟩
              rw [hbx] at hj
              exact m4 j x hj hx e
            refine ⟨(kf.block r hlt hno).trans m1, fun hf => ?_, fun hf => m3 ((kf.bo r).1 hf), fun j x hj hx e => ?_⟩
            · rcases kf.fz r hf with q | q | q
              · exact m2 q
              · exact hno q
              · have q : c.w.heap.size ≤ r := q
                omega
            · rcases kf.own j x hj hx with q | q
              · exact hno (e ▸ q)
              · have q : c.w.heap.size ≤ x.1 := q
                omega
          have hml : Marks { c' with mks := c.mks } a.defers := by
            obtain ⟨rs', r1, r2, r3⟩ := h.df
            exact ⟨rs', r1, r2, r3⟩
          have km := k1.remk (mk' := c.mks) mkOld hml
          have kp := (km.pop (tm := ft) (up := up) hup (ds := a.defers) hml (fun i d hi => by
            have hi : c'.lp i = some d := hi
            rw [kf.lp] at hi
            exact h.lv i d hi)).rebase s.base s'.nx
          have kfb : Fr b { c' with mks := c.mks } { s' with tm := ft, up := up, base := s.base } := by
            refine ⟨kf.os.trans hfr.os, kf.tape.trans hfr.tape, kf.output.trans hfr.output, Nat.le_trans hfr.size kf.size, ?_, ?_, ?_, ?_, ?_, kf.lp.trans hfr.lp, fun r hr => hfr.mks r hr, fun r hr => hfr.mks' r hr, fun k hk => (kf.cs k (Nat.lt_of_lt_of_le hk hfr.size)).trans (hfr.cs k hk)⟩
            · intro x hx hn
              have hlt := Nat.lt_of_lt_of_le hx hfr.size
              rw [← hfr.block x hx hn]
              refine kf.block x hlt fun ho => ?_
              rcases ownB x ho with q | q
              · exact hn q
              · omega
            · intro j x hj hx
              rcases kf.own j x hj hx with q | q
              · exact ownB _ q
              · right
                have q : c.w.heap.size ≤ x.1 := q
                have := hfr.size
                omega
            · intro x hx
              rcases kf.fz x hx with q | q | q
              · exact hfr.fz x q
              · exact .inr (ownB x q)
              · right; right
                have q : c.w.heap.size ≤ x := q
                have := hfr.size
                omega
            · exact fun x hx => kf.fz' x (hfr.fz' x hx)
            · exact fun x => (kf.bo x).trans (hfr.bo x)
          rw [retT_eq] at hq
          have hres := ret_avr hvs
          exact ⟨{ c' with mks := c.mks }, _, rfl, hq, kp.putO hres o.dst, kfb.putO o.dst _⟩
        · exact hq.elim
      · rename_i hlk
        exact plain hs
    · exact plain hs
theorem Smry.okI (hK : KitOK P K) {l : List Smry} (hl : ∀ S ∈ l, S.OK P) (S : Smry) (il : List (FuncId × Hn)) (hn : Hn) (hin1 : S.σ.inR s00 = true) (hin2 : ∀ d, (S.ws.all fun w => w.σ.inR (entryS S.σ d)) = true) (chk : ∀ d, smryRunI K l il S.f hn S.σ S.ws d = S.M d) (hsome : (K.fn S.f).isSome = true) : S.OK P := by
  cases hfn : K.fn S.f with
  | none => rw [hfn] at hsome; cases hsome
  | some y =>
    obtain ⟨nt, res, code⟩ := y
    obtain ⟨fn, hf, hnt, hres, hbody, hname⟩ := hK.fn S.f nt res code hfn
    refine ⟨⟨fn, code, hf, hbody, hname⟩, hin1, fun F n hF hro b hmk c us V d x Q h hfr hm hq => ?_⟩
    have e := chk d
    rw [hm] at e
    unfold smryRunI at e
    rw [hfn] at e
    dsimp only at e
    obtain ⟨hm1, hfrm, _⟩ := h.mark hfr [] (rangeN 0 (len (S.σ.fill s00 (HL.out _ d)).1.tm)) ((S.σ.fill s00 (HL.out _ d)).1.bx.map fun x => x.1)
    have h1 := start_tm hnt hm1
    have hfr1 : Fr b c (startS S.σ nt d) := ⟨hfrm.os, hfrm.tape, hfrm.output, hfrm.size, hfrm.block, hfrm.own, hfrm.fz, hfrm.fz', hfrm.bo, hfrm.lp, hfrm.mks, hfrm.mks', hfrm.cs⟩
    have hall := endT_all (K := K) (res := res) (denC_ext (K := K.withPf l il) (run := runN (K.withPf l il) 8) (runN_sound (hK.withPf l il) 8).2 (callI_ext (l := l) (il := il) (hK.withPf l il) (len il)) (vars := K.vars S.f) (res := res) code hn none (startS S.σ nt d))
    have hs := Tree.sat_bind _ (Tree.sat_all _ (Tree.run_sat _ e) hall)
    subst hres
    refine CallsIn.mono (calls_of_wp (Q := fun e s => pOpt (Ways.take S.ws e s) = some x ∧ EX (startS S.σ nt d) e s) hK hF hro hf hbody hmk (denC_sound (rd := none) (hK.withPf l il) (runN_sound (hK.withPf l il) 8).1 (runN_sound (hK.withPf l il) 8).2 (callI_ext (hK.withPf l il) _) (vars := K.vars S.f) code hn hF hro (callI_sound (hK.withPf l il) hl (fun f hf => pfOf_spec hf) _) h1 hfr1 hs)) ?_
    rintro e w' ⟨c', s2, vs, rs, a2, rfl, k1, k2, k3, k4, rfl⟩
    obtain ⟨k1, kx⟩ := k1
    obtain ⟨wy, hmem, dw, j1, j2⟩ := Ways.take_one S.ws k1 hq
    obtain ⟨c'', e', s', g1, g2, g3, g4, g5⟩ := Way.take_spec (s0 := entryS S.σ d) k2 k3 kx (List.all_eq_true.1 (hin2 d) _ hmem) j1
    obtain ⟨vs', rfl, g6⟩ := g5
    rw [g2] at j2
    exact ⟨c'', s', vs', rs, a2, g1, j2, g3, g4, g6 rs k4, rfl⟩
theorem Smry.okRec (hK : KitOK P K) {l : List Smry} (hl : ∀ S ∈ l, S.OK P) (f : FuncId) (σ : SS) (ws : List Way) (B : (HL σ.holes → PO (Ways ws)) → HL σ.holes → PO (Ways ws)) (il : List (FuncId × Hn)) (hn : Hn) (hin1 : σ.inR s00 = true) (hin2 : ∀ d, (ws.all fun w => w.σ.inR (entryS σ d)) = true)
    (chk : ∀ M d, smryRunI K (⟨f, σ, ws, M⟩ :: l) il f hn σ ws d = B M d) (hsome : (K.fn f).isSome = true) : Smry.OK P ⟨f, σ, ws, pRec B⟩ := by
  have key : ∀ k, Smry.OK P ⟨f, σ, ws, recN B k⟩ := by
    intro k
    induction k with
    | zero =>
      cases hfn : K.fn f with
      | none => rw [hfn] at hsome; cases hsome
      | some y =>
        obtain ⟨nt, res, code⟩ := y
        obtain ⟨fn, hf, hnt, hres, hbody, hname⟩ := hK.fn f nt res code hfn
        refine ⟨⟨fn, code, hf, hbody, hname⟩, hin1, fun F n hF hro b hmk c us V d x Q h hfr hm hq => ?_⟩
        cases hm
    | succ k ih => exact Smry.okI hK (fun S hS => by
        rcases List.mem_cons.1 hS with e | hS
        · rw [e]; exact ih
        · exact hl S hS) ⟨f, σ, ws, recN B (k + 1)⟩ il hn hin1 hin2 (fun d => chk (recN B k) d) hsome
  obtain ⟨h1, h2, _⟩ := key 0
  refine ⟨h1, h2, fun F n hF hro b hmk c us V d x Q h hfr hm hq => ?_⟩
  simp only [pRec] at hm
  split at hm
  · rename_i hh
    exact (key hh.choose).2.2 F n hF hro hmk h hfr hm hq
  · cases hm
end
end Go.Xr
namespace Go.Xr
open Go
def mkKit (tds : List (Nat × TD)) (fns : List (Nat × Func)) (vrs : List (Nat × List Nat)) : Kit where
  td := fun T => match lookupN tds T with | some d => d | none => .other
  fn := fun f => match lookupN fns f with | some g => (match g.body with | some b => some (g.ntmps, g.results.toList, b) | none => none) | none => none
  vars := fun f => match lookupN vrs f with | some l => l | none => []
def AllF (P : Program) : List (Nat × Func) → Prop
  | [] => True
  | x :: r => (P.funcs[x.1]? = some x.2 ∧ (x.2.name == "runtime.NumGoroutine") = false) ∧ AllF P r
theorem AllF.at {P : Program} : ∀ {l : List (Nat × Func)} {f : Nat} {g : Func}, AllF P l → lookupN l f = some g → P.funcs[f]? = some g ∧ (g.name == "runtime.NumGoroutine") = false
  | x :: r, f, g, h, hl => by
    obtain ⟨k, y⟩ := x
    simp only [lookupN] at hl
    cases hb : Nat.beq f k with
    | true =>
      rw [hb] at hl
      cases hl
      have e := Nat.eq_of_beq_eq_true hb
      subst e
      exact h.1
    | false => rw [hb] at hl; exact AllF.at h.2 hl
  | [], f, g, h, hl => by cases hl
theorem lookup_any {α : Type} : ∀ (l : List (Nat × α)) (i : Nat) (x : α), lookupN l i = some x → (i, x) ∈ l
  | (j, y) :: r, i, x, h => by
    simp only [lookupN] at h
    cases hb : Nat.beq i j with
    | true => rw [hb] at h; have e := Nat.eq_of_beq_eq_true hb; subst e; cases h; exact List.mem_cons_self
    | false => rw [hb] at h; exact List.mem_cons_of_mem _ (lookup_any r i x h)
theorem mkKit_ok {P : Program} {tds : List (Nat × TD)} {fns : List (Nat × Func)} {vrs : List (Nat × List Nat)} (h1 : (tds.all fun x => tdB P (mkKit tds fns vrs) x.1) = true) (h2 : AllF P fns) (h3 : P.follows .mixedOrders = true) : KitOK P (mkKit tds fns vrs) where
  td := fun T => by
    cases hl : lookupN tds T with
    | none =>
      unfold tdB
      have : (mkKit tds fns vrs).td T = .other := by simp only [mkKit, hl]
      rw [this]
    | some d => exact List.all_eq_true.1 h1 _ (lookup_any tds T d hl)
  fn := fun f n res code h => by
    simp only [mkKit] at h
    split at h
    · rename_i g hg
      split at h
      · rename_i b hb
        cases h
        obtain ⟨k1, k2⟩ := h2.at hg
        exact ⟨g, k1, rfl, rfl, hb, k2⟩
      · cases h
    · cases h
  mixed := h3
theorem ok_nil {P : Program} : ∀ S ∈ ([] : List Smry), S.OK P := fun _ h => by cases h
theorem ok_cons {P : Program} {l : List Smry} {S : Smry} (h : S.OK P) (hl : ∀ S ∈ l, S.OK P) : ∀ T ∈ S :: l, T.OK P := fun T hT => by
  rcases List.mem_cons.1 hT with e | hT
  · rw [e]; exact h
  · exact hl T hT
theorem law_of {K : Kit} {l : List Smry} {hn : Hn} {f : FuncId} {pts : List Ty} {m : HL pts → PO PB} (hm : ∀ d, lawRun K l hn f (HL.avs pts d) = m d) (hp : ∀ d, HL.ok pts d → m d = some true) : ∀ d : HL pts, HL.ok pts d → lawRun K l hn f (HL.avs pts d) = some true :=
  fun d h => (hm d).trans (hp d h)
end Go.Xr
namespace Go.Xr
open Go
theorem pAmb_self {α : Type} (x : PO α) : pAmb x x = x := by
  unfold pAmb
  split
  · rfl
  · rename_i h; exact (h rfl).elim
section
variable {D X : Type} {step : D → PO (PSum D X)} {d d' : D} {x y : X}
theorem iterN_mono : ∀ (n m : Nat) (d : D), iterN step n d = some x → n ≤ m → iterN step m d = some x
  | 0, _, _, h, _ => by cases h
  | n + 1, 0, _, _, h => by omega
  | n + 1, m + 1, d, h, hl => by
    simp only [iterN] at h ⊢
    split at h
    · cases h
    · rename_i d' hd
      exact iterN_mono n m d' h (by omega)
    · exact h
theorem pIter_iff : pIter step d = some x ↔ ∃ n, iterN step n d = some x := by
  unfold pIter
  constructor
  · intro h
    split at h
    · exact ⟨_, h⟩
    · cases h
  · rintro ⟨n, h⟩
    have hex : ∃ n, (iterN step n d).isSome := ⟨n, by rw [h]; rfl⟩
    rw [dif_pos hex]
    have hc := hex.choose_spec
    obtain ⟨z, hz⟩ := Option.isSome_iff_exists.1 hc
    have h1 := iterN_mono _ (max n hex.choose) d h (Nat.le_max_left _ _)
    have h2 := iterN_mono _ (max n hex.choose) d hz (Nat.le_max_right _ _)
    rw [h1] at h2
    cases h2
    exact hz
theorem pIter_inl (h : step d = some (.inl d')) : pIter step d = pIter step d' := by
  have : ∀ z, pIter step d = some z ↔ pIter step d' = some z := by
    intro z
    rw [pIter_iff, pIter_iff]
    constructor
    · rintro ⟨n, hn⟩
      cases n with
      | zero => cases hn
      | succ n => simp only [iterN, h] at hn; exact ⟨n, hn⟩
    · rintro ⟨n, hn⟩
      exact ⟨n + 1, by simp only [iterN, h]; exact hn⟩
  cases h1 : pIter step d with
  | some z => exact ((this z).1 h1).symm
  | none =>
    cases h2 : pIter step d' with
    | none => rfl
    | some z => rw [(this z).2 h2] at h1; cases h1
theorem pIter_inr (h : step d = some (.inr x)) : pIter step d = some x := pIter_iff.2 ⟨1, by simp only [iterN, h]⟩
theorem pIter_inv {Inv : D → Prop} {P : X → Prop} (μ : D → Nat) (h : ∀ d, Inv d → (∃ d', step d = some (.inl d') ∧ Inv d' ∧ μ d' < μ d) ∨ ∃ x, step d = some (.inr x) ∧ P x) : ∀ d, Inv d → ∃ x, pIter step d = some x ∧ P x := by
  intro d
  generalize hn : μ d = n
  induction n using Nat.strongRecOn generalizing d with
  | _ n ih =>
    intro hd
    rcases h d hd with ⟨d', h1, h2, h3⟩ | ⟨x, h1, h2⟩
    · rw [pIter_inl h1]
      exact ih (μ d') (by omega) d' rfl h2
    · exact ⟨x, pIter_inr h1, h2⟩
end
theorem wrap64_eq (n : Int) : IntKind.wrap .i64 n = if 2 ^ 63 ≤ n % 2 ^ 64 then n % 2 ^ 64 - 2 ^ 64 else n % 2 ^ 64 := by
  simp [IntKind.wrap, IntKind.bits, IntKind.signed]
theorem wrap64 {n : Int} (h1 : -(2 ^ 63 : Int) ≤ n) (h2 : n < 2 ^ 63) : IntKind.wrap .i64 n = n := by
  rw [wrap64_eq]
  split <;> omega
theorem wrap8_eq (n : Int) : IntKind.wrap .u8 n = n % 256 := by
  simp [IntKind.wrap, IntKind.bits, IntKind.signed]
theorem wrap8 {n : Int} (h1 : 0 ≤ n) (h2 : n < 256) : IntKind.wrap .u8 n = n := by
  rw [wrap8_eq]
  omega
theorem quo64 {a : Nat} (h : a < 2 ^ 62) (b : Nat) : pQuo .i64 (a : Int) (b : Int) = ((a / b : Nat) : Int) := by
  have e : (Int.tdiv (a : Int) (b : Int)) = ((a / b : Nat) : Int) := by rw [Int.tdiv_eq_ediv_of_nonneg (by omega)]; simp
  have : a / b ≤ a := Nat.div_le_self _ _
  simp only [pQuo, e]
  generalize a / b = q at *
  exact wrap64 (by omega) (by omega)
theorem rem64 (a b : Nat) : pRem (a : Int) (b : Int) = ((a % b : Nat) : Int) := by
  simp only [pRem]
  rw [Int.tmod_eq_emod_of_nonneg (by omega)]
  simp
theorem add64 {a b : Int} (h1 : -(2 ^ 63 : Int) ≤ a + b) (h2 : a + b < 2 ^ 63) : pAdd .i64 a b = a + b := wrap64 h1 h2
theorem sub64 {a b : Int} (h1 : -(2 ^ 63 : Int) ≤ a - b) (h2 : a - b < 2 ^ 63) : pSub .i64 a b = a - b := wrap64 h1 h2
theorem mul64 {a b : Int} (h1 : -(2 ^ 63 : Int) ≤ a * b) (h2 : a * b < 2 ^ 63) : pMul .i64 a b = a * b := wrap64 h1 h2
theorem shr64 {a : Int} {i : Nat} (h0 : 0 ≤ a) (h1 : a < 2 ^ 63) : pShr .i64 a (i : Int) = a / 2 ^ i := by
  simp only [pShr, IntKind.bits, Int.toNat_natCast]
  rw [Int.fdiv_eq_ediv_of_nonneg _ (by have := Int.pow_pos (n := (2 : Int)) (m := min i 64) (by omega); omega)]
  rcases Nat.le_total i 64 with h | h
  · rw [Nat.min_eq_left h]
  · rw [Nat.min_eq_right h]
    have e1 : a / 2 ^ 64 = 0 := Int.ediv_eq_zero_of_lt h0 (by omega)
    have e2 : a / 2 ^ i = 0 := by
      refine Int.ediv_eq_zero_of_lt h0 ?_
      have h2 : (2 : Nat) ^ 64 ≤ 2 ^ i := Nat.pow_le_pow_right (by omega) h
      have h3 : ((2 ^ 64 : Nat) : Int) ≤ ((2 ^ i : Nat) : Int) := by omega
      have h4 : ((2 ^ i : Nat) : Int) = (2 : Int) ^ i := by simp
      rw [← h4]
      omega
    rw [e1, e2]
theorem and_nat (k : IntKind) (a b : Int) : pAnd k a b = k.wrap (((a % 2 ^ k.bits).toNat &&& (b % 2 ^ k.bits).toNat : Nat) : Int) := by
  simp [pAnd, BitVec.toNat_and, BitVec.toNat_ofInt]
theorem or_nat (k : IntKind) (a b : Int) : pOr k a b = k.wrap (((a % 2 ^ k.bits).toNat ||| (b % 2 ^ k.bits).toNat : Nat) : Int) := by
  simp [pOr, BitVec.toNat_or, BitVec.toNat_ofInt]
theorem and1_64 {a : Int} (h0 : 0 ≤ a) (h1 : a < 2 ^ 63) : pAnd .i64 a 1 = a % 2 := by
  obtain ⟨n, rfl⟩ := Int.eq_ofNat_of_zero_le h0
  have hn : n < 2 ^ 63 := by omega
  rw [and_nat]
  have e1 : ((n : Int) % 2 ^ IntKind.bits .i64).toNat = n := by simp only [IntKind.bits]; omega
  have e2 : ((1 : Int) % 2 ^ IntKind.bits .i64).toNat = 1 := by decide
  rw [e1, e2, Nat.and_one_is_mod, wrap64 (by omega) (by omega)]
  simp
end Go.Xr
set_option maxRecDepth 100000
namespace Go.Xr
open Go
section
variable {α : Type}
noncomputable def gIns0 (z : α) (cmp : α → α → Option (Int × Unit)) (p0 : Int) (d51 : (Int × ((List α) × Unit))) : Option ((Int × ((List α) × Unit)) ⊕ (Int × ((List α) × Unit))) :=
  pBind (if pLt p0 d51.1 then if pIn d51.1 (pLen d51.2.1) then if pIn (pSub .i64 d51.1 1) (pLen d51.2.1) then pBind (cmp (pGet z d51.2.1 d51.1) (pGet z d51.2.1 (pSub .i64 d51.1 1))) fun d52 => some (pLt d52.1 0, ()) else none else none else some (false, ())) fun d53 => if d53.1 then if pIn (pSub .i64 d51.1 1) (pLen d51.2.1) then if pIn d51.1 (pLen d51.2.1) then if pIn d51.1 (pLen d51.2.1) then if pIn (pSub .i64 d51.1 1) (pLen (pSet d51.2.1 d51.1 (pGet z d51.2.1 (pSub .i64 d51.1 1)))) then some (.inl (pSub .i64 d51.1 1, (pSet (pSet d51.2.1 d51.1 (pGet z d51.2.1 (pSub .i64 d51.1 1))) (pSub .i64 d51.1 1) (pGet z d51.2.1 d51.1), ()))) else none else none else none else none else some (.inr (d51.1, (d51.2.1, ())))
noncomputable def gIns1 (z : α) (cmp : α → α → Option (Int × Unit)) (p1 : Int) (p0 : Int) (d50 : (Int × ((List α) × Unit))) : Option ((Int × ((List α) × Unit)) ⊕ (Int × ((List α) × Unit))) :=
  if pLt d50.1 p1 then pBind (pIter (gIns0 z cmp p0) (d50.1, (d50.2.1, ()))) fun d54 => some (.inl (pAdd .i64 d50.1 1, (d54.2.1, ()))) else some (.inr (d50.1, (d50.2.1, ())))
noncomputable def gIns (z : α) (cmp : α → α → Option (Int × Unit)) (p0 : Int) (p1 : Int) (p2 : (List α)) : Option ((List α) × Unit) :=
  pBind (pIter (gIns1 z cmp p1 p0) (pAdd .i64 p0 1, (p2, ()))) fun d55 => some (d55.2.1, ())
def Ordd (lt : α → α → Bool) (a b : α) : Prop := lt b a = false
structure Weak (lt : α → α → Bool) : Prop where
  asym : ∀ a b, lt a b = true → lt b a = false
  ntr : ∀ a b c, lt b a = false → lt c b = false → lt c a = false
variable {lt : α → α → Bool} {z : α} {cmp : α → α → Option (Int × Unit)} {cv : α → α → Int}
def gL (lt : α → α → Bool) : List α → α → List α → List α
  | [], x, B => x :: B
  | y :: A, x, B => if lt x y then gL lt A x (y :: B) else (y :: A).reverse ++ x :: B
theorem gL_perm : ∀ (A : List α) (x : α) (B : List α), (gL lt A x B).Perm (A.reverse ++ x :: B)
  | [], x, B => List.Perm.refl _
  | y :: A, x, B => by
    simp only [gL]
    split
    · refine (gL_perm A x (y :: B)).trans ?_
      rw [List.reverse_cons, List.append_assoc]
      exact List.Perm.append_left _ (List.Perm.swap _ _ _)
    · exact List.Perm.refl _
theorem gL_len (A : List α) (x : α) (B : List α) : (gL lt A x B).length = A.length + 1 + B.length := by
  have := (gL_perm (lt := lt) A x B).length_eq
  simp at this
  omega
theorem gL_sorted (hw : Weak lt) : ∀ (A : List α) (x : α) (B : List α), (A.reverse ++ B).Pairwise (Ordd lt) → (∀ b ∈ B, Ordd lt x b) → (gL lt A x B).Pairwise (Ordd lt)
  | [], x, B, h, hb => by
    simp only [gL]
    exact List.pairwise_cons.2 ⟨hb, by simpa using h⟩
  | y :: A, x, B, h, hb => by
    simp only [gL]
    rw [List.reverse_cons, List.append_assoc] at h
    split
    · rename_i hlt
      refine gL_sorted hw A x (y :: B) (by simpa using h) ?_
      intro b hbm
      rcases List.mem_cons.1 hbm with rfl | hbm
      · exact hw.asym _ _ hlt
      · exact hb b hbm
    · rename_i hge
      have hge : lt x y = false := by simpa using hge
      rw [List.pairwise_append] at h
      obtain ⟨h1, h2, h3⟩ := h
      have h4 := List.pairwise_cons.1 (show (y :: B).Pairwise (Ordd lt) by simpa using h2)
      rw [List.reverse_cons, List.pairwise_append]
      refine ⟨?_, List.pairwise_cons.2 ⟨hb, h4.2⟩, ?_⟩
      · rw [List.pairwise_append]
        refine ⟨h1, by simp, fun a ha b hbm => ?_⟩
        simp at hbm
        subst hbm
        exact h3 a ha _ (by simp)
      · intro a ha b hbm
        have hax : Ordd lt a x := by
          rcases List.mem_append.1 ha with ha | ha
          · exact hw.ntr _ _ _ (h3 a ha y (by simp)) hge
          · simp at ha; subst ha; exact hge
        rcases List.mem_cons.1 hbm with rfl | hbm
        · exact hax
        · exact hw.ntr _ _ _ hax (hb b hbm)
theorem gswap_mid {H T : List α} {y x : α} : ((H ++ y :: x :: T).set (H.length + 1) y).set H.length x = H ++ x :: y :: T := by
  rw [List.set_append, if_neg (by omega)]
  have : H.length + 1 - H.length = 1 := by omega
  rw [this]
  simp only [List.set_cons_succ, List.set_cons_zero]
  rw [List.set_append, if_neg (by omega)]
  simp
theorem gget_mid {H T : List α} {y : α} {i : Nat} (h : i = H.length) : (H ++ y :: T).getD i z = y := by
  subst h
  simp [List.getD_eq_getElem?_getD]
theorem g_inner (hc : ∀ a b, cmp a b = some (cv a b, ())) (hlt : ∀ a b, pLt (cv a b) 0 = lt a b) (H : List α) : ∀ (A : List α) (x : α) (B R : List α), H.length + A.length + B.length + R.length + 1 < 2 ^ 62 →
    ∃ j, pIter (gIns0 z cmp (H.length : Int)) (((H.length + A.length : Nat) : Int), (H ++ (A.reverse ++ x :: (B ++ R)), ())) = some (j, (H ++ (gL lt A x B ++ R), ()))
  | [], x, B, R, hl => by
    refine ⟨((H.length + ([] : List α).length : Nat) : Int), pIter_inr ?_⟩
    unfold gIns0
    have e1 : pLt (H.length : Int) ((H.length + ([] : List α).length : Nat) : Int) = false := by simp [pLt]
    simp only [e1, Bool.false_eq_true, if_false, pBind, Option.bind_some, gL]
    rfl
  | y :: A, x, B, R, hl => by
    simp only [List.length_cons] at hl ⊢
    have hD : H ++ ((y :: A).reverse ++ x :: (B ++ R)) = (H ++ A.reverse) ++ y :: x :: (B ++ R) := by simp
    rw [hD]
    have hlen : ((H ++ A.reverse) ++ y :: x :: (B ++ R)).length = H.length + A.length + B.length + R.length + 2 := by simp; omega
    have hHA : (H ++ A.reverse).length = H.length + A.length := by simp
    have e1 : pLt (H.length : Int) ((H.length + (A.length + 1) : Nat) : Int) = true := by simp [pLt]; omega
    have e0 : pSub .i64 ((H.length + (A.length + 1) : Nat) : Int) 1 = ((H.length + A.length : Nat) : Int) := by rw [sub64 (by omega) (by omega)]; omega
    have e2 : pIn ((H.length + (A.length + 1) : Nat) : Int) (pLen ((H ++ A.reverse) ++ y :: x :: (B ++ R))) = true := by simp only [pIn, pLen, hlen]; simp <;> omega
    have e3 : pIn ((H.length + A.length : Nat) : Int) (pLen ((H ++ A.reverse) ++ y :: x :: (B ++ R))) = true := by simp only [pIn, pLen, hlen]; simp <;> omega
    have g1 : pGet z ((H ++ A.reverse) ++ y :: x :: (B ++ R)) ((H.length + (A.length + 1) : Nat) : Int) = x := by
      simp only [pGet, Int.toNat_natCast]
      rw [show (H ++ A.reverse) ++ y :: x :: (B ++ R) = ((H ++ A.reverse) ++ [y]) ++ x :: (B ++ R) by simp]
      exact gget_mid (by simp <;> omega)
    have g2 : pGet z ((H ++ A.reverse) ++ y :: x :: (B ++ R)) ((H.length + A.length : Nat) : Int) = y := by
      simp only [pGet, Int.toNat_natCast]
      exact gget_mid (by simp)
    cases hxy : lt x y with
    | true =>
      have hs1 : pSet (pSet ((H ++ A.reverse) ++ y :: x :: (B ++ R)) ((H.length + (A.length + 1) : Nat) : Int) y) ((H.length + A.length : Nat) : Int) x = H ++ (A.reverse ++ x :: ((y :: B) ++ R)) := by
        simp only [pSet, Int.toNat_natCast]
        have := gswap_mid (H := H ++ A.reverse) (T := B ++ R) (y := y) (x := x)
        rw [hHA] at this
        rw [show H.length + (A.length + 1) = H.length + A.length + 1 by omega, this]
        simp
      have e4 : pIn ((H.length + A.length : Nat) : Int) (pLen (pSet ((H ++ A.reverse) ++ y :: x :: (B ++ R)) ((H.length + (A.length + 1) : Nat) : Int) y)) = true := by simp only [pIn, pLen, pSet, List.length_set, hlen]; simp <;> omega
      obtain ⟨j, hj⟩ := g_inner hc hlt H A x (y :: B) R (by simp only [List.length_cons]; omega)
      refine ⟨j, ?_⟩
      have hst : gIns0 z cmp (H.length : Int) (((H.length + (A.length + 1) : Nat) : Int), ((H ++ A.reverse) ++ y :: x :: (B ++ R), ())) = some (.inl (((H.length + A.length : Nat) : Int), (H ++ (A.reverse ++ x :: ((y :: B) ++ R)), ()))) := by
        unfold gIns0
        simp only [e0, e1, e2, e3, e4, g1, g2, hc, hlt, hxy, if_true, pBind, Option.bind_some, hs1]
      rw [pIter_inl hst, hj]
      simp only [gL, hxy, if_true]
    | false =>
      refine ⟨((H.length + (A.length + 1) : Nat) : Int), pIter_inr ?_⟩
      unfold gIns0
      simp only [e0, e1, e2, e3, g1, g2, hc, hlt, hxy, if_true, Bool.false_eq_true, if_false, pBind, Option.bind_some, gL]
      rw [show (H ++ A.reverse) ++ y :: x :: (B ++ R) = H ++ ((y :: A).reverse ++ x :: B ++ R) by simp]
theorem g_insertion (hw : Weak lt) (hc : ∀ a b, cmp a b = some (cv a b, ())) (hlt : ∀ a b, pLt (cv a b) 0 = lt a b) (H R : List α) : ∀ (Q S : List α), S.Pairwise (Ordd lt) → H.length + S.length + Q.length + R.length + 1 < 2 ^ 62 →
    ∃ j L, pIter (gIns1 z cmp ((H.length + S.length + Q.length : Nat) : Int) (H.length : Int)) (((H.length + S.length : Nat) : Int), (H ++ (S ++ (Q ++ R)), ())) = some (j, (H ++ (L ++ R), ())) ∧ L.Perm (S ++ Q) ∧ L.Pairwise (Ordd lt)
  | [], S, hS, hl => by
    refine ⟨((H.length + S.length : Nat) : Int), S, pIter_inr ?_, by simp, hS⟩
    unfold gIns1
    have e1 : pLt ((H.length + S.length : Nat) : Int) ((H.length + S.length + ([] : List α).length : Nat) : Int) = false := by simp [pLt]
    simp only [e1, Bool.false_eq_true, if_false, List.nil_append]
  | x :: Q, S, hS, hl => by
    simp only [List.length_cons] at hl ⊢
    have e1 : pLt ((H.length + S.length : Nat) : Int) ((H.length + S.length + (Q.length + 1) : Nat) : Int) = true := by simp [pLt]; omega
    have e2 : pAdd .i64 ((H.length + S.length : Nat) : Int) 1 = ((H.length + (S.length + 1) : Nat) : Int) := by rw [add64 (by omega) (by omega)]; omega
    obtain ⟨j, hj⟩ := g_inner (z := z) hc hlt H S.reverse x [] (Q ++ R) (by simp; omega)
    have hl2 := gL_len (lt := lt) S.reverse x []
    obtain ⟨j2, L, h1, h2, h3⟩ := g_insertion hw hc hlt H R Q (gL lt S.reverse x []) (gL_sorted hw _ _ _ (by simpa using hS) (by simp)) (by rw [hl2]; simp; omega)
    refine ⟨j2, L, ?_, h2.trans ?_, h3⟩
    · have hst : gIns1 z cmp ((H.length + S.length + (Q.length + 1) : Nat) : Int) (H.length : Int) (((H.length + S.length : Nat) : Int), (H ++ (S ++ (x :: Q ++ R)), ())) = some (.inl (((H.length + (S.length + 1) : Nat) : Int), (H ++ (gL lt S.reverse x [] ++ (Q ++ R)), ()))) := by
        unfold gIns1
        rw [List.reverse_reverse, List.length_reverse] at hj
        simp only [e1, e2, if_true, pBind]
        rw [show S ++ (x :: Q ++ R) = S ++ x :: ([] ++ (Q ++ R)) by simp, hj]
        rfl
      rw [pIter_inl hst]
      rw [hl2] at h1
      simp only [List.length_reverse, List.length_nil, Nat.add_zero] at h1
      rw [show H.length + S.length + (Q.length + 1) = H.length + (S.length + 1) + Q.length by omega]
      exact h1
    · have := gL_perm (lt := lt) S.reverse x []
      rw [List.reverse_reverse] at this
      refine (this.append_right Q).trans ?_
      simp
theorem gIns_ok (hw : Weak lt) (hc : ∀ a b, cmp a b = some (cv a b, ())) (hlt : ∀ a b, pLt (cv a b) 0 = lt a b) (M : List α) (hl : M.length + 1 < 2 ^ 62) : ∃ L, gIns z cmp 0 (pLen M) M = some (L, ()) ∧ L.Perm M ∧ L.Pairwise (Ordd lt) := by
  unfold gIns
  cases M with
  | nil =>
    refine ⟨[], ?_, List.Perm.refl _, List.Pairwise.nil⟩
    have : pIter (gIns1 z cmp (pLen ([] : List α)) 0) (pAdd .i64 0 1, (([] : List α), ())) = some (pAdd .i64 0 1, (([] : List α), ())) := by
      refine pIter_inr ?_
      unfold gIns1
      have e1 : pLt (pAdd .i64 0 1) (pLen ([] : List α)) = false := by rw [add64 (by omega) (by omega)]; simp [pLt, pLen]
      simp only [e1, Bool.false_eq_true, if_false]
    rw [this]
    rfl
  | cons x Q =>
    obtain ⟨j, L, h1, h2, h3⟩ := g_insertion (z := z) hw hc hlt [] [] Q [x] (by simp) (by simp at hl ⊢; omega)
    refine ⟨L, ?_, h2, h3⟩
    have e : pAdd .i64 0 1 = ((([] : List α).length + [x].length : Nat) : Int) := by rw [add64 (by omega) (by omega)]; simp
    have e2 : pLen (x :: Q) = ((([] : List α).length + [x].length + Q.length : Nat) : Int) := by simp [pLen]; omega
    rw [e, e2]
    have h1' : pIter (gIns1 z cmp ((([] : List α).length + [x].length + Q.length : Nat) : Int) 0) (((([] : List α).length + [x].length : Nat) : Int), (x :: Q, ())) = some (j, (L, ())) := by simpa using h1
    rw [h1']
    rfl
theorem pRec_const {D X : Type} {B : (D → Option X) → D → Option X} {d : D} {x : X} (h : ∀ f, B f d = some x) : pRec B d = some x := by
  unfold pRec
  have hh : ∃ n, (recN B n d).isSome := ⟨1, by simp only [recN, h]; rfl⟩
  rw [dif_pos hh]
  have := hh.choose_spec
  generalize hh.choose = n at *
  cases n with
  | zero => simp [recN] at this
  | succ n => simp only [recN, h]
end
end Go.Xr
