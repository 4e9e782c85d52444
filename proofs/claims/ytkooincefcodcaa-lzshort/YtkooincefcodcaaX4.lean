import Derived.Test.YtkooincefcodcaaX3
import Derived.OpenShut
import Derived.SizedLaws
import Derived.Deep.Slices
import Derived.ChangeStays
import Derived.RowKit3
import Derived.Calls
import Derived.Test.YtkooincefcodcaaX1
import Derived.KernelRfl
set_option linter.unusedVariables false
set_option linter.unusedSimpArgs false
namespace Go.Xr
open Go

section
variable {F : Fence} {n : Nat} {P : Program} {K : Kit} {o : Oper} {a : Act} {w w' : World} {Qx : Exit → Act → World → Prop} {u : Value}
variable {b : Base} {us : List (Array Value)} {c c' : Cx} {s s' s0 : AS} {Q : Ex → AS → Prop} {T : TypeId} {call : Oper → AV → List AV → AS → Tree}
theorem tidy_all {R : Ex → AS → Prop} {t : Tree} {vars ids : List Nat} (h : t.All (EX s0)) : (t.tidy vars ids).All (EX s0) := by
  unfold Tree.tidy
  refine Tree.all_bind t (Tree.All.mono ?_ t h)
  intro e s h
  cases e with
  | normal => exact h.trans keep_ext
  | exit id => exact h
  | ret vs => exact h
theorem seq_all {t : Tree} {f : AS → Tree} (h : t.All (EX s0)) (hf : ∀ s, (f s).All (EX s)) : (t.seq f).All (EX s0) := by
  refine Tree.all_bind t (Tree.All.mono ?_ t h)
  intro e s' h
  cases e with
  | normal => exact Tree.All.mono (fun e s'' h' => Ext.trans h h') _ (hf s')
  | exit id => exact h
  | ret vs => exact h
theorem denC_ext {run : FuncId → Hn → (Oper → AV → List AV → AS → Tree) → AS → Tree} (hre : RunExt run) (hc : ∀ o v as s, (call o v as s).All (EX s)) {vars : List Nat} {res : List ResultVar} : ∀ (code : Code) (h : Hn) (rd : Option Nat) (s : AS), (denC K run call rd vars res code h s).All (EX s)
  | .skip, _, _, s => Ext.refl s
  | .region _ ops d, _, _, s => by
    cases d with
    | false => exact opsT_ext hc ops _ s
    | true => exact regionT_ext hc
  | .seq x y, h, rd, s => by
    cases h with
    | seq h1 h2 => exact seq_all (denC_ext hre hc x h1 rd s) (denC_ext hre hc y h2 rd)
    | mark ids h1 h2 =>
      have hm : Ext s (s.mark vars (leadT x) ids) := mark_ext
      exact Tree.All.mono (fun e s' h => hm.trans h) _ (seq_all (denC_ext hre hc x h1 rd _) (denC_ext hre hc y h2 rd))
    | join ids ids2 ws h1 h2 =>
      have hm : Ext s (s.mark vars (leadT x) ids) := mark_ext
      exact Tree.All.mono (fun e s' h => hm.trans h) _ (seq_all sum_ext (denC_ext hre hc y h2 rd))
    | _ => exact trivial
  | .cond cd x y, h, rd, s => by
    cases h with
    | cond h1 h2 =>
      simp only [denC]
      split
      · exact bif_all (denC_ext hre hc x h1 rd s) (denC_ext hre hc y h2 rd s)
      · exact ⟨denC_ext hre hc x h1 rd (s.put _ (.lit true)), denC_ext hre hc y h2 rd (s.put _ (.lit false))⟩
      · exact trivial
    | _ => exact trivial
  | .block id x, h, rd, s => by
    simp only [denC]
    refine Tree.all_bind _ (Tree.All.mono ?_ _ (denC_ext hre hc x h rd s))
    intro e s' h
    cases e with
    | normal => exact h
    | exit j => exact bif_all h h
    | ret vs => exact h
  | .loop x, h, rd, s => by
    cases h with
    | loop ids σ ws h1 =>
      have hm : Ext s (s.mark vars [] ids) := mark_ext
      exact Tree.All.mono (fun e s' h => hm.trans h) _ loopW_ext
    | _ => exact trivial
  | .exit id, h, rd, s => by
    cases h with
    | last ids => exact keep_ext
    | _ => exact trivial
  | .ret, h, rd, s => by
    cases h with
    | last ids =>
      simp only [denC]
      split
      · exact Ext.of rfl rfl
      · exact trivial
    | _ => exact trivial
  | .goto _, _, _, s => trivial
  | .label _, _, _, s => trivial
  | .rangeFunc f ps x y, h, rd, s => by
    cases h with
    | range hg h1 h2 =>
      simp only [denC]
      split
      · refine ok_all (Tree.all_bind _ (Tree.All.mono ?_ _ (hre _ _ _ _ (callY_ext hc (fun s => denC_ext hre hc x h1 _ s) (fun s => denC_ext hre hc y h2 _ s) _ _ _))))
        intro e s' hx
        have hx : Ext s s' := Ext.trans (Ext.of rfl rfl) hx
        exact Tree.All.mono (fun e s'' h' => hx.trans h') _ rangeE_ext
      · exact trivial
    | _ => exact trivial
  | .scope _, _, _, s => trivial
  | .refuse _, _, _, s => trivial
theorem tidy_absE {res : List ResultVar} {vars ids : List Nat} {R : Ex → AS → Prop} : ∀ e a w, AbsE P res b us (fun e s => (match e with | .normal => Tree.leaf .normal (s.keepI vars ids) | e => .leaf e s : Tree).sat R) e a w → AbsE P res b us R e a w
  | .normal, a, w, ⟨c, s, h1, h2, h3, h4⟩ => ⟨c, _, h1, h2, h3.keepI _ _, h4.keepI _ _⟩
  | .exit id, a, w, ⟨c, s, h1, h2, h3⟩ => ⟨c, s, h1, h2, h3⟩
  | .ret, a, w, ⟨c, s, vs, rs, h1, h2, h3⟩ => ⟨c, s, vs, rs, h1, h2, h3⟩
  | .goto _, _, _, h => h.elim
  | .panic _, _, _, h => h.elim
  | .outgrown, _, _, h => h.elim
theorem AVR.isBool {E : Bool → Nat → Prop} {I : Nat → Option BI} {x : Bool} (h : AVR w E I (.pv .bool x) u) : u = .bool x := AVR_bool.1 h
/-- A region in its own order. -/
theorem region_sound (hF : HF F) (hK : KitOK P K) (hcall : CallSound P b.lp0 us call) {id : Nat} {ops : Array Oper} {res : List ResultVar} (h : St c us s a) (hfr : Fr b c s)
    (hs : (opsT K call ops ops.toList s).sat Q) : (Code.region id ops false).wpIn F n P (AbsE P res b us Q) a c.w :=
  wpIn_region_list (opsT_sound hF hK hcall ops ops.toList h hfr hs)
/-- What a function's code does. -/
theorem denC_sound (hK : KitOK P K) {run : FuncId → Hn → (Oper → AV → List AV → AS → Tree) → AS → Tree} (hrun : RunSound P run) (hre : RunExt run) (hc : ∀ o v as s, (call o v as s).All (EX s)) {vars : List Nat} {res : List ResultVar} : ∀ (code : Code) (hn : Hn) {F : Fence} {n : Nat} {rd : Option Nat} {b : Base} {us : List (Array Value)} {c : Cx} {s : AS} {a : Act} {Q : Ex → AS → Prop},
    HF F → RdF F b rd → CallSound P b.lp0 us call → St c us s a → Fr b c s → (denC K run call rd vars res code hn s).sat Q → code.wpIn F n P (AbsE P res b us Q) a c.w
  | .skip, _, F, n, rd, b, us, c, s, a, Q, hF, hrd, hcall, h, hfr, hs => wpIn_skip ⟨c, s, rfl, hs, h, hfr⟩
  | .region id ops false, _, F, n, rd, b, us, c, s, a, Q, hF, hrd, hcall, h, hfr, hs => region_sound hF hK hcall h hfr hs
  | .region id ops true, _, F, n, rd, b, us, c, s, a, Q, hF, hrd, hcall, h, hfr, hs => regionT_sound hF hK hcall h hfr hs
  | .seq x y, hn, F, n, rd, b, us, c, s, a, Q, hF, hrd, hcall, h, hfr, hs => by
    have then_ : ∀ {h2 : Hn} e a w, AbsE P res b us (SeqQ (denC K run call rd vars res y h2) Q) e a w → Exit.then (y.wpIn F n P (AbsE P res b us Q)) (AbsE P res b us Q) e a w := by
      intro h2 e a w he
      cases e with
      | normal =>
        obtain ⟨c', s', rfl, hq, h1, h2⟩ := he
        exact denC_sound hK hrun hre hc y _ hF hrd hcall h1 h2 hq
      | exit id => exact he
      | ret => exact he
      | goto _ => exact he
      | panic _ => exact he
      | outgrown => exact he
    refine wpIn_seq ?_
    cases hn with
    | seq h1 h2 =>
      simp only [denC] at hs
      exact wpIn_mono (denC_sound hK hrun hre hc x h1 hF hrd hcall h hfr (seq_sat hs)) then_
    | mark ids h1 h2 =>
      simp only [denC] at hs
      obtain ⟨h0, hfr0, _⟩ := h.mark hfr vars (leadT x) ids
      exact wpIn_mono (denC_sound hK hrun hre hc x h1 hF hrd hcall h0 hfr0 (seq_sat hs)) then_
    | join ids ids2 ws h1 h2 =>
      simp only [denC] at hs
      obtain ⟨h0, hfr0, _⟩ := h.mark hfr vars (leadT x) ids
      generalize s.mark vars (leadT x) ids = s0 at *
      have hx0 : (denC K run call rd vars res x h1 s0).All (EX s0) := denC_ext hre hc x h1 rd s0
      obtain ⟨z, hin, hz1, hz2⟩ := sum_sat (tidy_all (R := fun _ _ => True) hx0) (seq_sat hs)
      refine wpIn_mono (denC_sound hK hrun hre hc x h1 hF hrd hcall h0 hfr0 (Tree.sat_bind _ hz1)) fun e a w he => ?_
      exact then_ _ _ _ (ways_absE hin hz2 _ _ _ (tidy_absE _ _ _ he))
    | _ => exact hs.elim
  | .cond cd x y, hn, F, n, rd, b, us, c, s, a, Q, hF, hrd, hcall, h, hfr, hs => by
    cases hn with
    | cond h1 h2 =>
      simp only [denC] at hs
      have hev := h.ev cd
      split at hs
      · rename_i b' hb
        rw [hb] at hev
        refine wpIn_cond (AVR_lit.1 hev) ?_
        cases b' with
        | true => exact denC_sound hK hrun hre hc x _ hF hrd hcall h hfr hs
        | false => exact denC_sound hK hrun hre hc y _ hF hrd hcall h hfr hs
      · rename_i t b' hb
        rw [hb] at hev
        have hvb := AVR_bool.1 hev
        have hlit : St c us (s.put t (.lit b')) a := h.refine fun _ _ => AVR_lit.2 hvb
        refine wpIn_cond hvb ?_
        cases b' with
        | true => exact denC_sound hK hrun hre hc x _ hF hrd hcall hlit (hfr.refine t _) (hs.1 rfl)
        | false => exact denC_sound hK hrun hre hc y _ hF hrd hcall hlit (hfr.refine t _) (hs.2 rfl)
      · exact hs.elim
    | _ => exact hs.elim
  | .block id x, hn, F, n, rd, b, us, c, s, a, Q, hF, hrd, hcall, h, hfr, hs => by
    simp only [denC] at hs
    refine wpIn_block (wpIn_mono (denC_sound hK hrun hre hc x hn hF hrd hcall h hfr (Tree.sat_bind _ hs)) ?_)
    intro e a' w' he
    cases e with
    | normal => exact he
    | exit j =>
      obtain ⟨c', s', e1, hq, h1, h2⟩ := he
      simp only [Exit.inBlock]
      cases hj : Nat.beq j id with
      | true =>
        rw [if_pos (Nat.eq_of_beq_eq_true hj)]
        simp only [hj] at hq
        exact ⟨c', s', e1, hq, h1, h2⟩
      | false =>
        rw [if_neg (fun e => by subst e; simp at hj)]
        simp only [hj] at hq
        exact ⟨c', s', e1, hq, h1, h2⟩
    | ret => exact he
    | goto _ => exact he.elim
    | panic _ => exact he.elim
    | outgrown => exact he.elim
  | .loop x, hn, F, n, rd, b, us, c, s, a, Q, hF, hrd, hcall, h, hfr, hs => by
    cases hn with
    | loop ids σ ws h1 =>
      simp only [denC] at hs
      obtain ⟨h0, hfr0, _⟩ := h.mark hfr vars [] ids
      exact loopW_sound (fun s => denC_ext hre hc x h1 rd s) (fun k1 k2 k3 => denC_sound hK hrun hre hc x h1 hF hrd hcall k1 k2 k3) h0 hfr0 hs
    | _ => exact hs.elim
  | .exit id, hn, F, n, rd, b, us, c, s, a, Q, hF, hrd, hcall, h, hfr, hs => by
    cases hn with
    | last ids => exact wpIn_exit ⟨c, _, rfl, hs, h.keepI _ _, hfr.keepI _ _⟩
    | _ => exact hs.elim
  | .ret, hn, F, n, rd, b, us, c, s, a, Q, hF, hrd, hcall, h, hfr, hs => by
    cases hn with
    | last ids =>
      simp only [denC] at hs
      split at hs
      · rename_i vs hvs
        obtain ⟨rs, h1, h2⟩ := readAll_spec hK h res vs hvs
        refine wpIn_ret ⟨c, _, vs, rs, rfl, hs, ?_, ?_, h1, ?_⟩
        · exact h.less (tm := []) (f := fun i => ids.any (Nat.beq i)) (fun k v hv => by simp [nth] at hv) rfl
        · exact hfr.less (tm := []) (f := fun i => ids.any (Nat.beq i))
        · exact AVRL.mono (fun b k hk => ⟨hk, rfl⟩) vs rs (fun i _ => less_I (tm := []) (f := fun i => ids.any (Nat.beq i)) i) h2
      · exact hs.elim
    | _ => exact hs.elim
  | .goto _, _, F, n, rd, b, us, c, s, a, Q, hF, hrd, hcall, h, hfr, hs => by simp only [denC] at hs; exact hs.elim
  | .label _, _, F, n, rd, b, us, c, s, a, Q, hF, hrd, hcall, h, hfr, hs => by simp only [denC] at hs; exact hs.elim
  | .rangeFunc f ps x y, hn, F, n, rd, b, us, c, s, a, Q, hF, hrd, hcall, h, hfr, hs => by
    cases hn with
    | range hg h1 h2 =>
      simp only [denC] at hs
      have hi : Nat.add loopB (len s.up) = loopB + us.length := by rw [len_eq, ← UpOK_len _ _ h.up]; rfl
      have hl : len s.up = us.length := by rw [len_eq, ← UpOK_len _ _ h.up]
      rw [hi, hl] at hs
      split at hs
      · rename_i g cs hf
        obtain ⟨hrd2, hs⟩ := sat_ok hs
        refine range_sound (i := loopB + us.length) hF hK hrun h hfr hcall (callY_ext hc (fun s => denC_ext hre hc x h1 (some (loopB + us.length)) s) (fun s => denC_ext hre hc y h2 (some (loopB + us.length)) s)) hrd hrd2 rfl ?_ ?_ hf hs
        · intro d L' e1 e2 hLi hLL F' n' pre b' hF' hro' hb' c' s' a' us' Q' hus' h' hfr' hs'
          rw [e1]
          refine denC_sound (rd := some (loopB + us.length)) hK hrun hre hc x h1 hF' ⟨d, hb' _ _ hLi, hro'⟩ ?_ h' hfr' hs'
          rw [hus', show pre ++ d.tmps :: us = (pre ++ [d.tmps]) ++ us by simp]
          exact hcall.mono (fun j e hj => hb' j e (hLL j e hj)) _
        · intro d L' e1 e2 hLi hLL F' n' pre b' hF' hro' hb' c' s' a' us' Q' hus' h' hfr' hs'
          rw [e2]
          refine denC_sound (rd := some (loopB + us.length)) hK hrun hre hc y h2 hF' ⟨d, hb' _ _ hLi, hro'⟩ ?_ h' hfr' hs'
          rw [hus', show pre ++ d.tmps :: us = (pre ++ [d.tmps]) ++ us by simp]
          exact hcall.mono (fun j e hj => hb' j e (hLL j e hj)) _
      · exact hs.elim
    | _ => simp only [denC] at hs; exact hs.elim
  | .scope _, _, F, n, rd, b, us, c, s, a, Q, hF, hrd, hcall, h, hfr, hs => by simp only [denC] at hs; exact hs.elim
  | .refuse _, _, F, n, rd, b, us, c, s, a, Q, hF, hrd, hcall, h, hfr, hs => by simp only [denC] at hs; exact hs.elim
end
end Go.Xr

set_option linter.unusedVariables false
set_option linter.unusedSimpArgs false
namespace Go.Xr
open Go

section
variable {F : Fence} {n : Nat} {P : Program} {K : Kit} {o : Oper} {a : Act} {w w' : World} {Qx : Exit → Act → World → Prop} {u : Value}
variable {b : Base} {us : List (Array Value)} {c c' : Cx} {s s' s0 : AS} {Q : Ex → AS → Prop} {T : TypeId} {call : Oper → AV → List AV → AS → Tree}
theorem AVRL_append : ∀ (as cs : List AV) (us vs : List Value) {E : Bool → Nat → Prop} {I : Nat → Option BI}, AVRL w E I as us → AVRL w E I cs vs → AVRL w E I (as ++ cs) (us ++ vs)
  | [], cs, us, vs, E, I, h, k => by rw [AVRL_nil.1 h]; exact k
  | x :: as, cs, us, vs, E, I, h, k => by
    obtain ⟨u, q, rfl, h1, h2⟩ := AVRL_cons.1 h
    exact AVRL_cons.2 ⟨u, q ++ vs, rfl, h1, AVRL_append as cs q vs h2 k⟩
theorem St.evs (h : St c us s a) : ∀ l : List Operand, AVRL c.w c.E (c.I s) (l.map s.ev) (l.map a.eval)
  | [] => AVRL_nil.2 rfl
  | x :: l => AVRL_cons.2 ⟨_, _, rfl, h.ev x, St.evs h l⟩
theorem AVRL_len {E : Bool → Nat → Prop} {I : Nat → Option BI} : ∀ (as : List AV) (us : List Value), AVRL w E I as us → as.length = us.length
  | [], us, h => by rw [AVRL_nil.1 h]; rfl
  | x :: as, us, h => by
    obtain ⟨u, q, rfl, h1, h2⟩ := AVRL_cons.1 h
    simp [AVRL_len as q h2]
theorem AVRL_nth {E : Bool → Nat → Prop} {I : Nat → Option BI} : ∀ (as : List AV) (us : List Value) (k : Nat) (v : AV), AVRL w E I as us → nth as k = some v → ∃ u, us[k]? = some u ∧ AVR w E I v u
  | x :: as, us, 0, v, h, hk => by
    obtain ⟨u, q, rfl, h1, h2⟩ := AVRL_cons.1 h
    simp only [nth, Option.some.injEq] at hk
    subst hk
    exact ⟨u, rfl, h1⟩
  | x :: as, us, k + 1, v, h, hk => by
    obtain ⟨u, q, rfl, h1, h2⟩ := AVRL_cons.1 h
    obtain ⟨u', h3, h4⟩ := AVRL_nth as q k v h2 hk
    exact ⟨u', by simpa using h3, h4⟩
  | [], _, k, v, h, hk => by cases hk
theorem resRun_results {fn : Func} : ∀ (rs : List ResultVar) (vs : List Value), resRun P a w rs vs →
    (rs.mapM (m := Sem) fun
      | .tmp t => pure (a.tmps.getD t undef)
      | .cell x t => do loadVar t (← asAddr (a.tmps.getD x undef))).run P w = .ok vs w
  | [], vs, h => by cases h; rfl
  | r :: rs, vs, ⟨v, q, e, h1, h2⟩ => by
    subst e
    have ih := resRun_results (fn := fn) rs q h2
    simp only [List.mapM_cons, Sem.run_bind]
    cases r with
    | tmp t =>
      simp only at h1
      simp only [h1, Result.andThen_ok, Sem.run_bind, ih, Sem.run_pure]
    | cell x t =>
      simp only at h1
      simp only [h1, Result.andThen_ok, Sem.run_bind, ih, Sem.run_pure]
theorem retV_eq (vs : List Value) : retV vs = if h : vs.toArray.size = 1 then vs.toArray[0] else .tuple vs.toArray := by
  match vs with
  | [] => rfl
  | [v] => rfl
  | u :: v :: r => simp [retV]
theorem results_run {fn : Func} {vs : List Value} (h : resRun P a w fn.results.toList vs) : (results fn a.tmps).run P w = .ok (retV vs) w := by
  have h1 := resRun_results (fn := fn) _ _ h
  unfold results
  rw [Array.mapM_eq_mapM_toList]
  simp only [Sem.run_bind, Sem.run_map, Sem.run_pure, retV_eq]
  exact congrArg (fun r : Result (List Value) => (r.andThen fun a w' => Result.ok a.toArray w').andThen fun a w' => Result.ok (if h : a.size = 1 then a[0] else Value.tuple a) w') h1
theorem ret_avr {E : Bool → Nat → Prop} {I : Nat → Option BI} {vs : List AV} {rs : List Value} (h : AVRL w E I vs rs) : AVR w E I (retA vs) (retV rs) := by
  match vs, h with
  | [], h => rw [AVRL_nil.1 h]; simp only [retA, retV, AVR]; exact ⟨[], rfl, AVRL_nil.2 rfl⟩
  | [v], h =>
    obtain ⟨u, q, rfl, h1, h2⟩ := AVRL_cons.1 h
    rw [AVRL_nil.1 h2]
    exact h1
  | x :: y :: r, h =>
    have h0 := h
    obtain ⟨u, q, rfl, h1, h2⟩ := AVRL_cons.1 h
    obtain ⟨u', q', rfl, h3, h4⟩ := AVRL_cons.1 h2
    simp only [retA, retV, AVR]
    exact ⟨_, rfl, h0⟩
theorem nth_repL {z : AV} : ∀ (n k : Nat) (v : AV), nth (repL z n) k = some v → v = z ∧ k < n
  | n + 1, 0, v, h => by simp only [repL, nth, Option.some.injEq] at h; exact ⟨h.symm, by omega⟩
  | n + 1, k + 1, v, h => by obtain ⟨h1, h2⟩ := nth_repL n k v (by simpa [repL, nth] using h); exact ⟨h1, by omega⟩
  | 0, k, v, h => by simp [repL, nth] at h
theorem nth_append {α : Type} : ∀ (l m : List α) (k : Nat) (v : α), nth (l ++ m) k = some v → nth l k = some v ∨ (l.length ≤ k ∧ nth m (k - l.length) = some v)
  | [], m, k, v, h => .inr ⟨by simp, by simpa using h⟩
  | x :: l, m, 0, v, h => .inl h
  | x :: l, m, k + 1, v, h => by
    rcases nth_append l m k v h with h1 | ⟨h1, h2⟩
    · exact .inl h1
    · exact .inr ⟨by simp; omega, by simpa using h2⟩
theorem nth_lt {α : Type} : ∀ (l : List α) (k : Nat) (v : α), nth l k = some v → k < l.length
  | x :: l, 0, v, h => by simp
  | x :: l, k + 1, v, h => by have := nth_lt l k v h; simp; omega
  | [], k, v, h => by cases h
/-- A function's contract, of what its code does. -/
theorem calls_of_wp (hK : KitOK P K) (hF : HF F) (hro : F.round = none) {f : FuncId} {fn : Func} {code : Code} {args : Array Value} (hf : P.funcs[f]? = some fn) (hbody : fn.body = some code) (hmk : ∀ k, ¬ b.mk0 k)
    (hwp : code.wpIn F n P (AbsE P fn.results.toList b us fun e s => (endT K fn.results.toList e s).sat Q) { tmps := args ++ Array.replicate (fn.ntmps - args.size) undef, defers := [] } w) :
    CallsIn F n P f args w fun e w' => ∃ c' s vs rs a', c'.w = w' ∧ Q (.ret vs) s ∧ St c' us s a' ∧ Fr b c' s ∧ AVRL c'.w c'.E (c'.I s) vs rs ∧ e = .returned (retV rs) := by
  refine callsIn_of_wp_marks hf hbody (hF.1 f) ?_ hro
  refine wpIn_mono hwp ?_
  have fin : ∀ {c' : Cx} {s2 : AS} {a2 : Act} {vs : List AV} {rs : List Value}, Q (.ret vs) s2 → St c' us s2 a2 → Fr b c' s2 → resAll P a2 c'.w fn.results.toList rs → AVRL c'.w c'.E (c'.I s2) vs rs →
      LeavesInM F n P fn a2.tmps (fun e w' => ∃ c' s vs rs a', c'.w = w' ∧ Q (.ret vs) s ∧ St c' us s a' ∧ Fr b c' s ∧ AVRL c'.w c'.E (c'.I s) vs rs ∧ e = .returned (retV rs)) a2.defers .returning c'.w := by
    intro c' s2 a2 vs rs k1 k2 k3 k4 k5
    obtain ⟨ms, hnd, hds, hms⟩ := k2.df
    obtain ⟨c3, j1, j2, j3, j4, j5, j6⟩ := unmark (P := P) hmk ms hnd hms hds (c := c') (s := s2) (us := us) (a := a2) k2 k3
    refine j6 F n fn a2.tmps _ ⟨_, results_run (k4 _ j5), c3, s2, vs, rs, _, rfl, k1, j1, j2, ?_, rfl⟩
    rw [j4]
    exact AVRL.mono j3 vs rs (fun i _ => .inl rfl) k5
  intro e a2 w2 he
  cases e with
  | normal =>
    obtain ⟨c', s2, e1, k1, k2, k3⟩ := he
    subst e1
    unfold endT at k1
    dsimp only at k1
    split at k1
    · rename_i vs2 hvs
      obtain ⟨rs, j1, j2⟩ := readAll_spec hK k2 _ vs2 hvs
      exact fin (s2 := { s2 with tm := [] }) k1 ⟨fun k v hv => by simp [nth] at hv, k2.df, k2.up, k2.bx, k2.inj, k2.own, k2.lt, k2.mks, k2.lv⟩ ⟨k3.os, k3.tape, k3.output, k3.size, k3.block, k3.own, k3.fz, k3.fz', k3.bo, k3.lp, k3.mks, k3.mks'⟩ j1 j2
    · exact k1.elim
  | ret =>
    obtain ⟨c', s2, vs2, rs, e1, k1, k2, k3, k4, k5⟩ := he
    subst e1
    exact fin k1 k2 k3 k4 k5
  | exit id =>
    obtain ⟨c', s2, e1, k1, k2, k3⟩ := he
    exact k1.elim
  | goto _ => exact he.elim
  | panic _ => exact he.elim
  | outgrown => exact he.elim
/-- a function's first state -/
theorem start_tm {s0 : AS} {V : List Value} {nt : Nat} {fn : Func} (hnt : fn.ntmps = nt) {d : List Deferred} (h : St c us s0 ⟨V.toArray, d⟩) :
    St c us { s0 with tm := List.append s0.tm (repL .undef (Nat.sub nt (len s0.tm))) } { tmps := V.toArray ++ Array.replicate (fn.ntmps - V.toArray.size) undef, defers := d } := by
  refine ⟨?_, h.df, h.up, h.bx, h.inj, h.own, h.lt, h.mks, h.lv⟩
  intro k v hv
  rcases nth_append _ _ k v hv with h2 | ⟨h2, h3⟩
  · obtain ⟨h3, h4⟩ := h.tm k v h2
    have h3 : k < V.length := by simpa using h3
    refine ⟨by simp; omega, ?_⟩
    have : (V.toArray ++ Array.replicate (fn.ntmps - V.toArray.size) undef).getD k undef = V.toArray.getD k undef := by
      rw [Array.getD_eq_getD_getElem?, Array.getElem?_append_left (by simpa using h3), Array.getD_eq_getD_getElem?]
    rw [this]
    exact h4
  · obtain ⟨e, h4⟩ := nth_repL _ _ _ h3
    subst e
    refine ⟨?_, by simp only [AS.rv, AVR]⟩
    have h5 : k - s0.tm.length < nt - len s0.tm := h4
    rw [len_eq] at h5
    simp
    omega
theorem endT_ext {res : List ResultVar} {e : Ex} : (endT K res e s).All (EX s) := by
  unfold endT
  split
  · split
    · exact Ext.of rfl rfl
    · exact trivial
  · exact Ext.of rfl rfl
  · exact trivial
/-- Functions that are run in place: sound. -/
theorem runN_sound (hK : KitOK P K) : ∀ k : Nat, RunSound P (runN K k) ∧ RunExt (runN K k)
  | 0 => ⟨fun F n hF hro b c s us V g h call Q _ _ _ _ _ hs => hs.elim, fun g h call s _ => trivial⟩
  | k + 1 => by
    obtain ⟨ih1, ih2⟩ := runN_sound hK k
    refine ⟨fun F n hF hro b c s us V g h call Q hcall hc hmk hst hfr hs => ?_, fun g h call s hc => ?_⟩
    · unfold runN at hs
      split at hs
      · rename_i nt res code hfn
        obtain ⟨fn, hf, hnt, hres, hbody, hname⟩ := hK.fn g nt res code hfn
        subst hres
        refine ⟨⟨fn, code, hf, hbody, hname⟩, ?_⟩
        have h1 := start_tm hnt hst
        exact calls_of_wp hK hF hro hf hbody hmk (denC_sound (rd := none) hK ih1 ih2 hc code h hF hro hcall h1 hfr.rows (Tree.sat_bind _ hs))
      · exact hs.elim
    · unfold runN
      split
      · rename_i nt res code hfn
        refine Tree.all_bind _ (Tree.All.mono ?_ _ (denC_ext ih2 hc code h none _))
        intro e s' hx
        have hx : Ext s s' := Ext.trans (Ext.of rfl rfl) hx
        exact Tree.All.mono (fun e s'' h' => hx.trans h') _ endT_ext
      · exact trivial
end
end Go.Xr

set_option linter.unusedVariables false
set_option linter.unusedSimpArgs false
set_option linter.unusedSectionVars false
namespace Go.Xr
open Go

section
variable {w : World} {E E' : Bool → Nat → Prop} {I I' : Nat → Option BI} {mp : Nat → Option Nat} {L : Bool}
theorem RepC.lent (hE : ∀ k, E false k → E' false k) : ∀ (t : Ty) (x : t.T) (cs : List Value), t.noB = true → RepC w E t x cs → RepC w E' t x cs
  | .int k, x, cs, _, h => h
  | .bool, x, cs, _, h => h
  | .str, x, cs, _, h => h
  | .unit, x, cs, _, h => h
  | .pair a b, x, cs, hn, ⟨c1, c2, e, h1, h2⟩ => by
    simp only [Ty.noB, Bool.and_eq_true] at hn
    exact ⟨c1, c2, e, RepC.lent hE a _ c1 hn.1 h1, RepC.lent hE b _ c2 hn.2 h2⟩
  | .st a, x, cs, hn, h => RepC.lent hE a x cs hn h
  | .arr n a, x, cs, hn, ⟨e, h⟩ => ⟨e, RepL.mono (fun x cs => RepC.lent hE a x cs hn) x cs h⟩
  | .sl true a, x, cs, hn, h => by simp [Ty.noB] at hn
  | .sl false a, x, cs, hn, ⟨ad, cap, e, hl, hm, h⟩ => ⟨ad, cap, e, hl, hm, h.imp id fun ⟨blk, off, cs', ha, he, hr, hd⟩ => ⟨blk, off, cs', ha, hE blk he, RepL.mono (fun x cs => RepC.lent hE a x cs hn) x cs' hr, hd⟩⟩
/-- What a value may be that goes back to a caller. -/
def BackOK (w : World) (E E' : Bool → Nat → Prop) (L : Bool) : Prop := ∀ (t : Ty) (x : t.T) (cs : List Value), (L = true → t.noB = true) → RepC w E t x cs → RepC w E' t x cs
variable (hB : BackOK w E E' L) (hI : ∀ i j, mp i = some j → I' j = I i)
theorem SlAt.ren {i j : Nat} {u : Value} (h : I' j = I i) (k : SlAt I i u) : SlAt I' j u := by unfold SlAt at *; rw [h]; exact k
theorem PtrAt.ren {i j : Nat} {p : List Stp} {u : Value} (h : I' j = I i) (k : PtrAt I i p u) : PtrAt I' j p u := by unfold PtrAt at *; rw [h]; exact k
include hB
theorem AVC1.ren {v : AV} (hn : L = true → v.noB = true) (hv : ∀ u, AVR w E I v u → AVR w E' I' (v.ren mp) u) {c : List Value} (h : AVC1 w E I v c) : AVC1 w E' I' (v.ren mp) c := by
  cases v with
  | pv t x => simp only [AV.ren]; exact hB t x c (fun e => by simpa [AV.noB] using hn e) h
  | agg fs => exact (h : False).elim
  | tup fs => exact (h : False).elim
  | cst k => exact (h : False).elim
  | sl i =>
    obtain ⟨u, h3, h4, h5⟩ := h
    have := hv u h5
    simp only [AV.ren] at *
    split <;> simp_all [AVC1, partC]
  | ptr i p =>
    obtain ⟨u, h3, h4, h5⟩ := h
    have := hv u h5
    simp only [AV.ren] at *
    split <;> simp_all [AVC1, partC]
  | _ =>
    obtain ⟨u, h3, h4, h5⟩ := h
    exact ⟨u, h3, h4, hv u h5⟩
include hI
mutual
theorem AVR.ren : ∀ (v : AV) (u : Value), (L = true → v.noB = true) → AVR w E I v u → AVR w E' I' (v.ren mp) u
  | .undef, u, _, _ => by simp only [AV.ren, AVR]
  | .pv t x, u, hn, h => by
    simp only [AV.ren, AVR] at h ⊢
    obtain ⟨cs, h1, h2⟩ := h
    exact ⟨cs, hB t x cs (fun e => by simpa [AV.noB] using hn e) h1, h2⟩
  | .lit b, u, _, h => by simp only [AV.ren, AVR] at h ⊢; exact h
  | .nil .ptr, u, _, h => by simp only [AV.ren, AVR] at h ⊢; exact h
  | .nil .sl, u, _, h => by simp only [AV.ren, AVR] at h ⊢; exact h
  | .nil .map, u, _, h => by simp only [AV.ren, AVR] at h ⊢; exact h
  | .nil .fn, u, _, h => by simp only [AV.ren, AVR] at h ⊢; exact h
  | .ptr i p, u, _, h => by
    simp only [AV.ren, AVR] at h ⊢
    cases hm : mp i with
    | none => simp only [AVR]
    | some j => simp only [AVR]; exact h.ren (hI i j hm)
  | .fad t x, u, _, h => by simp only [AV.ren, AVR]
  | .sl i, u, _, h => by
    simp only [AV.ren, AVR] at h ⊢
    cases hm : mp i with
    | none => simp only [AVR]
    | some j => simp only [AVR]; exact h.ren (hI i j hm)
  | .slr i off len, u, _, h => by simp only [AV.ren, AVR]
  | .asl i p off len, u, _, h => by simp only [AV.ren, AVR]
  | .mp i, u, _, h => by simp only [AV.ren, AVR]
  | .yld i, u, _, h => by simp only [AV.ren, AVR]
  | .clo f cs, u, hn, h => by
    simp only [AV.ren, AVR] at h ⊢
    obtain ⟨vs, h1, h2⟩ := h
    exact ⟨vs, h1, AVRL.ren cs vs (fun e => by simpa [AV.noB] using hn e) h2⟩
  | .agg fs, u, hn, h => by
    simp only [AV.ren, AVR] at h ⊢
    obtain ⟨cs, h1, h2⟩ := h
    exact ⟨cs, h1, AVCL.ren fs cs (fun e => by simpa [AV.noB] using hn e) h2⟩
  | .tup fs, u, hn, h => by
    simp only [AV.ren, AVR] at h ⊢
    obtain ⟨vs, h1, h2⟩ := h
    exact ⟨vs, h1, AVRL.ren fs vs (fun e => by simpa [AV.noB] using hn e) h2⟩
  | .cst n, u, _, h => by simp only [AVR] at h
termination_by v => SizeOf.sizeOf v
theorem AVRL.ren : ∀ (l : List AV) (us : List Value), (L = true → noBL l = true) → AVRL w E I l us → AVRL w E' I' (renL mp l) us
  | [], us, _, h => AVRL_nil.2 (AVRL_nil.1 h)
  | v :: r, us, hn, h =>
    let ⟨u, q, e, h1, h2⟩ := AVRL_cons.1 h
    have hn' : L = true → v.noB = true ∧ noBL r = true := fun e => by simpa [noBL] using hn e
    AVRL_cons.2 ⟨u, q, e, AVR.ren v u (fun e => (hn' e).1) h1, AVRL.ren r q (fun e => (hn' e).2) h2⟩
termination_by l => SizeOf.sizeOf l
theorem AVCL.ren : ∀ (l : List AV) (cs : List Value), (L = true → noBL l = true) → AVCL w E I l cs → AVCL w E' I' (renL mp l) cs
  | [], cs, _, h => AVCL_nil.2 (AVCL_nil.1 h)
  | v :: r, cs, hn, h =>
    let ⟨c1, c2, e, h1, h2⟩ := AVCL_cons.1 h
    have hn' : L = true → v.noB = true ∧ noBL r = true := fun e => by simpa [noBL] using hn e
    AVCL_cons.2 ⟨c1, c2, e, h1.ren hB (fun e => (hn' e).1) (fun u hu => AVR.ren v u (fun e => (hn' e).1) hu), AVCL.ren r c2 (fun e => (hn' e).2) h2⟩
termination_by l => SizeOf.sizeOf l
end
theorem VarC.ren {v : AV} (hn : L = true → v.noB = true) {cs : List Value} (h : VarC w E I v cs) : VarC w E' I' (v.ren mp) cs := by
  cases v with
  | undef => exact h
  | agg fs => exact AVCL.ren hB hI fs cs (fun e => by simpa [AV.noB] using hn e) h
  | _ => exact .of_part (AVC1.ren hB hn (fun u hu => AVR.ren hB hI _ u hn hu) h)
omit hB hI
theorem ren_csz (v : AV) : (v.ren mp).csz = v.csz := by
  cases v <;> simp only [AV.ren] <;> first | rfl | (split <;> rfl)
theorem renL_len : ∀ l : List AV, (renL mp l).length = l.length
  | [] => rfl
  | v :: r => by simp [renL, renL_len r]
theorem renL_nth : ∀ (l : List AV) (k : Nat), nthD .undef (renL mp l) k = (nthD .undef l k).ren mp
  | [], k => by simp [renL, nthD, AV.ren]
  | v :: r, 0 => rfl
  | v :: r, k + 1 => renL_nth r k
mutual
theorem ren_same : ∀ v : AV, SameOff (v.ren mp) v
  | .pv t x => by simp only [AV.ren]; exact .pv
  | .agg fs => by
    simp only [AV.ren]
    exact SameOff.agg (renL_len fs) fun k => ⟨by rw [renL_nth]; exact ren_csz _, by rw [renL_nth]; exact renL_same fs k⟩
  | .undef | .lit _ | .nil _ | .fad _ _ | .slr _ _ _ | .asl _ _ _ _ | .mp _ | .yld _ | .cst _ | .clo _ _ | .tup _ => by
    simp only [AV.ren]
    exact .one (by intro t x e; cases e) (by intro fs e; cases e) (by intro t x e; cases e) (by intro fs e; cases e)
  | .sl i | .ptr i p => by
    simp only [AV.ren]
    split <;> exact .one (by intro t x e; cases e) (by intro fs e; cases e) (by intro t x e; cases e) (by intro fs e; cases e)
termination_by v => SizeOf.sizeOf v
theorem renL_same : ∀ (l : List AV) (k : Nat), SameOff ((nthD .undef l k).ren mp) (nthD .undef l k)
  | [], k => by simp only [nthD, AV.ren]; exact fun q => ⟨rfl, rfl⟩
  | v :: r, 0 => ren_same v
  | v :: r, k + 1 => renL_same r k
termination_by l => SizeOf.sizeOf l
end
end

/-! names that are forgotten -/
section
variable {b : Base} {us : List (Array Value)} {c : Cx} {s : AS} {a : Act}
theorem names_map (i j : Nat) : ∀ l : List AV, namesL i l = false → namesL i (l.map fun v => bif v.names j then AV.undef else v) = false
  | [], _ => rfl
  | v :: r, h => by
    simp only [namesL, Bool.or_eq_false_iff] at h
    simp only [List.map, namesL, Bool.or_eq_false_iff]
    refine ⟨?_, names_map i j r h.2⟩
    cases v.names j with
    | true => rfl
    | false => exact h.1
theorem drop_less {i j : Nat} {v : AV} (h : v.names i = false) : (v.drop j).names i = false := by
  unfold AV.drop
  cases hv : v.names j with
  | false => exact h
  | true =>
    simp only [cond_true]
    cases v with
    | agg fs => simp only [AV.forget, AV.names] at h ⊢; exact names_map i j fs h
    | _ => simp only [AV.forget, hv, cond_true]; rfl
theorem NoName.kill {i j : Nat} (h : St c us s a) (hn : NoName s i) : NoName (s.kill j) i := by
  have hrv : ∀ v, (s.kill j).rv v = s.rv v := fun v => rfl
  have kt : ∀ v, (s.rv v).names i = false → (s.rv (s.killT j v)).names i = false := by
    intro v hv
    unfold AS.killT
    cases (s.rv v).names j with
    | true => rfl
    | false => exact hv
  refine ⟨?_, ?_, ?_⟩
  · intro k v hv
    rw [kill_eq] at hv
    simp only [nth_map] at hv
    cases hn' : nth s.tm k with
    | none => rw [hn'] at hv; cases hv
    | some v0 => rw [hn'] at hv; cases hv; rw [hrv]; exact kt v0 (hn.1 k v0 hn')
  · intro l hl k v hv
    rw [kill_eq] at hl
    simp only [List.mem_map] at hl
    obtain ⟨l0, hl0, rfl⟩ := hl
    rw [nth_map] at hv
    cases hn' : nth l0 k with
    | none => rw [hn'] at hv; cases hv
    | some v0 => rw [hn'] at hv; cases hv; rw [hrv]; exact kt v0 (hn.2.1 l0 hl0 k v0 hn')
  · intro k v hk
    rw [box_kill] at hk
    cases hb : s.box k with
    | none => rw [hb] at hk; cases hk
    | some b0 =>
      rw [hb] at hk
      have hok := h.bx k b0 hb
      cases b0 with
      | buf t xs => cases hk
      | cst k => exact hok.elim
      | var v0 =>
        cases hk
        obtain ⟨blk, cs, T, h1, h2, h3⟩ := hok
        rw [hrv, rv_killV h3.ne_cst]
        exact drop_less (hn.2.2 k v0 hb)
theorem St.kills : ∀ (l : List Nat) {s : AS}, St c us s a → St c us (s.kills l) a ∧ (∀ i, i ∈ l ∨ NoName s i → NoName (s.kills l) i) ∧ (∀ j, c.I (s.kills l) j = c.I s j) ∧ (∀ j, (s.kills l).box j ≠ none ↔ s.box j ≠ none)
  | [], s, h => ⟨h, fun i hi => hi.elim (by intro e; cases e) id, fun _ => rfl, fun _ => Iff.rfl⟩
  | i :: r, s, h => by
    obtain ⟨h1, h2⟩ := h.kill i
    obtain ⟨k1, k2, k3, k4⟩ := St.kills r h1
    refine ⟨k1, ?_, fun j => (k3 j).trans (kill_I h), fun j => (k4 j).trans box_kill_none⟩
    intro j hj
    refine k2 j ?_
    rcases hj with hj | hj
    · rcases List.mem_cons.1 hj with e | hj
      · subst e; exact .inr h2
      · exact .inl hj
    · exact .inr (NoName.kill h hj)
theorem Fr.kills : ∀ (l : List Nat) {s : AS}, Fr b c s → Fr b c (s.kills l)
  | [], s, h => h
  | i :: r, s, h => Fr.kills r (h.kill i)
theorem kills_rv : ∀ (l : List Nat) (s : AS), (s.kills l).rv = s.rv
  | [], s => rfl
  | i :: r, s => (kills_rv r (s.kill i)).trans rfl
end
end Go.Xr

set_option linter.unusedVariables false
set_option linter.unusedSimpArgs false
set_option linter.unusedSectionVars false
namespace Go.Xr
open Go

theorem lookup_append {α : Type} : ∀ (l m : List (Nat × α)) (j : Nat), lookupN (l ++ m) j = (lookupN l j).or (lookupN m j)
  | [], m, j => rfl
  | (k, x) :: l, m, j => by
    simp only [List.cons_append, lookupN]
    cases Nat.beq j k with
    | true => rfl
    | false => exact lookup_append l m j
theorem lookup_of_mem {α : Type} : ∀ (l : List (Nat × α)) (i : Nat) (x : α), (l.map (·.1)).Nodup → (i, x) ∈ l → lookupN l i = some x
  | (k, y) :: l, i, x, hd, hm => by
    simp only [List.map_cons, List.nodup_cons] at hd
    rcases List.mem_cons.1 hm with e | hm
    · cases e; simp [lookupN]
    · have : i ≠ k := fun e => hd.1 (List.mem_map.2 ⟨(i, x), hm, e⟩)
      simp only [lookupN]
      cases hb : Nat.beq i k with
      | true => exact (this (Nat.eq_of_beq_eq_true hb)).elim
      | false => exact lookup_of_mem l i x hd.2 hm
  | [], _, _, _, hm => by cases hm
theorem lookup_none {α : Type} : ∀ (l : List (Nat × α)) (i : Nat), (∀ x ∈ l, x.1 ≠ i) → lookupN l i = none
  | [], _, _ => rfl
  | (k, y) :: l, i, h => by
    simp only [lookupN]
    cases hb : Nat.beq i k with
    | true => exact (h (k, y) (by simp) (Nat.eq_of_beq_eq_true hb).symm).elim
    | false => exact lookup_none l i fun x hx => h x (by simp [hx])
theorem box_rb {s : AS} {i : Nat} {b : Bx} (h : lookupN s.bx i = some b) : s.box i = some (s.rb b) := by unfold AS.box; rw [h]; rfl

theorem ren_rv {mp : Nat → Option Nat} {s : AS} {v : AV} : s.rv (v.ren mp) = v.ren mp := by
  cases v <;> simp only [AV.ren] <;> first | rfl | (split <;> rfl)
section
open Classical
variable {b : Base} {us us' : List (Array Value)} {c c' : Cx} {s s1 r : AS} {a a' : Act} {own0 bo0 : Nat → Prop} {to : Nat → Nat} {T : List Nat} {L : Bool}
open Classical in
noncomputable def backC (c c' : Cx) (r : AS) (to : Nat → Nat) : Cx :=
  ⟨c'.w, c'.fz, c.bo, fun j => if h : ∃ i, r.box i ≠ none ∧ to i = j then c'.ρ h.choose else c.ρ j, c.lp, c.mks⟩
theorem box_mem {i : Nat} (h : r.box i ≠ none) : ∃ bx, (i, bx) ∈ r.bx ∧ lookupN r.bx i = some bx := by
  unfold AS.box at h
  cases hl : lookupN r.bx i with
  | none => rw [hl] at h; exact (h rfl).elim
  | some bx => exact ⟨bx, lookup_mem _ _ _ hl, rfl⟩
theorem back_state (h0 : St c us s a) (h : St c us s1 a) (hfr : Fr b c s1) (hI1 : ∀ j, c.I s1 j = c.I s j) (hb1 : ∀ j, s1.box j ≠ none ↔ s.box j ≠ none) (k : St c' us' r a') (kf : Fr ⟨c.w, own0, c.fz, bo0, fun _ => none, fun _ => False⟩ c' r)
    (hown : ∀ x, own0 x ↔ ∃ j ∈ T, s.box j ≠ none ∧ ∃ y, c.ρ j = some y ∧ y.1 = x) (hbo : ∀ x, c.bo x → bo0 x) (hL : L = false → ∀ x, bo0 x → c.bo x)
    (nd1 : (r.bx.map (·.1)).Nodup) (nd2 : (r.bx.map fun x => to x.1).Nodup)
    (hgood : ∀ j ∈ T, NoName s1 j ∨ ∃ i, r.box i ≠ none ∧ to i = j ∧ c'.I r i = c.I s j)
    (hfresh : ∀ i, r.box i ≠ none → to i ∈ T ∨ NoName s1 (to i))
    (hlen : L = true → ∀ x ∈ r.bx, (r.ro x.2).noB = true) :
    St (backC c c' r to) us (backS s1 r to T) a ∧ Fr b (backC c c' r to) (backS s1 r to T) ∧ ∀ vs rs, (L = true → noBL vs = true) → AVRL c'.w c'.E (c'.I r) vs rs → AVRL c'.w (backC c c' r to).E ((backC c c' r to).I (backS s1 r to T)) (renL (mpOf r to) vs) rs := by
  generalize hc3 : backC c c' r to = c3
  generalize hs3 : backS s1 r to T = s3
  have hw3 : c3.w = c'.w := by rw [← hc3]; rfl
  have hfz3 : c3.fz = c'.fz := by rw [← hc3]; rfl
  have hbo3 : c3.bo = c.bo := by rw [← hc3]; rfl
  have hlp3 : c3.lp = c.lp := by rw [← hc3]; rfl
  have hmk3 : c3.mks = c.mks := by rw [← hc3]; rfl
  have htm3 : s3.tm = s1.tm := by rw [← hs3]; rfl
  have hup3 : s3.up = s1.up := by rw [← hs3]; rfl
  have hrv3 : s3.rv = s1.rv := by funext v; rw [← hs3]; rfl
  have hrb3 : s3.rb = s1.rb := by funext v; rw [← hs3]; rfl
  -- the names of the boxes
  have inj : ∀ i i', r.box i ≠ none → r.box i' ≠ none → to i = to i' → i = i' := by
    intro i i' h1 h2 e
    obtain ⟨b1, m1, _⟩ := box_mem h1
    obtain ⟨b2, m2, _⟩ := box_mem h2
    have := nodup_inj r.bx (f := fun x => to x.1) nd2 _ _ m1 m2 e
    cases this
    rfl
  have hρ : ∀ i, r.box i ≠ none → c3.ρ (to i) = c'.ρ i := by
    intro i hi
    rw [← hc3]
    have hex : ∃ i', r.box i' ≠ none ∧ to i' = to i := ⟨i, hi, rfl⟩
    show (if h : ∃ i', r.box i' ≠ none ∧ to i' = to i then c'.ρ h.choose else c.ρ (to i)) = _
    rw [dif_pos hex, inj _ _ hex.choose_spec.1 hi hex.choose_spec.2]
  have hρ' : ∀ j, (¬ ∃ i, r.box i ≠ none ∧ to i = j) → c3.ρ j = c.ρ j := by
    intro j hj
    rw [← hc3]
    show (if h : ∃ i, r.box i ≠ none ∧ to i = j then c'.ρ h.choose else c.ρ j) = _
    rw [dif_neg hj]
  have hbxs : s3.bx = (r.bx.map fun x => (to x.1, Bx.ren (mpOf r to) (r.ro x.2))) ++ (s1.bx.filter fun x => !(T.any (Nat.beq x.1)) && !((r.bx.map fun x => (to x.1, Bx.ren (mpOf r to) (r.ro x.2))).any fun y => Nat.beq x.1 y.1)) := by rw [← hs3]; rfl
  have boxN : ∀ i bx, r.box i = some bx → ∃ b0, (i, b0) ∈ r.bx ∧ bx = r.rb b0 ∧ s3.box (to i) = some ((r.ro b0).ren (mpOf r to)) := by
    intro i bx hbx
    have hi : r.box i ≠ none := by rw [hbx]; simp
    obtain ⟨b0, hm, hl⟩ := box_mem hi
    have e : bx = r.rb b0 := by rw [box_rb hl] at hbx; cases hbx; rfl
    have hl3 : lookupN s3.bx (to i) = some ((r.ro b0).ren (mpOf r to)) := by
      rw [hbxs, lookup_append, lookup_of_mem _ (to i) ((r.ro b0).ren (mpOf r to)) ?_ ?_]
      · rfl
      · rw [List.map_map]; exact nd2
      · exact List.mem_map.2 ⟨_, hm, rfl⟩
    refine ⟨b0, hm, e, ?_⟩
    rw [box_rb hl3]
    unfold AS.ro
    rw [← e]
    cases hbx' : bx with
    | cst n => subst hbx'; exact (k.bx i _ hbx).elim
    | var v => rfl
    | buf kd t xs => rfl
  have boxO : ∀ j, (¬ ∃ i, r.box i ≠ none ∧ to i = j) → s3.box j = if j ∈ T then none else s1.box j := by
    intro j hj
    have h1 : lookupN (r.bx.map fun x => (to x.1, Bx.ren (mpOf r to) (r.ro x.2))) j = none := by
      refine lookup_none _ _ fun x hx e => ?_
      obtain ⟨y, hy, rfl⟩ := List.mem_map.1 hx
      refine hj ⟨y.1, ?_, e⟩
      have := lookup_of_mem r.bx y.1 y.2 nd1 hy
      rw [box_rb this]
      simp
    unfold AS.box
    rw [hbxs, lookup_append, h1, hrb3]
    have hany : ((r.bx.map fun x => (to x.1, Bx.ren (mpOf r to) (r.ro x.2))).any fun y => Nat.beq j y.1) = false := by
      rw [Bool.eq_false_iff]
      intro hany
      obtain ⟨x, hx, e⟩ := List.any_eq_true.1 hany
      obtain ⟨y, hy, rfl⟩ := List.mem_map.1 hx
      refine hj ⟨y.1, ?_, (Nat.eq_of_beq_eq_true e).symm⟩
      have := lookup_of_mem r.bx y.1 y.2 nd1 hy
      rw [box_rb this]
      simp
    rw [lookup_filter (f := fun i => !(T.any (Nat.beq i)) && !((r.bx.map fun x => (to x.1, Bx.ren (mpOf r to) (r.ro x.2))).any fun y => Nat.beq i y.1)), hany]
    have hT : T.any (Nat.beq j) = decide (j ∈ T) := by
      rw [Bool.eq_iff_iff]
      simp only [List.any_eq_true, decide_eq_true_eq]
      constructor
      · rintro ⟨x, hx, e⟩; rw [Nat.eq_of_beq_eq_true e]; exact hx
      · intro hx; exact ⟨j, hx, Nat.beq_refl j⟩
    rw [hT]
    by_cases hj2 : j ∈ T
    · simp [hj2]
    · simp [hj2, Option.or]
  -- memory
  have notown : ∀ j x, s.box j ≠ none → j ∉ T → c.ρ j = some x → ¬ own0 x.1 := by
    intro j x hj hjT hx hown'
    obtain ⟨j2, h2, h3, y, h4, h5⟩ := (hown _).1 hown'
    exact hjT (by rw [h0.inj j j2 x y hj h3 hx h4 h5.symm]; exact h2)
  have blk : ∀ j x, s.box j ≠ none → j ∉ T → c.ρ j = some x → c'.w.heap[x.1]? = c.w.heap[x.1]? := fun j x hj hjT hx =>
    kf.block x.1 (h0.own j x hj hx).1 (notown j x hj hjT hx)
  have quiet : ∀ x, c.fz x ∨ c.bo x → c'.w.heap[x]? = c.w.heap[x]? := by
    intro x hx
    refine kf.block x (h0.lt x hx) fun hown' => ?_
    obtain ⟨j, h2, h3, y, h4, h5⟩ := (hown _).1 hown'
    have := (h0.own j y h3 h4).2
    rw [h5] at this
    exact hx.elim this.1 this.2
  have hE : ∀ b k, c.E b k → c3.E b k ∧ c'.w.heap[k]? = c.w.heap[k]? := by
    intro b k hk
    rcases hk with hk | ⟨hb, hk⟩
    · exact ⟨.inl (by rw [hfz3]; exact kf.fz' k hk), quiet k (.inl hk)⟩
    · exact ⟨.inr ⟨hb, by rw [hbo3]; exact hk⟩, quiet k (.inr hk)⟩
  have hB : BackOK c'.w c'.E c3.E L := by
    intro t x cs hn hr
    cases L with
    | true =>
      refine RepC.lent (fun k hk => ?_) t x cs (hn rfl) hr
      rcases hk with hk | ⟨hk, _⟩
      · exact .inl (by rw [hfz3]; exact hk)
      · cases hk
    | false =>
      refine RepC.mono (fun b k hk => ⟨?_, rfl⟩) t x cs hr
      rcases hk with hk | ⟨hb, hk⟩
      · exact .inl (by rw [hfz3]; exact hk)
      · exact .inr ⟨hb, by rw [hbo3]; exact hL rfl _ ((kf.bo k).1 hk)⟩
  -- what is known of the boxes
  have IN : ∀ i, r.box i ≠ none → c3.I s3 (to i) = c'.I r i := by
    intro i hi
    unfold Cx.I
    rw [hρ i hi, hw3]
    cases hb : r.box i with
    | none => exact (hi hb).elim
    | some bx =>
      obtain ⟨b0, _, e, hb3⟩ := boxN i bx hb
      rw [hb3]
      unfold AS.ro
      rw [← e]
      cases bx with
      | cst n => exact (k.bx i _ hb).elim
      | buf kd t xs => cases kd <;> rfl
      | var v =>
        simp only [Bx.ren, boxI]
        have e1 : s3.rv ((r.rv v).ren (mpOf r to)) = (r.rv v).ren (mpOf r to) := ren_rv
        rw [e1]
        have hs := ren_same (mp := mpOf r to) (r.rv v)
        have f1 : (fun p => offA p ((r.rv v).ren (mpOf r to))) = fun p => offA p (r.rv v) := funext fun p => (hs p).1
        have f2 : (fun p => arrA p ((r.rv v).ren (mpOf r to))) = fun p => arrA p (r.rv v) := funext fun p => (hs p).2
        rw [f1, f2]
  have IM : ∀ i j, mpOf r to i = some j → c3.I s3 j = c'.I r i := by
    intro i j hij
    unfold mpOf at hij
    cases hb : r.bx.any (fun x => Nat.beq i x.1) with
    | false => rw [hb] at hij; cases hij
    | true =>
      rw [hb] at hij
      cases hij
      obtain ⟨x, hx, e⟩ := List.any_eq_true.1 hb
      have e := Nat.eq_of_beq_eq_true e
      refine IN i ?_
      rw [e, box_rb (lookup_of_mem r.bx x.1 x.2 nd1 hx)]
      simp
  have IO : ∀ j, (NoName s1 j → False) → c3.I s3 j = c.I s1 j ∨ c3.I s3 j = none := by
    intro j hj
    by_cases hex : ∃ i, r.box i ≠ none ∧ to i = j
    · obtain ⟨i, hi, rfl⟩ := hex
      rcases hfresh i hi with hT | hN
      · rcases hgood _ hT with hN | ⟨i', h1, h2, h3⟩
        · exact (hj hN).elim
        · rw [inj i' i h1 hi h2] at h3
          left
          rw [IN i hi, h3, hI1]
      · exact (hj hN).elim
    · have hb := boxO j hex
      by_cases hT : j ∈ T
      · right
        unfold Cx.I
        rw [hb, if_pos hT]
        rfl
      · rw [if_neg hT] at hb
        left
        unfold Cx.I
        rw [hb, hρ' j hex, hw3, hrv3]
        cases hb1' : s1.box j with
        | none => rfl
        | some bx =>
          cases bx with
          | cst n => rfl
          | var v => rfl
          | buf kd t xs =>
            cases kd with
            | mp => rfl
            | lp p => rfl
            | sl =>
            simp only [boxI]
            cases hx : c.ρ j with
            | none => rfl
            | some x =>
              have := blk j x ((hb1 j).1 (by rw [hb1']; simp)) hT hx
              simp only [Option.map_some, roomOf, this]
  have IOv : ∀ {v : AV}, (∀ i, NoName s1 i → v.names i = false) → ∀ i, v.names i = true → c3.I s3 i = c.I s1 i ∨ c3.I s3 i = none := by
    intro v hv i hi
    exact IO i fun hn => by rw [hv i hn] at hi; cases hi
  have ownN : ∀ i x, r.box i ≠ none → c'.ρ i = some x → own0 x.1 ∨ c.w.heap.size ≤ x.1 := fun i x hi hx => kf.own i x hi hx
  have ownB : ∀ x, own0 x → b.own0 x ∨ b.w0.heap.size ≤ x := by
    intro x hx
    obtain ⟨j, h2, h3, y, h4, h5⟩ := (hown _).1 hx
    subst h5
    exact hfr.own j y ((hb1 j).2 h3) h4
  have sz : c.w.heap.size ≤ c'.w.heap.size := kf.size
  -- which boxes there are
  have cases3 : ∀ j, s3.box j ≠ none → (∃ i, r.box i ≠ none ∧ to i = j ∧ c3.ρ j = c'.ρ i) ∨ (s1.box j ≠ none ∧ j ∉ T ∧ c3.ρ j = c.ρ j ∧ s3.box j = s1.box j) := by
    intro j hj
    by_cases hex : ∃ i, r.box i ≠ none ∧ to i = j
    · obtain ⟨i, hi, rfl⟩ := hex
      exact .inl ⟨i, hi, rfl, hρ i hi⟩
    · right
      have hb := boxO j hex
      by_cases hT : j ∈ T
      · rw [hb, if_pos hT] at hj; exact (hj rfl).elim
      · rw [if_neg hT] at hb
        exact ⟨by rw [← hb]; exact hj, hT, hρ' j hex, hb⟩
  refine ⟨⟨?_, by unfold Marks; rw [hmk3]; exact h.df, ?_, ?_, ?_, ?_, ?_, ?_, by rw [hlp3]; exact h.lv⟩, ⟨?_, ?_, ?_, ?_, ?_, ?_, ?_, ?_, ?_, hlp3.trans hfr.lp, by rw [hmk3]; exact hfr.mks, by rw [hmk3]; exact hfr.mks'⟩, ?_⟩
  · intro k v hv
    rw [htm3] at hv
    obtain ⟨h1, h2⟩ := h.tm k v hv
    refine ⟨h1, ?_⟩
    rw [hrv3, hw3]
    exact AVR.mono hE _ _ (IOv fun i hn => hn.1 k v hv) h2
  · rw [hup3, hrv3, hw3]
    exact UpOK.mono hE s1.up us (fun l hl k v hv => IOv fun i hn => hn.2.1 l hl k v hv) h.up
  · intro j bx hj
    rcases cases3 j (by rw [hj]; simp) with ⟨i, hi, rfl, hρi⟩ | ⟨h1, h2, h3, h4⟩
    · cases hb : r.box i with
      | none => exact (hi hb).elim
      | some bi =>
        obtain ⟨b0, hm, e, hb3⟩ := boxN i bi hb
        have hok := k.bx i bi hb
        have hl : L = true → (r.ro b0).noB = true := fun e => hlen e _ hm
        rw [hb3] at hj
        cases hj
        unfold AS.ro at hl ⊢
        rw [← e] at hl ⊢
        cases bi with
        | cst n => exact hok.elim
        | buf kd t xs =>
          cases kd with
          | lp p =>
            obtain ⟨d, q1, _⟩ := hok
            rw [kf.lp] at q1
            cases q1
          | mp =>
            obtain ⟨blk', h1, h2⟩ := hok
            refine ⟨blk', by rw [hρi]; exact h1, ?_⟩
            rw [hw3]
            refine h2.imp rfl fun k' v' e => ?_
            subst e
            exact ⟨fun x cs hx => hB _ x cs (fun e => by have := hl e; simp only [Bx.noB, Ty.noB, Bool.and_eq_true] at this; exact this.1) hx, fun x cs hx => hB _ x cs (fun e => by have := hl e; simp only [Bx.noB, Ty.noB, Bool.and_eq_true] at this; exact this.2) hx⟩
          | sl =>
          obtain ⟨hm, hbx⟩ := hok
          refine ⟨hm, ?_⟩
          rcases hbx with ⟨h1, h2⟩ | ⟨blk', base', arr, T, lo, hi', cs, h1, h2, h3, h4, h5, h6⟩
          · exact .inl ⟨by rw [hρi]; exact h1, h2⟩
          · exact .inr ⟨blk', base', arr, T, lo, hi', cs, by rw [hρi]; exact h1, by rw [hw3]; exact h2, h3, by rw [hw3]; exact h4.mono (fun x cs hx => hB t x cs (fun e => by simpa [Bx.noB] using hl e) hx), h5, h6⟩
        | var v =>
          obtain ⟨blk', cs, T, h1, h2, h3⟩ := hok
          refine ⟨blk', cs, T, by rw [hρi]; exact h1, by rw [hw3]; exact h2, ?_⟩
          rw [ren_rv, hw3]
          exact h3.ren hB IM (fun e => by simpa [Bx.noB] using hl e)
    · rw [h4] at hj
      have hok := h.bx j bx hj
      cases bx with
      | cst n => exact hok.elim
      | var v =>
        obtain ⟨blk', cs, T, g1, g2, g3⟩ := hok
        refine ⟨blk', cs, T, by rw [h3]; exact g1, by rw [hw3, blk j _ ((hb1 j).1 h1) h2 g1]; exact g2, ?_⟩
        rw [hrv3, hw3]
        exact g3.mono hE (IOv fun i hn => hn.2.2 j v hj)
      | buf kd t xs => exact BoxOK.buf_mono (c := c) (s := s1) h3 (fun x hx => by rw [hw3]; exact blk j _ ((hb1 j).1 h1) h2 hx) (fun b k hk => by rw [hw3]; exact hE b k hk) (fun _ => by rw [hlp3]) hok
  · intro j k' x y hj hk hx hy hxy
    have diff : ∀ {i j x y}, r.box i ≠ none → c'.ρ i = some x → s1.box j ≠ none → j ∉ T → c.ρ j = some y → x.1 = y.1 → False := by
      intro i j x y h1 h2 h3 h4 h5 h6
      have h3 := (hb1 j).1 h3
      rcases ownN i x h1 h2 with k1 | k1
      · exact notown j y h3 h4 h5 (h6 ▸ k1)
      · have := (h0.own j y h3 h5).1
        omega
    rcases cases3 j hj with ⟨i, hi, rfl, hρi⟩ | ⟨h1, h2, h3, h4⟩ <;> rcases cases3 k' hk with ⟨i', hi', rfl, hρi'⟩ | ⟨h1', h2', h3', h4'⟩
    · rw [hρi] at hx
      rw [hρi'] at hy
      rw [k.inj i i' x y hi hi' hx hy hxy]
    · rw [hρi] at hx
      rw [h3'] at hy
      exact (diff hi hx h1' h2' hy hxy).elim
    · rw [hρi'] at hy
      rw [h3] at hx
      exact (diff hi' hy h1 h2 hx hxy.symm).elim
    · rw [h3] at hx
      rw [h3'] at hy
      exact h.inj j k' x y h1 h1' hx hy hxy
  · intro j x hj hx
    rw [hw3, hfz3, hbo3]
    rcases cases3 j hj with ⟨i, hi, rfl, hρi⟩ | ⟨h1, h2, h3, h4⟩
    · rw [hρi] at hx
      obtain ⟨k1, k2, k3⟩ := k.own i x hi hx
      exact ⟨k1, k2, fun hb => k3 ((kf.bo _).2 (hbo _ hb))⟩
    · rw [h3] at hx
      obtain ⟨k1, k2, k3⟩ := h.own j x h1 hx
      refine ⟨by omega, fun hf => ?_, k3⟩
      rcases kf.fz _ hf with g | g | g
      · exact k2 g
      · exact notown j x ((hb1 j).1 h1) h2 hx g
      · have g : c.w.heap.size ≤ x.1 := g
        omega
  · intro x hx
    rw [hfz3, hbo3] at hx
    rw [hw3]
    rcases hx with hx | hx
    · exact k.lt x (.inl hx)
    · have := h.lt x (.inr hx)
      omega
  · intro r' hr
    rw [hmk3] at hr
    obtain ⟨m1, m2, m3, m4⟩ := h.mks r' hr
    have hlt : r' < c.w.heap.size := (Array.getElem?_eq_some_iff.1 m1).1
    have hno : ¬ own0 r' := fun ho => by
      obtain ⟨j, g1, g2, y, g3, g4⟩ := (hown _).1 ho
      exact m4 j y ((hb1 j).2 g2) g3 g4
    refine ⟨?_, ?_, by rw [hbo3]; exact m3, ?_⟩
    · rw [hw3, kf.block r' hlt hno]; exact m1
    · rw [hfz3]
      intro hf
      rcases kf.fz _ hf with g | g | g
      · exact m2 g
      · exact hno g
      · have g : c.w.heap.size ≤ r' := g
        omega
    · intro j x hj hx e
      rcases cases3 j hj with ⟨i, hi, rfl, hρi⟩ | ⟨h1, h2, h3, h4⟩
      · rw [hρi] at hx
        rcases ownN i x hi hx with g | g
        · exact hno (e ▸ g)
        · omega
      · rw [h3] at hx
        exact m4 j x h1 hx e
  · rw [hw3]; exact kf.os.trans hfr.os
  · rw [hw3]; exact kf.tape.trans hfr.tape
  · rw [hw3]; exact kf.output.trans hfr.output
  · rw [hw3]; exact Nat.le_trans hfr.size sz
  · intro x hx hn
    rw [hw3]
    have hlt : x < c.w.heap.size := Nat.lt_of_lt_of_le hx hfr.size
    rw [← hfr.block x hx hn]
    refine kf.block x hlt fun ho => ?_
    rcases ownB x ho with g | g
    · exact hn g
    · omega
  · intro j x hj hx
    rcases cases3 j hj with ⟨i, hi, rfl, hρi⟩ | ⟨h1, h2, h3, h4⟩
    · rw [hρi] at hx
      rcases ownN i x hi hx with g | g
      · exact ownB _ g
      · exact .inr (Nat.le_trans hfr.size g)
    · rw [h3] at hx
      exact hfr.own j x h1 hx
  · intro x hx
    rw [hfz3] at hx
    rcases kf.fz x hx with g | g | g
    · exact hfr.fz x g
    · exact .inr (ownB x g)
    · exact .inr (.inr (Nat.le_trans hfr.size g))
  · intro x hx
    rw [hfz3]
    exact kf.fz' x (hfr.fz' x hx)
  · intro x
    rw [hbo3]
    exact hfr.bo x
  · intro vs rs hn hv
    exact AVRL.ren hB IM vs rs hn hv
end
end Go.Xr

set_option linter.unusedVariables false
set_option linter.unusedSimpArgs false
set_option linter.unusedSectionVars false
namespace Go.Xr
open Go

section
variable {F : Fence} {n : Nat} {P : Program} {K : Kit} {o : Oper} {a : Act} {w w' : World} {Qx : Exit → Act → World → Prop} {u : Value}
variable {b : Base} {us : List (Array Value)} {c c' : Cx} {s s' s0 : AS} {Q : Ex → AS → Prop} {T : TypeId}
/-- What a function that was looked at does. -/
def Smry.OK (P : Program) (S : Smry) : Prop :=
  (∃ fn code, P.funcs[S.f]? = some fn ∧ fn.body = some code ∧ (fn.name == "runtime.NumGoroutine") = false) ∧ S.σ.inR s00 = true ∧
  ∀ (F : Fence) (n : Nat), HF F → F.round = none → ∀ {b : Base}, (∀ k, ¬ b.mk0 k) → ∀ {c : Cx} {us : List (Array Value)} {V : List Value} {d : HL S.σ.holes} {x : Ways S.ws} {Q : Ex → AS → Prop},
    St c us (S.σ.fill s00 (HL.out _ d)).1 ⟨V.toArray, []⟩ → Fr b c (S.σ.fill s00 (HL.out _ d)).1 → S.M d = some x → (Ways.tree s00 S.ws x).sat Q →
    CallsIn F n P S.f V.toArray c.w fun e w' => ∃ c' r vs rs a', c'.w = w' ∧ Q (.ret vs) r ∧ St c' us r a' ∧ Fr b c' r ∧ AVRL c'.w c'.E (c'.I r) vs rs ∧ e = .returned (retV rs)
theorem badOf_spec {m : IdMap} {r : AS} : ∀ (gs : List AV) (q : List (Nat × SB)), ∀ x ∈ q, m.get x.1 ∈ badOf s m r gs q ∨
    ∃ k, nth gs k = some (.ptr x.1 []) ∧ nth q k = some x ∧ ∃ v v', s.box (m.get x.1) = some (.var v) ∧ r.box x.1 = some (.var v') ∧ (s.rv v).alike (r.rv v') = true
  | [], q, x, hx => by left; unfold badOf; exact List.mem_map.2 ⟨x, hx, rfl⟩
  | g :: gs, [], x, hx => by cases hx
  | g :: gs, (i, sb) :: q, x, hx => by
    have rest : x ∈ q → m.get x.1 ∈ badOf s m r gs q ∨ ∃ k, nth (g :: gs) k = some (.ptr x.1 []) ∧ nth ((i, sb) :: q) k = some x ∧ ∃ v v', s.box (m.get x.1) = some (.var v) ∧ r.box x.1 = some (.var v') ∧ (s.rv v).alike (r.rv v') = true := by
      intro hx
      rcases badOf_spec gs q x hx with h | ⟨k, h1, h2, h3⟩
      · exact .inl h
      · exact .inr ⟨k + 1, h1, h2, h3⟩
    simp only [badOf]
    cases hb : goodG s m r g i with
    | true =>
      simp only [cond_true]
      rcases List.mem_cons.1 hx with e | hx
      · subst e
        right
        simp only [goodG, Bool.and_eq_true] at hb
        obtain ⟨h1, h2⟩ := hb
        refine ⟨0, ?_, rfl, ?_⟩
        · split at h1
          · rename_i j; rw [Nat.eq_of_beq_eq_true h1]; rfl
          · cases h1
        · split at h2
          · rename_i v v' e1 e2; exact ⟨v, v', e1, e2, h2⟩
          · cases h2
      · exact rest hx
    | false =>
      simp only [cond_false]
      rcases List.mem_cons.1 hx with e | hx
      · subst e; left; exact List.mem_cons_self
      · rcases rest hx with h | h
        · exact .inl (List.mem_cons_of_mem _ h)
        · exact .inr h
theorem list_blk (h : St c us s a) {x : AV} {l : RL} {blk off m cap : Nat} (hl : s.list x = some l) (hx : AVR c.w c.E (c.I s) x (.slice (some ⟨blk, off, none⟩) m cap)) (hm : m ≠ 0) :
    (∃ b, c.E b blk) ∨ ∃ i, i ∈ (match x with | .sl i => [i] | .slr i _ _ => [i] | .asl i _ _ _ => [i] | _ => []) ∧ s.box i ≠ none ∧ ∃ y, c.ρ i = some y ∧ y.1 = blk := by
  unfold AS.list at hl
  split at hl
  · rename_i b' t xs
    cases hl
    left
    simp only [AVR, RepC, IsV, Ty.isAgg] at hx
    obtain ⟨cs, ⟨ad, cap', rfl, h1, h2, h3⟩, h4⟩ := hx
    simp at h4
    obtain ⟨rfl, rfl, rfl⟩ := h4
    rcases h3 with h3 | ⟨blk', off', cs', h3, h5, _⟩
    · exact (hm h3).elim
    · cases h3; exact ⟨_, h5⟩
  · simp only [AVR, RepC, IsV, Ty.isAgg] at hx
    obtain ⟨cs, ⟨s', rfl, _⟩, h4⟩ := hx
    simp at h4
  · rename_i i
    split at hl
    · rename_i t xs hb
      right
      refine ⟨i, by simp, by rw [hb]; simp, ?_⟩
      obtain ⟨hm', hbx⟩ := h.bx i _ hb
      have hI : c.I s i = some (.buf .sl t (List.length xs) ((c.ρ i).map fun x => (x.1, x.2, roomOf c.w x.1 x.2))) := by simp [Cx.I, boxI, hb]
      cases hρ : c.ρ i with
      | none => rw [hρ] at hI; simp only [AVR, SlAt, hI, Option.map_none] at hx; simp at hx; exact (hm hx.1).elim
      | some y =>
        rw [hρ] at hI
        simp only [AVR, SlAt, hI, Option.map_some] at hx
        obtain ⟨cap', e, _⟩ := hx
        simp at e
        exact ⟨y, rfl, e.1.1.symm⟩
    · cases hl
  · rename_i i off' len
    split at hl
    · rename_i t xs hb
      right
      refine ⟨i, by simp, by rw [hb]; simp, ?_⟩
      have hI : c.I s i = some (.buf .sl t (List.length xs) ((c.ρ i).map fun x => (x.1, x.2, roomOf c.w x.1 x.2))) := by simp [Cx.I, boxI, hb]
      simp only [AVR, SlrAt, hI] at hx
      obtain ⟨_, _, _, ad, cap', e, _, a5⟩ := hx
      simp at e
      obtain ⟨rfl, e2, _⟩ := e
      rcases a5 with a5 | ⟨blk', base, room, a6, a7⟩
      · rw [a5] at e2; exact (hm e2).elim
      · cases hρ : c.ρ i with
        | none => rw [hρ] at a6; cases a6
        | some y =>
          rw [hρ] at a6
          simp at a6 a7
          exact ⟨y, rfl, by rw [a6.1, a7.1]⟩
    · cases hl
  · rename_i i p off' len
    split at hl
    · rename_i v hb
      right
      refine ⟨i, by simp, by rw [hb]; simp, ?_⟩
      obtain ⟨blk', cs, T, h1, h2, h3⟩ := h.bx i _ hb
      have hI : c.I s i = some (.var blk' (fun p => offA p (s.rv v)) (fun p => arrA p (s.rv v))) := by simp [Cx.I, boxI, hb, h1]
      simp only [AVR, AslAt, hI] at hx
      obtain ⟨n1, sz, o', _, _, _, _, _, _, ad, cap', e, _, a7⟩ := hx
      simp at e
      obtain ⟨rfl, e2, _⟩ := e
      rcases a7 with a7 | a7
      · rw [a7] at e2; exact (hm e2).elim
      · simp at a7
        exact ⟨_, h1, a7.1.symm⟩
    · cases hl
  · cases hl
theorem lend_one (h : St c us s a) {E' : Bool → Nat → Prop} {I' : Nat → Option BI} {σ : SV} {v : AV} {u : Value} (hv : AVR c.w c.E (c.I s) v u) (hE : ∀ b k, c.E b k → E' b k ∧ E' true k)
    (hI : ∀ i, I' i = c.I s i ∨ I' i = none) (hl : ∀ i ∈ lentV s σ v, s.box i ≠ none → ∀ y, c.ρ i = some y → E' true y.1) : AVR c.w E' I' (lendV s σ v) u := by
  have plain : AVR c.w E' I' v u := AVR.mono (fun b k hk => ⟨(hE b k hk).1, rfl⟩) v u (fun i _ => hI i) hv
  have hrv : s.rv v = v := AS.rv_of hv
  unfold lendV
  unfold lentV at hl
  split
  · rename_i t
    dsimp only at hl
    rw [hrv] at hl ⊢
    split
    · simp only [AVR] at hv ⊢
      refine ⟨[.slice none 0 0], ⟨none, 0, rfl, Nat.le_refl _, Nat.zero_le _, .inl rfl⟩, ?_⟩
      rw [hv]
      rfl
    split
    · rename_i l hls
      obtain ⟨hm, hsp⟩ := list_spec h hls hv
      rcases hsp with ⟨y, rfl, _⟩ | ⟨ad, cap, rfl, h1, h2⟩
      · exact plain
      · have key : AVR c.w E' I' (.pv (.sl true l.t) l.xs) (.slice ad (List.length l.xs) cap) := by
          simp only [AVR]
          refine ⟨_, ⟨ad, cap, rfl, h1, hm, ?_⟩, rfl⟩
          by_cases h0 : List.length l.xs = 0
          · exact .inl h0
          · rcases h2 with h2 | ⟨blk, off, cs, rfl, h3, h4⟩
            · exact (h0 h2).elim
            · refine .inr ⟨blk, off, cs, rfl, ?_, h3.mono (fun x cs hx => hx.mono fun b k hk => ⟨(hE b k hk).1, rfl⟩), h4⟩
              rcases list_blk h hls hv h0 with ⟨b', hb'⟩ | ⟨i, hi, hbox, y, hy, e⟩
              · exact (hE b' blk hb').2
              · rw [← e]; exact hl i hi hbox y hy
        split
        · exact plain
        · exact key
    · exact plain
  · exact plain
theorem lend_all (h : St c us s a) {E' : Bool → Nat → Prop} {I' : Nat → Option BI} (hE : ∀ b k, c.E b k → E' b k ∧ E' true k) (hI : ∀ i, I' i = c.I s i ∨ I' i = none) : ∀ (σs : List SV) (as : List AV) (V : List Value),
    (∀ i ∈ lentL s σs as, s.box i ≠ none → ∀ y, c.ρ i = some y → E' true y.1) → AVRL c.w c.E (c.I s) as V → AVRL c.w E' I' (lendL s σs as) V
  | σ :: r, v :: q, V, hl, hv => by
    obtain ⟨u, q', rfl, h1, h2⟩ := AVRL_cons.1 hv
    simp only [lentL] at hl
    exact AVRL_cons.2 ⟨u, q', rfl, lend_one h h1 hE hI (fun i hi => hl i (List.mem_append.2 (.inl hi))), lend_all h hE hI r q q' (fun i hi => hl i (List.mem_append.2 (.inr hi))) h2⟩
  | [], as, V, hl, hv => by unfold lendL; exact AVRL.mono (fun b k hk => ⟨(hE b k hk).1, rfl⟩) as V (fun i _ => hI i) hv
  | _ :: _, [], V, hl, hv => by unfold lendL; exact AVRL.mono (fun b k hk => ⟨(hE b k hk).1, rfl⟩) [] V (fun i _ => hI i) hv
theorem getB_mem {m : IdMap} : ∀ (bs : List (Nat × SB)) (l : List PV), getB s m bs = some l → ∀ x ∈ bs, ∃ li, x.2.get s m x.1 = some li
  | (i, sb) :: bs, l, h, x, hx => by
    simp only [getB] at h
    split at h
    · rename_i l1 l2 h1 h2
      rcases List.mem_cons.1 hx with e | hx
      · subst e; exact ⟨l1, h1⟩
      · exact getB_mem bs l2 h2 x hx
    · cases h
  | [], _, _, _, hx => by cases hx
/-- the ghosts' values -/
theorem ghosts {I : Nat → Option BI} {E : Bool → Nat → Prop} {m : IdMap} : ∀ bs : List (Nat × SB), (∀ x ∈ bs, ∃ u, AVR w E I (ghostV m x) u) → ∃ us, AVRL w E I (bs.map (ghostV m)) us
  | [], _ => ⟨[], AVRL_nil.2 rfl⟩
  | x :: bs, h => by
    obtain ⟨u, hu⟩ := h x (by simp)
    obtain ⟨us, hus⟩ := ghosts bs fun y hy => h y (by simp [hy])
    exact ⟨u :: us, AVRL_cons.2 ⟨u, us, rfl, hu, hus⟩⟩
theorem ext00 : Ext s00 s := ⟨⟨s.env, rfl⟩, s.benv, rfl⟩
theorem retA_ren {mp : Nat → Option Nat} (vs : List AV) : (retA vs).ren mp = retA (renL mp vs) := by
  match vs with
  | [] => simp only [retA, AV.ren, renL]
  | [v] => simp only [retA, renL]
  | u :: v :: r => simp only [retA, AV.ren, renL]
theorem any_beq {l : List Nat} {i : Nat} : l.any (fun j => Nat.beq j i) = true ↔ i ∈ l := by
  rw [List.any_eq_true]
  exact ⟨fun ⟨x, hx, e⟩ => by rw [← Nat.eq_of_beq_eq_true e]; exact hx, fun h => ⟨i, h, Nat.beq_refl i⟩⟩
/-- A call of a function that was looked at. -/
theorem Smry.apply_sound {S : Smry} (hS : S.OK P) (hF : HF F) (hro : F.round = none) {V : List Value} {as : List AV} {t : Tree} (ht : S.apply o as s = some t) (hs : t.sat Q) (hv : AVRL c.w c.E (c.I s) as V) (h : St c us s a) (hfr : Fr b c s) :
    CallsIn F n P S.f V.toArray c.w fun e w' => ∃ v, e = .returned v ∧ Abs b us Q (a.put o.dst v) w' := by
  unfold Smry.apply at ht
  dsimp only at ht
  generalize hm : findB s S.σ.bx (findL s S.σ.tm as []) = m at ht
  generalize hlent : lentL s S.σ.tm as = lent at ht
  generalize hsB : smallS s (lendL s S.σ.tm as) S.σ m = sB at ht
  cases hc : (S.σ.ok sB m [] && S.σ.noLp && (lent.all fun i => !(S.σ.bx.any fun y => Nat.beq (m.get y.1) i))) with
  | false => rw [hc] at ht; cases ht
  | true =>
    rw [hc] at ht
    simp only [cond_true] at ht
    simp only [Bool.and_eq_true] at hc
    obtain ⟨⟨hok, hnlp⟩, hdis⟩ := hc
    split at ht
    · rename_i l hget
      split at ht
      · rename_i d hd
        cases ht
        obtain ⟨x, hx, hq⟩ := hs
        replace hq := Tree.sat_bind _ hq
        generalize hT : S.σ.bx.map (fun x => m.get x.1) = T
        have inT : ∀ i, (S.σ.bx.any fun y => Nat.beq (m.get y.1) i) = true ↔ i ∈ T := by
          intro i
          rw [← hT, ← any_beq, List.any_map]
          rfl
        have hdis : ∀ j ∈ lent, j ∉ T := by
          intro j hj hjT
          have := List.all_eq_true.1 hdis j hj
          rw [(inT j).2 hjT] at this
          cases this
        generalize hcB : (⟨c.w, c.fz, fun k => c.bo k ∨ ∃ j ∈ lent, s.box j ≠ none ∧ ∃ y, c.ρ j = some y ∧ y.1 = k, c.ρ, fun _ => none, fun _ => False⟩ : Cx) = cB
        have hwB : cB.w = c.w := by rw [← hcB]
        have hfzB : cB.fz = c.fz := by rw [← hcB]
        have hρB : cB.ρ = c.ρ := by rw [← hcB]
        have hlpB : cB.lp = fun _ => none := by rw [← hcB]
        have hmkB : cB.mks = fun _ => False := by rw [← hcB]
        have hboB : ∀ k, cB.bo k ↔ c.bo k ∨ ∃ j ∈ lent, s.box j ≠ none ∧ ∃ y, c.ρ j = some y ∧ y.1 = k := fun k => by rw [← hcB]
        have hE : ∀ b k, c.E b k → cB.E b k ∧ cB.E true k := by
          intro b k hk
          rcases hk with hk | ⟨hb, hk⟩
          · exact ⟨.inl (by rw [hfzB]; exact hk), .inl (by rw [hfzB]; exact hk)⟩
          · exact ⟨.inr ⟨hb, (hboB k).2 (.inl hk)⟩, .inr ⟨rfl, (hboB k).2 (.inl hk)⟩⟩
        have hE1 : ∀ b k, c.E b k → cB.E b k ∧ c.w.heap[k]? = c.w.heap[k]? := fun b k hk => ⟨(hE b k hk).1, rfl⟩
        have hless := h.less (tm := []) (f := fun i => S.σ.bx.any fun y => Nat.beq (m.get y.1) i) (up := s.up) (fun k v hv => by simp [nth] at hv) rfl
        have hIeq : cB.I sB = c.I { s with tm := [], bx := s.bx.filter fun x => S.σ.bx.any fun y => Nat.beq (m.get y.1) x.1, up := s.up } := by rw [← hsB, ← hcB]; rfl
        have hbeq : sB.box = AS.box { s with tm := [], bx := s.bx.filter fun x => S.σ.bx.any fun y => Nat.beq (m.get y.1) x.1, up := s.up } := by rw [← hsB]; rfl
        have hrvB : sB.rv = s.rv := by rw [← hsB]; rfl
        have hIB : ∀ i, cB.I sB i = c.I s i ∨ cB.I sB i = none := fun i => by rw [hIeq]; exact less_I (tm := []) (f := fun i => S.σ.bx.any fun y => Nat.beq (m.get y.1) i) (up := s.up) i
        have hboxB : ∀ i, sB.box i = if (S.σ.bx.any fun y => Nat.beq (m.get y.1) i) then s.box i else none := by
          intro i
          rw [hbeq]
          unfold AS.box
          simp only [lookup_filter (f := fun i => S.σ.bx.any fun y => Nat.beq (m.get y.1) i)]
          split <;> rfl
        have boxT : ∀ i, i ∈ T → sB.box i = s.box i := fun i hi => by rw [hboxB, if_pos ((inT i).2 hi)]
        have boxT' : ∀ i, sB.box i ≠ none → i ∈ T ∧ s.box i ≠ none := by
          intro i hi
          rw [hboxB] at hi
          split at hi
          · rename_i h1; exact ⟨(inT i).1 h1, hi⟩
          · exact (hi rfl).elim
        have hIT : ∀ i, i ∈ T → cB.I sB i = c.I s i := fun i hi => by
          unfold Cx.I
          rw [hwB, hρB, hrvB, boxT i hi]
        have hgets : ∃ l2, getB sB m S.σ.bx = some l2 := by
          unfold SS.get at hget
          split at hget
          · rename_i h1 h2 h3; exact ⟨_, h2⟩
          · cases hget
        obtain ⟨l2, hl2⟩ := hgets
        have mT : ∀ x ∈ S.σ.bx, m.get x.1 ∈ T := fun x hx => by rw [← hT]; exact List.mem_map.2 ⟨x, hx, rfl⟩
        have hgh : ∀ x ∈ S.σ.bx, ∃ u, AVR c.w cB.E (cB.I sB) (ghostV m x) u := by
          rintro ⟨i, sb⟩ hx
          obtain ⟨li, hli⟩ := getB_mem _ _ hl2 _ hx
          have hT' := mT _ hx
          have hb := boxT _ hT'
          have hI := hIT _ hT'
          cases sb with
          | cst n =>
            have := List.all_eq_true.1 hS.2.1 _ hx
            simp [s00, len, Nat.blt] at this
          | var v =>
            simp only [SB.get] at hli
            split at hli
            · rename_i y hy
              rw [hb] at hy
              obtain ⟨blk, cs, T', h1, h2, h3⟩ := h.bx _ _ hy
              have hIs : c.I s (m.get i) = some (.var blk (fun p => offA p (s.rv y)) (fun p => arrA p (s.rv y))) := by
                unfold Cx.I; rw [hy, h1]; rfl
              refine ⟨.pointer (some ⟨blk, 0, none⟩), ?_⟩
              simp only [ghostV, AVR, PtrAt, hI, hIs]
              exact ⟨0, by simp only [offA], rfl⟩
            · cases hli
          | buf kd t =>
            simp only [SB.get] at hli
            split at hli
            · rename_i kd' t' xs hy
              have hkd : kd = kd' := by
                cases hq : kd.eq kd' && t.eqt t' with
                | false => rw [hq] at hli; cases hli
                | true => simp only [Bool.and_eq_true] at hq; exact BK.eq_eq hq.1
              subst hkd
              have hfree := List.all_eq_true.1 hnlp _ hx
              simp only at hfree
              rw [hb] at hy
              cases kd with
              | lp p => cases hfree
              | mp =>
                obtain ⟨blk', h1, h2⟩ := h.bx _ _ hy
                have hIs : c.I s (m.get i) = some (.buf .mp t' 0 (some (blk', 0, 0))) := by unfold Cx.I; rw [hy, h1]; rfl
                exact ⟨.map (some blk'), by simp only [ghostV, AVR, MpAt, hI, hIs]⟩
              | sl =>
              obtain ⟨hm', hbx⟩ := h.bx _ _ hy
              rcases hbx with ⟨h1, h2⟩ | ⟨blk', base', arr, T', lo, hi, cs, h1, h2, h3, h4, h5, h6⟩
              · have hIs : c.I s (m.get i) = some (.buf .sl t' (List.length xs) none) := by unfold Cx.I; rw [hy, h1]; rfl
                exact ⟨.slice none 0 0, by simp only [ghostV, AVR, SlAt, hI, hIs]; exact ⟨none, rfl⟩⟩
              · have hIs : c.I s (m.get i) = some (.buf .sl t' (List.length xs) (some (blk', base', roomOf c.w blk' base'))) := by unfold Cx.I; rw [hy, h1]; rfl
                refine ⟨.slice (some ⟨blk', base', none⟩) (List.length xs) (List.length xs), ?_⟩
                simp only [ghostV, AVR, SlAt, hI, hIs]
                refine ⟨_, rfl, Nat.le_refl _, ?_⟩
                have hlen := RepL.len (RepC.len t') xs cs h4
                simp only [roomOf, h2]
                omega
            · cases hli
        obtain ⟨gv, hgv⟩ := ghosts S.σ.bx hgh
        have htm : sB.tm = lendL s S.σ.tm as := by rw [← hsB]; rfl
        have hup : sB.up = [S.σ.bx.map (ghostV m)] := by rw [← hsB]; rfl
        have hargs : AVRL c.w cB.E (cB.I sB) (lendL s S.σ.tm as) V := lend_all h hE hIB _ _ _ (fun i hi hb y hy => .inr ⟨rfl, (hboB _).2 (.inr ⟨i, by rw [← hlent]; exact hi, hb, y, hy, rfl⟩)⟩) hv
        have hSt : St cB [gv.toArray] sB ⟨V.toArray, []⟩ := by
          refine ⟨?_, ⟨[], List.nodup_nil, rfl, fun r hr => by cases hr⟩, ?_, ?_, ?_, ?_, ?_, fun r hr => (by rw [hmkB] at hr; cases hr), fun i d hd => (by rw [hlpB] at hd; cases hd)⟩
          · intro k v hk
            rw [htm] at hk
            obtain ⟨u, h1, h2⟩ := AVRL_nth _ _ k v hargs hk
            have hlt : k < V.length := by rw [← AVRL_len _ _ hargs]; exact nth_lt _ _ _ hk
            refine ⟨by simpa using hlt, ?_⟩
            rw [hwB, AS.rv_of h2]
            have : (V.toArray).getD k undef = u := by rw [Array.getD_eq_getD_getElem?]; simp [h1]
            rw [this]
            exact h2
          · rw [hup, hwB]
            refine ⟨_, [], rfl, ?_, rfl⟩
            intro k v hk
            obtain ⟨u, h1, h2⟩ := AVRL_nth _ _ k v hgv hk
            have hlt : k < gv.length := by rw [← AVRL_len _ _ hgv]; exact nth_lt _ _ _ hk
            refine ⟨by simpa using hlt, ?_⟩
            rw [AS.rv_of h2]
            have : (gv.toArray).getD k undef = u := by rw [Array.getD_eq_getD_getElem?]; simp [h1]
            rw [this]
            exact h2
          · intro i bx hi
            rw [hbeq] at hi
            have hok := hless.bx i bx hi
            cases bx with
            | cst n => exact hok.elim
            | var v =>
              obtain ⟨blk, cs, T', h1, h2, h3⟩ := hok
              refine ⟨blk, cs, T', by rw [hρB]; exact h1, by rw [hwB]; exact h2, ?_⟩
              rw [hwB, hrvB]
              exact VarC.mono hE1 (fun j _ => .inl (by rw [hIeq])) h3
            | buf kd t xs =>
              refine BoxOK.buf_mono (c := c) (by rw [hρB]) (fun x hx => by rw [hwB]) (fun b k hk => by rw [hwB]; exact hE1 b k hk) (fun hf => ?_) hok
              rw [← hbeq] at hi
              obtain ⟨hiT, hne⟩ := boxT' i (by rw [hi]; simp)
              rw [← hT] at hiT
              obtain ⟨x, hx, e⟩ := List.mem_map.1 hiT
              have hfree := List.all_eq_true.1 hnlp _ hx
              obtain ⟨li, hli⟩ := getB_mem _ _ hl2 _ hx
              obtain ⟨xi, sb⟩ := x
              simp only at e hli hfree
              cases sb with
              | cst n =>
                have := List.all_eq_true.1 hS.2.1 _ hx
                simp [s00, len, Nat.blt] at this
              | var v =>
                simp only [SB.get, e, hi] at hli
                cases hli
              | buf kd2 t2 =>
                simp only [SB.get, e, hi] at hli
                cases hq : kd2.eq kd && t2.eqt t with
                | false => rw [hq] at hli; cases hli
                | true =>
                  simp only [Bool.and_eq_true] at hq
                  cases BK.eq_eq hq.1
                  simp only [hf] at hfree
                  cases hfree
          · intro i j x y hi hj
            rw [hρB]
            exact h.inj i j x y (boxT' i hi).2 (boxT' j hj).2
          · intro i x hi hx
            rw [hρB] at hx
            obtain ⟨h1, h2⟩ := boxT' i hi
            obtain ⟨k1, k2, k3⟩ := h.own i x h2 hx
            refine ⟨by rw [hwB]; exact k1, by rw [hfzB]; exact k2, fun hb => ?_⟩
            rcases (hboB _).1 hb with hb | ⟨j, g1, g2, y, g3, g4⟩
            · exact k3 hb
            · exact hdis j g1 (by rw [← h.inj i j x y h2 g2 hx g3 g4.symm]; exact h1)
          · intro k hk
            rw [hfzB, hboB] at hk
            rw [hwB]
            rcases hk with hk | hk | ⟨j, g1, g2, y, g3, g4⟩
            · exact h.lt k (.inl hk)
            · exact h.lt k (.inr hk)
            · rw [← g4]; exact (h.own j y g2 g3).1
        have hFr : Fr ⟨c.w, fun x => ∃ j ∈ T, s.box j ≠ none ∧ ∃ y, c.ρ j = some y ∧ y.1 = x, c.fz, cB.bo, fun _ => none, fun _ => False⟩ cB sB := by
          refine ⟨by rw [hwB], by rw [hwB], by rw [hwB], by rw [hwB]; exact Nat.le_refl _, fun k _ _ => by rw [hwB], ?_, fun k hk => .inl (by rw [hfzB] at hk; exact hk), fun k hk => by rw [hfzB]; exact hk, fun k => Iff.rfl, hlpB, fun r hr => hr.elim, fun r hr => by rw [hmkB] at hr; exact hr.elim⟩
          intro i x hi hx
          rw [hρB] at hx
          obtain ⟨h1, h2⟩ := boxT' i hi
          exact .inl ⟨i, h1, h2, x, hx, rfl⟩
        obtain ⟨c1, s1, e1, e2, g1, g2, _⟩ := fill_state hSt hFr ext00 hok hS.2.1 hget
        have e2 := e2 []
        rw [List.append_nil, ← HL.out_mk _ _ _ hd] at e2
        have e1 : c1.w = c.w := e1.trans hwB
        rw [← e1]
        refine CallsIn.mono (hS.2.2 F n hF hro (fun _ hk => hk) (V := V) (d := d) (by rw [e2]; exact g1) (by rw [e2]; exact g2) hx hq) ?_
        rintro e w' ⟨c', r, vs, rs, a', hw, hb, k, kf, hvs, rfl⟩
        unfold Smry.back at hb
        dsimp only at hb
        generalize hto : toOf s o m S.σ = to at hb
        generalize hL : someL lent = L at hb
        obtain ⟨hok2, hb⟩ := sat_ok hb
        simp only [Bool.and_eq_true] at hok2
        obtain ⟨⟨n1, n2⟩, n3⟩ := hok2
        generalize hkl : List.append (badOf s m r (headU r.up) S.σ.bx) ((r.bx.filter fun x => !passB S.σ x.1).map fun x => to x.1) = kl at hb
        obtain ⟨ks, kn, kI, kb⟩ := h.kills kl
        rw [hT] at hb
        have hLn : L = true → noBL vs = true ∧ (r.bx.all fun x => (r.ro x.2).noB) = true := by
          intro e
          rw [e] at n3
          simpa using n3
        have topass : ∀ x ∈ S.σ.bx, to x.1 = m.get x.1 := by
          intro x hx
          rw [← hto]
          have : passB S.σ x.1 = true := List.any_eq_true.2 ⟨x, hx, Nat.beq_refl _⟩
          simp only [toOf, this, cond_true]
        have key := back_state (L := L) h ks (hfr.kills kl) kI kb k kf (fun _ => Iff.rfl) (fun x hx => (hboB x).2 (.inl hx)) ?_ (nodupN_spec _ n1) (nodupN_spec _ n2) ?_ ?_ ?_
        · obtain ⟨r1, r2, r3⟩ := key
          rw [retT_eq] at hb
          have hres := ret_avr (r3 vs rs (fun e => (hLn e).1) hvs)
          rw [← retA_ren] at hres
          exact ⟨_, rfl, backC c c' r to, _, hw, hb, r1.putO hres o.dst, r2.putO o.dst _⟩
        · intro e x hx
          cases lent with
          | nil =>
            rcases (hboB x).1 hx with hx | ⟨j, hj, _⟩
            · exact hx
            · cases hj
          | cons y l => simp only [someL] at hL; rw [← hL] at e; cases e
        · intro j hj
          rw [← hT] at hj
          obtain ⟨x, hx, rfl⟩ := List.mem_map.1 hj
          rcases badOf_spec (headU r.up) S.σ.bx x hx with hb | ⟨kk, h1, h2, v, v', h3, h4, h5⟩
          · left; exact kn _ (.inl (by rw [← hkl]; exact List.mem_append.2 (.inl hb)))
          · right
            refine ⟨x.1, by rw [h4]; simp, topass x hx, ?_⟩
            have hu := k.up
            cases hup : r.up with
            | nil => rw [hup] at h1; simp [headU, nth] at h1
            | cons l0 rest =>
              rw [hup] at hu h1
              obtain ⟨u0, q0, eu, hu1, _⟩ := hu
              simp only [List.cons.injEq] at eu
              obtain ⟨eu, _⟩ := eu
              subst eu
              obtain ⟨_, hg⟩ := hu1 kk _ h1
              have hn : nth (S.σ.bx.map (ghostV m)) kk = some (ghostV m x) := by rw [nth_map, h2]; rfl
              obtain ⟨u1, e3, hg2⟩ := AVRL_nth _ _ kk _ hgv hn
              have : gv.toArray.getD kk undef = u1 := by rw [Array.getD_eq_getD_getElem?]; simp [e3]
              rw [this] at hg
              obtain ⟨blk', cs', T', b1, b2, b3⟩ := k.bx x.1 _ h4
              have hI' : c'.I r x.1 = some (.var blk' (fun p => offA p (r.rv v')) (fun p => arrA p (r.rv v'))) := by unfold Cx.I; rw [h4, b1]; rfl
              simp only [AS.rv, AVR, PtrAt, hI', offA] at hg
              obtain ⟨o', ho', hu'⟩ := hg
              cases ho'
              obtain ⟨blk, cs, T', d1, d2, d3⟩ := h.bx (m.get x.1) _ h3
              have hIs : c.I s (m.get x.1) = some (.var blk (fun p => offA p (s.rv v)) (fun p => arrA p (s.rv v))) := by unfold Cx.I; rw [h3, d1]; rfl
              have hIB' := hIT _ (mT x hx)
              have hblk : blk' = blk := by
                obtain ⟨i, sb⟩ := x
                cases sb with
                | var sv =>
                  simp only [ghostV, AVR, PtrAt, hIB', hIs, offA] at hg2
                  obtain ⟨o2, ho2, hu2⟩ := hg2
                  cases ho2
                  rw [hu2] at hu'
                  simp at hu'
                  exact hu'.symm
                | cst n =>
                  simp only [ghostV, AVR] at hg2
                  obtain ⟨x1, x2, x3, e⟩ := hg2.one
                  rw [e] at hu'
                  cases hu'
                | buf kd t =>
                  cases kd with
                  | mp =>
                    simp only [ghostV, AVR] at hg2
                    obtain ⟨x1, e⟩ := hg2.one
                    rw [e] at hu'
                    cases hu'
                  | _ =>
                    simp only [ghostV, AVR] at hg2
                    obtain ⟨x1, x2, x3, e⟩ := hg2.one
                    rw [e] at hu'
                    cases hu'
              have hsame := alike_same h5
              rw [hI', hIs, hblk]
              have f1 : (fun p => offA p (r.rv v')) = fun p => offA p (s.rv v) := funext fun p => (hsame p).1.symm
              have f2 : (fun p => arrA p (r.rv v')) = fun p => arrA p (s.rv v) := funext fun p => (hsame p).2.symm
              rw [f1, f2]
        · intro i hi
          obtain ⟨b0, hm', _⟩ := box_mem hi
          cases hp : passB S.σ i with
          | true =>
            left
            obtain ⟨x, hx, e⟩ := List.any_eq_true.1 hp
            rw [Nat.eq_of_beq_eq_true e, topass x hx]
            exact mT x hx
          | false =>
            right
            refine kn _ (.inl ?_)
            rw [← hkl]
            exact List.mem_append.2 (.inr (List.mem_map.2 ⟨(i, b0), List.mem_filter.2 ⟨hm', by simp [hp]⟩, rfl⟩))
        · intro e x hx
          exact List.all_eq_true.1 (hLn e).2 x hx
      · cases ht
    · cases ht
end
end Go.Xr

set_option linter.unusedVariables false
set_option linter.unusedSimpArgs false
set_option linter.unusedSectionVars false
namespace Go.Xr
open Go

section
variable {F : Fence} {n : Nat} {P : Program} {K : Kit} {o : Oper} {a : Act} {w w' : World} {Qx : Exit → Act → World → Prop} {u : Value}
variable {b : Base} {us : List (Array Value)} {c c' : Cx} {s s' s0 : AS} {Q : Ex → AS → Prop} {T : TypeId}
theorem sumOf_some {f : FuncId} {as : List AV} {t : Tree} : ∀ l : List Smry, sumOf l f o as s = some t → ∃ S ∈ l, S.f = f ∧ S.apply o as s = some t
  | S :: l, h => by
    simp only [sumOf] at h
    cases hb : Nat.beq S.f f with
    | true =>
      rw [hb] at h
      simp only [cond_true] at h
      split at h
      · rename_i t' ht
        cases h
        exact ⟨S, by simp, Nat.eq_of_beq_eq_true hb, ht⟩
      · obtain ⟨S', h1, h2⟩ := sumOf_some l h
        exact ⟨S', List.mem_cons_of_mem _ h1, h2⟩
    | false =>
      rw [hb] at h
      simp only [cond_false] at h
      obtain ⟨S', h1, h2⟩ := sumOf_some l h
      exact ⟨S', List.mem_cons_of_mem _ h1, h2⟩
  | [], h => by cases h
theorem callS_sound {l : List Smry} (hl : ∀ S ∈ l, S.OK P) {L : Nat → Option LD} {us0 : List (Array Value)} : CallSound P L us0 (callS l) := by
  intro F n pre b hF _ o cl x a c s us Q Qx _ ho hcal h hfr hs
  have hx := h.ev x
  generalize s.ev x = X at *
  cases X with
  | clo f cs =>
    simp only [AVR] at hx
    obtain ⟨vs, hxe, hxc⟩ := hx
    have hargs : AVRL c.w c.E (c.I s) (List.append (cl.args.toList.map s.ev) cs) ((cl.args.toList.map a.eval) ++ vs) := AVRL_append _ _ _ _ (h.evs _) hxc
    simp only [callS] at hs
    generalize hA : List.append (cl.args.toList.map s.ev) cs = A at *
    split at hs
    · rename_i t ht
      obtain ⟨S, hS, rfl, hap⟩ := sumOf_some l ht
      have hok := hl S hS
      obtain ⟨⟨fn, code, hf, hbody, hname⟩, _⟩ := id hok
      generalize hV : (cl.args.toList.map a.eval) ++ vs = V at *
      have hrun : (execOp a.eval o).run P c.w = .ok (.enter S.f V.toArray) c.w := by
        simp only [execOp, ho, resolve, hcal, hxe, Deferred.ofValue, Sem.run_bind, Sem.run_pure, Result.andThen_ok, invoke, run_callFunc hf hbody hname]
        rw [← hV]
        congr 2
        simp
      have hd : ∀ c, o.op ≠ .defer c := fun c => by rw [ho]; simp
      refine ⟨fun f _ => hF.1 f, ?_⟩
      rw [Oper.semAt_eq _ _ _ hd, hrun]
      simp only [Oper.uponIn_enter]
      refine ⟨fun e => (by rw [hF.2] at e; cases e), ?_⟩
      have hFp : HF F.plain := ⟨hF.1, hF.2⟩
      refine CallsIn.mono (Smry.apply_sound (n := n - 1) hok hFp rfl hap hs hargs h hfr) ?_
      rintro e w' ⟨v, rfl, hq⟩
      exact hq
    · exact hs.elim
  | _ => simp only [callS] at hs; exact hs.elim
theorem all_any {R : Ex → AS → Prop} (h : ∀ e s, R e s) : ∀ t : Tree, t.All R
  | .leaf e s => h e s
  | .chk b t => all_any h t
  | .br b x y => ⟨all_any h x, all_any h y⟩
  | .amb x y => ⟨all_any h x, all_any h y⟩
  | .bnd D _ m g => fun d => all_any h (g d)
  | .cases A B _ _ x g g' => ⟨fun d => all_any h (g d), fun d => all_any h (g' d)⟩
  | .fail => trivial
theorem kills_env : ∀ (l : List Nat) (s : AS), (s.kills l).env = s.env ∧ (s.kills l).benv = s.benv
  | [], s => ⟨rfl, rfl⟩
  | i :: r, s => ⟨(kills_env r (s.kill i)).1, (kills_env r (s.kill i)).2⟩
theorem callS_ext {l : List Smry} (o : Oper) (v : AV) (as : List AV) (s : AS) : (callS l o v as s).All (EX s) := by
  unfold callS
  split
  · rename_i f cs
    split
    · rename_i t ht
      obtain ⟨S, _, _, hap⟩ := sumOf_some l ht
      unfold Smry.apply at hap
      dsimp only at hap
      simp only [cond_eq_ite] at hap
      split at hap
      · split at hap
        · split at hap
          · cases hap
            intro x
            refine Tree.all_bind _ (all_any (fun e r => ?_) _)
            unfold Smry.back
            split
            · exact ok_all (ret_all (kills_env _ s).1 (kills_env _ s).2)
            · exact trivial
          · cases hap
        · cases hap
      · cases hap
    · exact trivial
  · exact trivial
/-- A function's own summary. -/
theorem Smry.ok (hK : KitOK P K) {l : List Smry} (hl : ∀ S ∈ l, S.OK P) (S : Smry) (hn : Hn) (hin : (S.σ.inR s00 && S.ws.all fun w => w.σ.inR s00) = true) (chk : ∀ d, smryRun K l S.f hn S.σ S.ws d = S.M d) (hsome : (K.fn S.f).isSome = true) : S.OK P := by
  simp only [Bool.and_eq_true] at hin
  obtain ⟨hin1, hin2⟩ := hin
  cases hfn : K.fn S.f with
  | none => rw [hfn] at hsome; cases hsome
  | some y =>
    obtain ⟨nt, res, code⟩ := y
    obtain ⟨fn, hf, hnt, hres, hbody, hname⟩ := hK.fn S.f nt res code hfn
    refine ⟨⟨fn, code, hf, hbody, hname⟩, hin1, fun F n hF hro b hmk c us V d x Q h hfr hm hq => ?_⟩
    have e := chk d
    rw [hm] at e
    unfold smryRun at e
    rw [hfn] at e
    dsimp only at e
    have hs := Tree.sat_bind _ (Tree.run_sat _ e)
    have hst : startS S.σ nt d = { (S.σ.fill s00 (HL.out _ d)).1 with tm := List.append (S.σ.fill s00 (HL.out _ d)).1.tm (repL .undef (Nat.sub nt (len (S.σ.fill s00 (HL.out _ d)).1.tm))) } := rfl
    have h1 := start_tm hnt h
    rw [← hst] at h1
    have hfr1 : Fr b c (startS S.σ nt d) := ⟨hfr.os, hfr.tape, hfr.output, hfr.size, hfr.block, hfr.own, hfr.fz, hfr.fz', hfr.bo, hfr.lp, hfr.mks, hfr.mks'⟩
    subst hres
    refine CallsIn.mono (calls_of_wp (Q := fun e s => pOpt (Ways.take S.ws e s) = some x) hK hF hro hf hbody hmk (denC_sound (rd := none) hK (runN_sound hK 8).1 (runN_sound hK 8).2 callS_ext (vars := K.vars S.f) code hn hF hro (callS_sound hl) h1 hfr1 hs)) ?_
    rintro e w' ⟨c', s2, vs, rs, a2, rfl, k1, k2, k3, k4, rfl⟩
    obtain ⟨wy, hmem, dw, j1, j2⟩ := Ways.take_one S.ws k1 hq
    obtain ⟨c'', e', s', g1, g2, g3, g4, g5⟩ := Way.take_spec k2 k3 ext00 (List.all_eq_true.1 hin2 _ hmem) j1
    obtain ⟨vs', rfl, g6⟩ := g5
    rw [g2] at j2
    exact ⟨c'', s', vs', rs, a2, g1, j2, g3, g4, g6 rs k4, rfl⟩
end
end Go.Xr

set_option linter.unusedVariables false
set_option linter.unusedSimpArgs false
namespace Go.Xr
open Go

section
variable {H : Type} {enc : TypeId × Value → H} {P : Program} {K : Kit} {w : World} {E : Bool → Nat → Prop}
theorem cellsOf_eq {t : Ty} {T : TypeId} (h : tyB P t (.inl T) = true) : P.cellsOf T = t.size ∧ 0 < t.size := by
  obtain ⟨i, z, h1, h2, h3, _⟩ := infoB_spec (tyB_info h)
  exact ⟨by simp [Program.cellsOf, h1, h2], h3⟩
theorem reach_le {m : Nat} (h : m ≤ reachBytes) : m ≤ maxL := by
  have := reachBytes_lt
  unfold maxL
  omega
/-- rows of cells -/
theorem rows_RepL {α : Type} {R : α → List Value → Prop} {sz : Nat} : ∀ (n : Nat) (cs : List Value), cs.length = n * sz → (∀ i, i < n → ∃ y, R y ((cs.drop (i * sz)).take sz)) → ∃ ys : List α, ys.length = n ∧ RepL R ys cs
  | 0, cs, hl, _ => ⟨[], rfl, List.eq_nil_of_length_eq_zero (by rw [hl, Nat.zero_mul])⟩
  | n + 1, cs, hl, h => by
    obtain ⟨y, hy⟩ := h 0 (by omega)
    simp only [Nat.zero_mul, List.drop_zero] at hy
    have hl2 : (cs.drop sz).length = n * sz := by rw [List.length_drop, hl, Nat.succ_mul]; omega
    obtain ⟨ys, h1, h2⟩ := rows_RepL n (cs.drop sz) hl2 (fun i hi => by
      obtain ⟨z, hz⟩ := h (i + 1) (by omega)
      refine ⟨z, ?_⟩
      rw [List.drop_drop]
      have : sz + i * sz = (i + 1) * sz := by rw [Nat.succ_mul]; omega
      rw [this]; exact hz)
    exact ⟨y :: ys, by simp [h1], cs.take sz, cs.drop sz, (List.take_append_drop sz cs).symm, hy, h2⟩
/-- rows of memory -/
theorem rows_Reads {α : Type} {R : α → List Value → Prop} {sz b off : Nat} : ∀ (m k : Nat), (∀ i, i < m → ∃ y cs, R y cs ∧ cs.length = sz ∧ ∀ j, j < sz → w.cell? ⟨b, off + ((k + i) * sz + j), none⟩ = cs[j]?) →
    ∃ (ys : List α) (cs : List Value), ys.length = m ∧ RepL R ys cs ∧ Reads w b (off + k * sz) cs
  | 0, k, _ => ⟨[], [], rfl, rfl, fun j v h => by simp at h⟩
  | m + 1, k, h => by
    obtain ⟨y, c1, h1, h2, h3⟩ := h 0 (by omega)
    obtain ⟨ys, c2, g1, g2, g3⟩ := rows_Reads m (k + 1) (fun i hi => by
      obtain ⟨y, c, q1, q2, q3⟩ := h (i + 1) (by omega)
      refine ⟨y, c, q1, q2, fun j hj => ?_⟩
      rw [← q3 j hj]
      congr 2
      rw [show k + (i + 1) = k + 1 + i by omega])
    refine ⟨y :: ys, c1 ++ c2, by simp [g1], ⟨c1, c2, rfl, h1, g2⟩, fun j v hj => ?_⟩
    rcases Nat.lt_or_ge j c1.length with hlt | hge
    · rw [List.getElem?_append_left hlt] at hj
      have := h3 j (by omega)
      rw [hj] at this
      rw [← this]
      congr 2
      rw [Nat.add_zero]; omega
    · rw [List.getElem?_append_right hge] at hj
      have := g3 _ _ hj
      rw [← this]
      congr 2
      rw [Nat.succ_mul]; omega
theorem tyB_single {t : Ty} {f : Field} {off : Nat} (h1 : t ≠ .unit) (h2 : ∀ a b, t ≠ .pair a b) (h : tyB P t (.inr ([f], off)) = true) : f.offset = off ∧ tyB P t (.inl f.type) = true := by
  cases t with
  | unit => exact (h1 rfl).elim
  | pair a b => exact (h2 a b rfl).elim
  | _ =>
    simp only [tyB, oneB, Bool.and_eq_true] at h ⊢
    exact ⟨Nat.eq_of_beq_eq_true h.1.1, h.2⟩
theorem tyB_row {t : Ty} {fs : List Field} {off : Nat} (h1 : t ≠ .unit) (h2 : ∀ a b, t ≠ .pair a b) (h : tyB P t (.inr (fs, off)) = true) : ∃ f, fs = [f] := by
  match fs with
  | [f] => exact ⟨f, rfl⟩
  | [] =>
    exfalso
    cases t with
    | unit => exact h1 rfl
    | pair a b => exact h2 a b rfl
    | _ => simp [tyB, oneB] at h
  | f :: g :: r =>
    exfalso
    cases t with
    | unit => exact h1 rfl
    | pair a b => exact h2 a b rfl
    | _ => simp [tyB, oneB] at h
theorem weights_all_mem {e : TypeId} : ∀ {l : List (DataW H)} {i : Nat} {d : DataW H}, l[i]? = some d → ∀ m ∈ d.weights P e, m ∈ DataW.weightsAll P e l
  | x :: l, 0, d, h, m, hm => by
    simp only [List.getElem?_cons_zero, Option.some.injEq] at h
    subst h
    simp only [DataW.weightsAll, List.mem_append]
    exact .inl hm
  | x :: l, i + 1, d, h, m, hm => by
    simp only [List.getElem?_cons_succ] at h
    simp only [DataW.weightsAll, List.mem_append]
    exact .inr (weights_all_mem h m hm)
  | [], i, d, h, _, _ => by simp at h
/-- A row of fields that is read. -/
theorem open_row {n : Nat} (ih : ∀ (t : Ty) (T : TypeId) (cs : List Value) (x : DataW H × List MemPlace), tyB P t (.inl T) = true → (∀ m ∈ x.1.weights P T, m ≤ reachBytes) → DataW.trod enc P w 0 (fun _ => true) true n T cs = some x → ∃ y : t.T, RepC w E t y cs) {cs : List Value} :
    ∀ (a : Ty) (fs : List Field) (off : Nat) (xs : List (DataW H × List MemPlace)), tyB P a (.inr (fs, off)) = true → xs.length = fs.length →
      (∀ (i : Nat) (f : Field), fs[i]? = some f → DataW.trod enc P w 0 (fun _ => true) true n f.type ((cs.drop f.offset).take (P.cellsOf f.type)) = xs[i]?) →
      (∀ m ∈ DataW.weightsEach P (fs.map (·.type)) (xs.map (·.1)), m ≤ reachBytes) → ∃ y : a.T, RepC w E a y ((cs.drop off).take a.size) := by
  intro a
  induction a with
  | unit => intro fs off xs ht hl hx hw; exact ⟨(), by simp [RepC, Ty.size]⟩
  | pair a b iha ihb =>
    intro fs off xs ht hl hx hw
    match fs, xs, hl with
    | f :: fs, x0 :: xs, hl =>
      simp only [tyB, Bool.and_eq_true] at ht
      obtain ⟨⟨⟨h1, h2⟩, h3⟩, h4⟩ := ht
      have h1 := Nat.eq_of_beq_eq_true h1
      have h0 := hx 0 f rfl
      simp only [List.getElem?_cons_zero] at h0
      have hsz := (cellsOf_eq h3).1
      rw [h1, hsz] at h0
      obtain ⟨y1, hy1⟩ := ih a f.type _ x0 h3 (fun m hm => hw m (by simp only [List.map_cons, DataW.weightsEach, List.mem_append]; exact .inl hm)) h0
      obtain ⟨y2, hy2⟩ := ihb fs (Nat.add off a.size) xs h4 (by simpa using hl) (fun i g hg => by simpa using hx (i + 1) g (by simpa using hg)) (fun m hm => hw m (by simp only [List.map_cons, DataW.weightsEach, List.mem_append]; exact .inr hm))
      refine ⟨(y1, y2), _, _, ?_, hy1, hy2⟩
      show (cs.drop off).take (a.size + b.size) = _
      rw [List.take_add, List.drop_drop]
      rfl
    | [], [], hl => simp [tyB] at ht
  | int k =>
    intro fs off xs ht hl hx hw
    obtain ⟨f, rfl⟩ := tyB_row (by simp) (by simp) ht
    obtain ⟨h1, h2⟩ := tyB_single (by simp) (by simp) ht
    match xs, hl with
    | [x0], hl =>
      have h0 := hx 0 f rfl
      rw [h1, (cellsOf_eq h2).1] at h0
      exact ih _ f.type _ x0 h2 (fun m hm => hw m (by simp only [List.map_cons, DataW.weightsEach, List.mem_append]; exact .inl hm)) h0
  | bool =>
    intro fs off xs ht hl hx hw
    obtain ⟨f, rfl⟩ := tyB_row (by simp) (by simp) ht
    obtain ⟨h1, h2⟩ := tyB_single (by simp) (by simp) ht
    match xs, hl with
    | [x0], hl =>
      have h0 := hx 0 f rfl
      rw [h1, (cellsOf_eq h2).1] at h0
      exact ih _ f.type _ x0 h2 (fun m hm => hw m (by simp only [List.map_cons, DataW.weightsEach, List.mem_append]; exact .inl hm)) h0
  | str =>
    intro fs off xs ht hl hx hw
    obtain ⟨f, rfl⟩ := tyB_row (by simp) (by simp) ht
    obtain ⟨h1, h2⟩ := tyB_single (by simp) (by simp) ht
    match xs, hl with
    | [x0], hl =>
      have h0 := hx 0 f rfl
      rw [h1, (cellsOf_eq h2).1] at h0
      exact ih _ f.type _ x0 h2 (fun m hm => hw m (by simp only [List.map_cons, DataW.weightsEach, List.mem_append]; exact .inl hm)) h0
  | st a _ =>
    intro fs off xs ht hl hx hw
    obtain ⟨f, rfl⟩ := tyB_row (by simp) (by simp) ht
    obtain ⟨h1, h2⟩ := tyB_single (by simp) (by simp) ht
    match xs, hl with
    | [x0], hl =>
      have h0 := hx 0 f rfl
      rw [h1, (cellsOf_eq h2).1] at h0
      exact ih _ f.type _ x0 h2 (fun m hm => hw m (by simp only [List.map_cons, DataW.weightsEach, List.mem_append]; exact .inl hm)) h0
  | arr k a _ =>
    intro fs off xs ht hl hx hw
    obtain ⟨f, rfl⟩ := tyB_row (by simp) (by simp) ht
    obtain ⟨h1, h2⟩ := tyB_single (by simp) (by simp) ht
    match xs, hl with
    | [x0], hl =>
      have h0 := hx 0 f rfl
      rw [h1, (cellsOf_eq h2).1] at h0
      exact ih _ f.type _ x0 h2 (fun m hm => hw m (by simp only [List.map_cons, DataW.weightsEach, List.mem_append]; exact .inl hm)) h0
  | sl b a _ =>
    intro fs off xs ht hl hx hw
    obtain ⟨f, rfl⟩ := tyB_row (by simp) (by simp) ht
    obtain ⟨h1, h2⟩ := tyB_single (by simp) (by simp) ht
    match xs, hl with
    | [x0], hl =>
      have h0 := hx 0 f rfl
      rw [h1, (cellsOf_eq h2).1] at h0
      exact ih _ f.type _ x0 h2 (fun m hm => hw m (by simp only [List.map_cons, DataW.weightsEach, List.mem_append]; exact .inl hm)) h0
/-- What a reading says: pure values. -/
theorem open_rep (hE : ∀ b k, k < w.heap.size → E b k) : ∀ (n : Nat) (t : Ty) (T : TypeId) (cs : List Value) (x : DataW H × List MemPlace), tyB P t (.inl T) = true → (∀ m ∈ x.1.weights P T, m ≤ reachBytes) →
    DataW.trod enc P w 0 (fun _ => true) true n T cs = some x → ∃ y : t.T, RepC w E t y cs := by
  intro n
  induction n with
  | zero => intro t T cs x _ _ h; simp [DataW.trod] at h
  | succ n ih =>
    intro t T cs x ht hw h
    cases t with
    | int k =>
      obtain ⟨m, rfl, rfl, hm⟩ := DataW.trod_int (tyB_int ht) h
      refine ⟨m, rfl, ?_⟩
      simp only [Lit.wf, Bool.and_eq_true, decide_eq_true_eq] at hm
      exact hm
    | bool =>
      obtain ⟨b, rfl, rfl⟩ := DataW.trod_bool (tyB_bool ht) h
      exact ⟨b, rfl⟩
    | str =>
      obtain ⟨s, rfl, rfl, hs⟩ := DataW.trod_string (tyB_str ht) h
      refine ⟨s.data.toList.map fun b => (b.toNat : Int), s, rfl, rfl, ?_⟩
      have := hw s.data.toList.length (by simp [DataW.weights])
      have h2 := reach_le this
      simpa using h2
    | unit => simp [tyB] at ht
    | pair a b => simp [tyB] at ht
    | st a =>
      obtain ⟨fs, hu, hr, _⟩ := tyB_st ht
      obtain ⟨xs, m, hm, rfl, hl, hxl, hx⟩ := DataW.trod_struct hu h
      obtain rfl : m = n := by omega
      obtain ⟨y, hy⟩ := open_row (cs := cs) ih a fs.toList 0 xs hr (by simpa using hxl) (fun i f hf => hx i f (by simpa using hf)) (fun q hq => hw q (by simp only [DataW.weights, hu]; exact hq))
      refine ⟨y, ?_⟩
      have hsz : cs.length = a.size := hl.trans (cellsOf_eq ht).1
      rw [List.drop_zero, ← hsz, List.take_length] at hy
      exact hy
    | arr k a =>
      obtain ⟨e, hu, hr, _⟩ := tyB_arr ht
      obtain ⟨xs, m, hm, rfl, hl, hxl, hx⟩ := DataW.trod_array hu h
      obtain rfl : m = n := by omega
      have hsz : cs.length = k * a.size := hl.trans (cellsOf_eq ht).1
      obtain ⟨ys, h1, h2⟩ := rows_RepL (R := RepC w E a) (sz := a.size) k cs hsz (fun i hi => by
        have h3 := hx i hi
        rw [(cellsOf_eq hr).1] at h3
        have hxi : xs[i]? = some (xs[i]'(by omega)) := List.getElem?_eq_getElem _
        rw [hxi] at h3
        exact ih a e _ _ hr (fun q hq => hw q (by
          simp only [DataW.weights, hu]
          exact weights_all_mem (i := i) (by rw [List.getElem?_map, hxi]; rfl) q hq)) h3)
      exact ⟨ys, h1, h2⟩
    | sl b a =>
      obtain ⟨e, hu, hr, hb⟩ := tyB_sl0 ht
      obtain ⟨hsz, hpos⟩ := cellsOf_eq hr
      rcases DataW.trod_slice hu h with ⟨rfl, rfl⟩ | ⟨ad, len, cap, elems, rest, m, hm, rfl, rfl, _, hlc, _, hel, helems, _, _⟩
      · exact ⟨[], none, 0, rfl, Nat.le_refl _, by simp [maxL], .inl rfl⟩
      · obtain rfl : m = n := by omega
        have hlen : len ≤ maxL := by
          have := hw ((elems.map (·.1)).length + (rest.map (·.1)).length |> (· * P.bytesOf e)) (by simp only [DataW.weights, hu]; exact List.mem_cons_self)
          simp only [List.length_map, hel] at this
          have h2 : len ≤ (len + rest.length) * P.bytesOf e := Nat.le_trans (by omega) (Nat.le_mul_of_pos_right _ hb)
          exact reach_le (Nat.le_trans h2 this)
        by_cases h0 : len = 0
        · subst h0
          exact ⟨[], some ad, cap, rfl, hlc, by simp [maxL], .inl rfl⟩
        · obtain ⟨blk, off, spot⟩ := ad
          have hcell : ∀ i, i < len → ∃ y cs', RepC w E a y cs' ∧ cs'.length = a.size ∧ ∀ j, j < a.size → w.cell? (((⟨blk, off, spot⟩ : Addr).add (i * a.size)).add j) = cs'[j]? := by
            intro i hi
            have h3 := helems i hi
            have hxi : elems[i]? = some (elems[i]'(by omega)) := List.getElem?_eq_getElem _
            rw [hxi, hsz] at h3
            obtain ⟨cs', h4, h5⟩ := Option.bind_eq_some_iff.1 h3
            obtain ⟨_, h6, h7⟩ := World.cells?_some h4
            obtain ⟨y, hy⟩ := ih a e _ _ hr (fun q hq => hw q (by
              simp only [DataW.weights, hu]
              refine List.mem_cons_of_mem _ (List.mem_append_left _ ?_)
              exact weights_all_mem (i := i) (by rw [List.getElem?_map, hxi]; rfl) q hq)) h5
            exact ⟨y, cs', hy, h6, h7⟩
          have hspot : spot = none ∧ blk < w.heap.size := by
            obtain ⟨y, cs', h1, h2, h3⟩ := hcell 0 (by omega)
            have h4 := h3 0 hpos
            have hc : cs'[0]? = some (cs'[0]'(by omega)) := List.getElem?_eq_getElem _
            rw [hc] at h4
            simp only [Nat.zero_mul, Addr.add, if_true] at h4
            refine ⟨by simpa using World.cell?_spot h4, ?_⟩
            unfold World.cell? at h4
            cases hb2 : w.heap[blk]? with
            | none => simp [hb2] at h4
            | some o => exact (Array.getElem?_eq_some_iff.1 hb2).1
          obtain ⟨rfl, hblk⟩ := hspot
          obtain ⟨ys, cs, g1, g2, g3⟩ := rows_Reads (w := w) (R := RepC w E a) (sz := a.size) (b := blk) (off := off) len 0 (fun i hi => by
            obtain ⟨y, cs', h1, h2, h3⟩ := hcell i hi
            refine ⟨y, cs', h1, h2, fun j hj => ?_⟩
            rw [← h3 j hj]
            congr 1
            rw [Nat.zero_add]
            unfold Addr.add
            by_cases h1 : i * a.size = 0 <;> by_cases h2 : j = 0 <;> simp [h1, h2] <;> omega)
          subst g1
          rw [Nat.zero_mul, Nat.add_zero] at g3
          exact ⟨ys, _, cap, rfl, hlc, hlen, .inr ⟨blk, off, cs, rfl, hE b blk hblk, g2, g3⟩⟩
end
end Go.Xr

set_option linter.unusedVariables false
set_option linter.unusedSimpArgs false
set_option linter.unusedSectionVars false
namespace Go.Xr
open Go

/-- What values of a type may be. -/
def Ty.ok : (t : Ty) → t.T → Prop
  | .int k, x => k.has x
  | .bool, _ => True
  | .str, x => (∀ y ∈ (x : List Int), 0 ≤ y ∧ y ≤ 255) ∧ List.length x ≤ maxL
  | .unit, _ => True
  | .pair a b, x => a.ok (pFst x) ∧ b.ok (pSnd x)
  | .st a, x => a.ok x
  | .arr n a, x => List.length x = n ∧ ∀ y ∈ (x : List a.T), a.ok y
  | .sl _ a, x => List.length x ≤ maxL ∧ ∀ y ∈ (x : List a.T), a.ok y
def HL.ok : (ts : List Ty) → HL ts → Prop
  | [], _ => True
  | t :: ts, d => t.ok (pFst d) ∧ HL.ok ts (pSnd d)
def HL.avs : (ts : List Ty) → HL ts → List AV
  | [], _ => [] | t :: ts, d => .pv t (pFst d) :: HL.avs ts (pSnd d)
section
variable {w : World} {E : Bool → Nat → Prop} {I : Nat → Option BI}
theorem RepL.all {α : Type} {R : α → List Value → Prop} {P : α → Prop} (h : ∀ x cs, R x cs → P x) : ∀ (xs : List α) (cs : List Value), RepL R xs cs → ∀ y ∈ xs, P y
  | x :: xs, cs, ⟨c1, c2, e, h1, h2⟩, y, hy => by
    rcases List.mem_cons.1 hy with rfl | hy
    · exact h _ _ h1
    · exact RepL.all h xs c2 h2 y hy
  | [], _, _, y, hy => by cases hy
theorem RepC.tok : ∀ (t : Ty) (x : t.T) (cs : List Value), RepC w E t x cs → t.ok x
  | .int k, x, cs, h => h.2
  | .bool, x, cs, h => trivial
  | .str, x, cs, ⟨s, _, h1, h2⟩ => by
    subst h1
    refine ⟨fun y hy => ?_, by simpa using h2⟩
    obtain ⟨z, _, rfl⟩ := List.mem_map.1 hy
    have := z.toNat_lt
    omega
  | .unit, x, cs, h => trivial
  | .pair a b, x, cs, ⟨c1, c2, e, h1, h2⟩ => ⟨RepC.tok a _ c1 h1, RepC.tok b _ c2 h2⟩
  | .st a, x, cs, h => RepC.tok a x cs h
  | .arr n a, x, cs, ⟨e, h⟩ => ⟨e, RepL.all (RepC.tok a) x cs h⟩
  | .sl b a, x, cs, ⟨ad, cap, e, _, h1, h2⟩ => by
    refine ⟨h1, ?_⟩
    rcases h2 with h2 | ⟨blk, off, cs', _, _, h3, _⟩
    · intro y hy
      rw [List.length_eq_zero_iff.1 h2] at hy
      cases hy
    · exact RepL.all (RepC.tok a) x cs' h3
theorem avs_ok : ∀ (ts : List Ty) (d : HL ts) (us : List Value), AVRL w E I (HL.avs ts d) us → HL.ok ts d
  | [], _, _, _ => trivial
  | t :: ts, d, us, h => by
    obtain ⟨u, q, rfl, h1, h2⟩ := AVRL_cons.1 h
    simp only [AVR] at h1
    obtain ⟨cs, h3, _⟩ := h1
    exact ⟨RepC.tok t _ cs h3, avs_ok ts _ q h2⟩
end
end Go.Xr

set_option linter.unusedVariables false
set_option linter.unusedSimpArgs false
namespace Go.Xr
open Go Go.ChangeShapes Go.WideShapes

section
variable {H : Type} {enc : TypeId × Value → H} {P : Program} {K : Kit} {w w' : World} {E : Bool → Nat → Prop}
/-! arguments that are left as they are read as they did -/
def PureT (P : Program) (T : TypeId) : Prop := ∃ t, tyB P t (.inl T) = true
theorem row_kids : ∀ (a : Ty) (fs : List Field) (off : Nat), tyB P a (.inr (fs, off)) = true →
    (∀ f ∈ fs, PureT P f.type) ∧ a.size = (fs.map fun f => P.cellsOf f.type).sum ∧ ∀ (j : Nat) f, fs[j]? = some f → f.offset = off + ((fs.take j).map fun f => P.cellsOf f.type).sum := by
  intro a
  have one : ∀ (t : Ty) (fs : List Field) (off : Nat), t ≠ .unit → (∀ a b, t ≠ .pair a b) → tyB P t (.inr (fs, off)) = true →
      (∀ f ∈ fs, PureT P f.type) ∧ t.size = (fs.map fun f => P.cellsOf f.type).sum ∧ ∀ (j : Nat) f, fs[j]? = some f → f.offset = off + ((fs.take j).map fun f => P.cellsOf f.type).sum := by
    intro t fs off h1 h2 h
    obtain ⟨f, rfl⟩ := tyB_row h1 h2 h
    obtain ⟨h3, h4⟩ := tyB_single h1 h2 h
    refine ⟨fun g hg => ?_, ?_, fun j g hg => ?_⟩
    · simp at hg; subst hg; exact ⟨t, h4⟩
    · simp [(cellsOf_eq h4).1]
    · cases j with
      | zero => simp at hg; subst hg; simp [h3]
      | succ j => simp at hg
  induction a with
  | unit =>
    intro fs off h
    match fs with
    | [] => exact ⟨by simp, by simp [Ty.size], by simp⟩
    | f :: r => simp [tyB] at h
  | pair a b iha ihb =>
    intro fs off h
    match fs with
    | [] => simp [tyB] at h
    | f :: fs =>
      simp only [tyB, Bool.and_eq_true] at h
      obtain ⟨⟨⟨h1, h2⟩, h3⟩, h4⟩ := h
      have h1 := Nat.eq_of_beq_eq_true h1
      obtain ⟨k1, k2, k3⟩ := ihb fs _ h4
      have hc := (cellsOf_eq h3).1
      refine ⟨fun g hg => ?_, ?_, fun j g hg => ?_⟩
      · rcases List.mem_cons.1 hg with rfl | hg
        · exact ⟨a, h3⟩
        · exact k1 g hg
      · show a.size + b.size = _
        rw [k2]; simp [hc]
      · cases j with
        | zero => simp at hg; subst hg; simp [h1]
        | succ j =>
          rw [k3 j g (by simpa using hg)]
          show off + a.size + _ = _
          simp [hc, Nat.add_assoc]
  | int k => exact fun fs off h => one _ fs off (by simp) (by simp) h
  | bool => exact fun fs off h => one _ fs off (by simp) (by simp) h
  | str => exact fun fs off h => one _ fs off (by simp) (by simp) h
  | st a _ => exact fun fs off h => one _ fs off (by simp) (by simp) h
  | arr k a _ => exact fun fs off h => one _ fs off (by simp) (by simp) h
  | sl b a _ => exact fun fs off h => one _ fs off (by simp) (by simp) h
theorem pure_under {t : Ty} {T : TypeId} (h : tyB P t (.inl T) = true) : (∃ k, P.underlying T = some (.int k)) ∨ P.underlying T = some .bool ∨ P.underlying T = some .string ∨
    (∃ a fs, t = .st a ∧ P.underlying T = some (.struct fs) ∧ tyB P a (.inr (fs.toList, 0)) = true) ∨ (∃ n a e, t = .arr n a ∧ P.underlying T = some (.array n e) ∧ tyB P a (.inl e) = true) ∨ (∃ b a e, t = .sl b a ∧ P.underlying T = some (.slice e) ∧ tyB P a (.inl e) = true) := by
  cases t with
  | int k => exact .inl ⟨k, tyB_int h⟩
  | bool => exact .inr (.inl (tyB_bool h))
  | str => exact .inr (.inr (.inl (tyB_str h)))
  | unit => simp [tyB] at h
  | pair a b => simp [tyB] at h
  | st a => obtain ⟨fs, hu, hr, _⟩ := tyB_st h; exact .inr (.inr (.inr (.inl ⟨a, fs, rfl, hu, hr⟩)))
  | arr n a => obtain ⟨e, hu, hr, _⟩ := tyB_arr h; exact .inr (.inr (.inr (.inr (.inl ⟨n, a, e, rfl, hu, hr⟩))))
  | sl b a => obtain ⟨e, hu, hr⟩ := tyB_sl h; exact .inr (.inr (.inr (.inr (.inr ⟨b, a, e, rfl, hu, hr⟩))))
theorem pure_kids : Kids P (PureT P) where
  pointer := fun {t e} ⟨ty, h⟩ hu => by
    rcases pure_under h with ⟨k, h1⟩ | h1 | h1 | ⟨_, _, _, h1, _⟩ | ⟨_, _, _, _, h1, _⟩ | ⟨_, _, _, _, h1, _⟩ <;> rw [hu] at h1 <;> cases h1
  slice := fun {t e} ⟨ty, h⟩ hu => by
    rcases pure_under h with ⟨k, h1⟩ | h1 | h1 | ⟨_, _, _, h1, _⟩ | ⟨_, _, _, _, h1, _⟩ | ⟨_, a, e', _, h1, h2⟩ <;> rw [hu] at h1 <;> cases h1
    exact ⟨a, h2⟩
  array := fun {t e n} ⟨ty, h⟩ hu => by
    rcases pure_under h with ⟨k, h1⟩ | h1 | h1 | ⟨_, _, _, h1, _⟩ | ⟨m, a, e', e1, h1, h2⟩ | ⟨_, _, _, _, h1, _⟩ <;> rw [hu] at h1 <;> cases h1
    refine ⟨⟨a, h2⟩, ?_⟩
    rw [(cellsOf_eq h).1, (cellsOf_eq h2).1, e1]
    rfl
  struct := fun {t fs} ⟨ty, h⟩ hu => by
    rcases pure_under h with ⟨k, h1⟩ | h1 | h1 | ⟨a, fs', e1, h1, h2⟩ | ⟨_, _, _, _, h1, _⟩ | ⟨_, _, _, _, h1, _⟩ <;> rw [hu] at h1 <;> cases h1
    obtain ⟨k1, k2, k3⟩ := row_kids a fs.toList 0 h2
    refine ⟨k1, ?_, fun j f hf => ?_⟩
    · rw [(cellsOf_eq h).1, e1]; exact k2
    · rw [k3 j f hf, Nat.zero_add]
  map := fun {t k e} ⟨ty, h⟩ hu => by
    rcases pure_under h with ⟨k, h1⟩ | h1 | h1 | ⟨_, _, _, h1, _⟩ | ⟨_, _, _, _, h1, _⟩ | ⟨_, _, _, _, h1, _⟩ <;> rw [hu] at h1 <;> cases h1
theorem trod_again {n : Nat} {T : TypeId} {cs : List Value} {x : DataW H × List MemPlace} {sp : Nat → Bool} (ht : PureT P T) (h : DataW.trod enc P w 0 (fun _ => true) true n T cs = some x)
    (hw : ∀ k, k < w.heap.size → w'.heap[k]? = w.heap[k]?) (hs : ∀ p ∈ x.2, sp p.block = true) : DataW.trod enc P w' 0 sp true n T cs = some x := by
  refine DataW.trod_stays pure_kids (fun {t e} ⟨ty, h1⟩ hu => ?_) (fun e => by cases e) ht h (fun p hp => ?_) hs
  · have hlt := DataW.trod_lt n T cs x h p hp
    cases p with
    | cell b off => exact World.cell?_of_block (hw b hlt)
    | map b => exact hw b hlt
  · rcases pure_under h1 with ⟨k, h2⟩ | h2 | h2 | ⟨_, _, _, h2, _⟩ | ⟨_, _, _, _, h2, _⟩ | ⟨_, a, e', _, h2, h3⟩ <;> rw [hu] at h2 <;> cases h2
    have := cellsOf_eq h3
    omega
theorem trodAll_again {sp : Nat → Bool} (hw : ∀ k, k < w.heap.size → w'.heap[k]? = w.heap[k]?) : ∀ {ts : List TypeId} {vs : List Value} {ds : List (DataW H)} {ps : List MemPlace}, (∀ t ∈ ts, PureT P t) →
    DataW.TrodAll enc P w 0 (fun _ => true) true ts vs ds ps → (∀ p ∈ ps, sp p.block = true) → DataW.TrodAll enc P w' 0 sp true ts vs ds ps
  | [], vs, ds, ps, _, h, _ => by
    obtain ⟨rfl, rfl, rfl⟩ := trodAll_nil h
    exact rfl
  | t :: ts, vs, ds, ps, ht, h, hs => by
    obtain ⟨v, vs1, d, ds1, a, b, rfl, rfl, rfl, ⟨n, h1⟩, h2⟩ := trodAll_cons h
    exact ⟨a, b, ⟨n, trod_again (ht t (by simp)) h1 hw (fun p hp => hs p (List.mem_append_left _ hp))⟩, trodAll_again hw (fun t' h' => ht t' (List.mem_cons_of_mem _ h')) h2 (fun p hp => hs p (List.mem_append_right _ hp)), rfl⟩

/-! a law's arguments -/
def tysB (P : Program) : List TypeId → List Ty → Bool
  | [], [] => true
  | T :: Ts, t :: ts => tyB P t (.inl T) && tysB P Ts ts
  | _, _ => false
theorem isV_of {t : Ty} {T : TypeId} (h : tyB P t (.inl T) = true) {base : Nat} {v : Value} (hv : Value.okWide P w .any base T v) : IsV t.isAgg v.cells.toList v := by
  unfold Value.okWide at hv
  have hnon : Cell.okWide P w .any base T v → (∃ k, P.underlying T = some (.int k)) ∨ P.underlying T = some .bool ∨ P.underlying T = some .string ∨ (∃ e, P.underlying T = some (.slice e)) → v.cells = #[v] := by
    intro h1 h2
    unfold Cell.okWide Cell.ok at h1
    rcases h2 with ⟨k, h2⟩ | h2 | h2 | ⟨e, h2⟩ <;> rw [h2] at h1 <;> cases v <;> simp_all [Value.cells]
  rcases pure_under h with ⟨k, h1⟩ | h1 | h1 | ⟨a, fs, rfl, h1, _⟩ | ⟨n, a, e, rfl, h1, _⟩ | ⟨b, a, e, rfl, h1, _⟩
  · rw [h1] at hv
    have ha : t.isAgg = false := by cases t <;> first | rfl | (obtain ⟨fs, hu, _⟩ := tyB_st h; rw [h1] at hu; cases hu) | (obtain ⟨fs, hu, _⟩ := tyB_arr h; rw [h1] at hu; cases hu)
    rw [ha, hnon hv (.inl ⟨k, h1⟩)]
    rfl
  · rw [h1] at hv
    have ha : t.isAgg = false := by cases t <;> first | rfl | (obtain ⟨fs, hu, _⟩ := tyB_st h; rw [h1] at hu; cases hu) | (obtain ⟨fs, hu, _⟩ := tyB_arr h; rw [h1] at hu; cases hu)
    rw [ha, hnon hv (.inr (.inl h1))]
    rfl
  · rw [h1] at hv
    have ha : t.isAgg = false := by cases t <;> first | rfl | (obtain ⟨fs, hu, _⟩ := tyB_st h; rw [h1] at hu; cases hu) | (obtain ⟨fs, hu, _⟩ := tyB_arr h; rw [h1] at hu; cases hu)
    rw [ha, hnon hv (.inr (.inr (.inl h1)))]
    rfl
  · rw [h1] at hv
    obtain ⟨cs, rfl, _⟩ := hv
    simp [IsV, Ty.isAgg, Value.cells]
  · rw [h1] at hv
    obtain ⟨cs, rfl, _⟩ := hv
    simp [IsV, Ty.isAgg, Value.cells]
  · rw [h1] at hv
    rw [hnon hv (.inr (.inr (.inr ⟨e, h1⟩)))]
    rfl
theorem args_open (hK : KitOK P K) (hE : ∀ b k, k < w.heap.size → E b k) {I : Nat → Option BI} {base : Nat} : ∀ (Ts : List TypeId) (pts : List Ty) (vs : List Value) (ds : List (DataW H)) (ps : List MemPlace), tysB P Ts pts = true →
    (∀ (j : Nat) t v, Ts[j]? = some t → vs[j]? = some v → Value.okWide P w .any base t v) → (∀ m ∈ DataW.weightsEach P Ts ds, m ≤ reachBytes) → DataW.TrodAll enc P w 0 (fun _ => true) true Ts vs ds ps →
    (∃ d : HL pts, AVRL w E I (HL.avs pts d) vs) ∧ ds.length = Ts.length ∧ vs.length = Ts.length ∧ ∀ t ∈ Ts, PureT P t
  | [], [], vs, ds, ps, _, _, _, h => by
    obtain ⟨rfl, rfl, rfl⟩ := trodAll_nil h
    exact ⟨⟨(), AVRL_nil.2 rfl⟩, rfl, rfl, by simp⟩
  | T :: Ts, t :: pts, vs, ds, ps, htys, hok, hw, h => by
    obtain ⟨v, vs1, d, ds1, a, b, rfl, rfl, rfl, ⟨n, h1⟩, h2⟩ := trodAll_cons h
    simp only [tysB, Bool.and_eq_true] at htys
    obtain ⟨hT, k2⟩ := htys
    obtain ⟨y, hy⟩ := open_rep hE n t T _ _ hT (fun m hm => hw m (by simp only [DataW.weightsEach, List.mem_append]; exact .inl hm)) h1
    obtain ⟨⟨d', hd'⟩, e2, e3, e4⟩ := args_open hK hE (I := I) Ts pts vs1 ds1 b k2 (fun j t v ht hv => hok (j + 1) t v (by simpa using ht) (by simpa using hv)) (fun m hm => hw m (by simp only [DataW.weightsEach, List.mem_append]; exact .inr hm)) h2
    refine ⟨⟨(y, d'), AVRL_cons.2 ⟨v, vs1, rfl, ?_, hd'⟩⟩, by simp [e2], by simp [e3], fun t' ht' => ?_⟩
    · show AVR w E I (.pv t y) v
      simp only [AVR]
      exact ⟨_, hy, isV_of hT (hok 0 T v rfl rfl)⟩
    · rcases List.mem_cons.1 ht' with rfl | ht'
      · exact ⟨t, hT⟩
      · exact e4 t' ht'
  | [], _ :: _, _, _, _, htys, _, _, _ => by simp [tysB] at htys
  | _ :: _, [], _, _, _, htys, _, _, _ => by simp [tysB] at htys

/-! a law's run -/
def boolEnd (e : Ex) : PO PB := match e with
  | .ret [.pv .bool b] => pOpt (some b)
  | .ret [.lit b] => pOpt (some (pB b))
  | _ => pOpt none
noncomputable def lawTree (K : Kit) (l : List Smry) (hn : Hn) (f : FuncId) (args : List AV) : Tree :=
  match K.fn f with
  | none => .fail
  | some (nt, res, code) => denC K (runN K 8) (callS l) none (K.vars f) res code hn { tm := List.append args (repL .undef (Nat.sub nt (len args))), bx := [], env := [], benv := [], base := 1, nx := 2, up := [] }
noncomputable def lawRun (K : Kit) (l : List Smry) (hn : Hn) (f : FuncId) (args : List AV) : PO PB := (lawTree K l hn f args).run fun e _ => boolEnd e
theorem hf_wide : HF Fence.wide := ⟨fun _ => trivial, rfl⟩
/-- The frame of a law's run. -/
def SameOld (w w' : World) : Prop := w'.os = w.os ∧ w'.output = w.output ∧ w.heap.size ≤ w'.heap.size ∧ ∀ k, k < w.heap.size → w'.heap[k]? = w.heap[k]?
theorem law_calls (hK : KitOK P K) {l : List Smry} (hl : ∀ S ∈ l, S.OK P) {hn : Hn} {f : FuncId} {as : List AV} {args : Array Value}
    (hargs : AVRL w (fun _ k => k < w.heap.size) (fun _ => none) as args.toList) (hrun : lawRun K l hn f as = some true) :
    Calls P f args w fun e w' => e = .returned (.bool true) ∧ SameOld w w' := by
  unfold lawRun at hrun
  have hsat := Tree.run_sat _ hrun
  unfold lawTree at hsat
  split at hsat
  · exact hsat.elim
  · rename_i nt res code hfn
    obtain ⟨fn, hf, hnt, hres, hbody, hname⟩ := hK.fn f nt res code hfn
    let c0 : Cx := { w := w, fz := fun k => k < w.heap.size, bo := fun _ => False, ρ := fun _ => none, lp := fun _ => none, mks := fun _ => False }
    let b0 : Base := { w0 := w, own0 := fun _ => False, fz0 := fun k => k < w.heap.size, bo0 := fun _ => False, lp0 := fun _ => none, mk0 := fun _ => False }
    generalize hs1 : ({ tm := List.append as (repL .undef (Nat.sub nt (len as))), bx := [], env := [], benv := [], base := 1, nx := 2, up := [] } : AS) = s1 at hsat
    generalize ha1 : ({ tmps := args ++ Array.replicate (fn.ntmps - args.size) undef, defers := [] } : Act) = a1
    have hbox : ∀ i, s1.box i = none := fun i => by subst hs1; rfl
    have hI1 : c0.I s1 = fun _ => none := by funext i; unfold Cx.I; rw [hbox]; rfl
    have hargs' : AVRL c0.w c0.E (c0.I s1) as args.toList := by
      rw [hI1]
      exact AVRL.mono (fun b k hk => ⟨.inl hk, rfl⟩) _ _ (fun i _ => .inl rfl) hargs
    have hlen := AVRL_len as args.toList hargs'
    have h1 : St c0 [] s1 a1 := by
      refine ⟨?_, by rw [← ha1]; exact ⟨[], List.nodup_nil, rfl, fun r hr => by cases hr⟩, ?_, fun i b hi => ?_, fun i j x y hi => (hi (hbox i)).elim, fun i x hi => (hi (hbox i)).elim, fun k hk => hk.elim id (fun h => h.elim), fun r hr => hr.elim, fun i d hd => by cases hd⟩
      · intro k v hv
        have htm : s1.tm = as ++ repL .undef (Nat.sub nt (len as)) := by rw [← hs1]; rfl
        rw [htm] at hv
        have htmps : a1.tmps = args ++ Array.replicate (fn.ntmps - args.size) undef := by rw [← ha1]
        rw [htmps]
        rcases nth_append _ _ k v hv with h2 | ⟨h2, h3⟩
        · obtain ⟨u, h3, h4⟩ := AVRL_nth as args.toList k v hargs' h2
          have hk : k < args.toList.length := by rw [← hlen]; exact nth_lt _ _ _ h2
          have hk' : k < args.size := by simpa using hk
          refine ⟨by simp; omega, ?_⟩
          rw [show s1.rv v = v from AS.rv_of h4]
          have : (args ++ Array.replicate (fn.ntmps - args.size) undef).getD k undef = u := by
            rw [Array.getD_eq_getD_getElem?, Array.getElem?_append_left hk', ← Array.getElem?_toList, h3]
            rfl
          rw [this]
          exact h4
        · obtain ⟨e, h4⟩ := nth_repL _ _ _ h3
          subst e
          refine ⟨?_, by simp only [AS.rv, AVR]⟩
          rw [len_eq] at h4
          have h5 : k - as.length < nt - as.length := h4
          have h6 : as.length = args.size := by simpa using hlen
          simp
          omega
      · have : s1.up = [] := by rw [← hs1]
        rw [this]; rfl
      · rw [hbox] at hi; cases hi
    have hfr1 : Fr b0 c0 s1 := ⟨rfl, rfl, rfl, Nat.le_refl _, fun _ _ _ => rfl, fun i x hi => (hi (hbox i)).elim, fun k hk => .inl hk, fun k hk => hk, fun k => Iff.rfl, rfl, fun r hr => hr.elim, fun r hr => hr.elim⟩
    subst hres
    have hcode := denC_sound (n := 0) (rd := none) hK (runN_sound hK 8).1 (runN_sound hK 8).2 callS_ext (vars := K.vars f) (res := fn.results.toList) code hn hf_wide rfl (callS_sound hl) h1 hfr1 hsat
    have hold : ∀ {c : Cx} {s : AS}, Fr b0 c s → SameOld w c.w := fun h => ⟨h.os, h.output, h.size, fun k hk => h.block k hk (fun h => h)⟩
    have key : CallsIn Fence.wide 0 P f args w fun e w' => e = .returned (.bool true) ∧ SameOld w w' := by
      rw [← ha1] at hcode
      refine CallsIn.mono (calls_of_wp (b := b0) (us := []) (Q := fun e s => boolEnd e = some true) hK hf_wide rfl hf hbody (fun k hk => hk) (wpIn_mono hcode (AbsE.mono fun e s k1 => ?_))) ?_
      · cases e with
        | ret vs => exact k1
        | normal => cases k1
        | exit _ => cases k1
      · rintro e w' ⟨c', s2, vs2, rs, a2, rfl, k1, k2, k3, k5, rfl⟩
        refine ⟨?_, hold k3⟩
        unfold boolEnd at k1
        split at k1
        · rename_i b heq
          cases heq
          simp only [pOpt, Option.some.injEq] at k1
          obtain ⟨u, q, rfl, q1, q2⟩ := AVRL_cons.1 k5
          rw [AVRL_nil.1 q2, AVR_bool.1 q1, k1]
          rfl
        · rename_i b heq
          cases heq
          simp only [pOpt, Option.some.injEq] at k1
          obtain ⟨u, q, rfl, q1, q2⟩ := AVRL_cons.1 k5
          rw [AVRL_nil.1 q2, AVR_lit.1 q1, show b = true from k1]
          rfl
        · cases k1
    exact CallsIn.calls key room_wide

/-! the statement -/
theorem post_same {f : Func} {s : ChangeSpec} {apart fresh handsOn again : Bool} {W W' : World} {args : Array Value} {v : Value} {ds gs : List (DataW H)} {before pa pv : List MemPlace}
    (hW : DataW.Whole enc P f.params.toList s.vars apart W args.toList ds gs before)
    (hres : ∀ (b : Nat) (sp : Nat → Bool) (hd : Bool), DataW.TrodAll enc P W' b sp hd f.resultTypes.toList (v.resultList f.resultTypes.size) (s.fn H (ds ++ gs)).results [])
    (hargs : ∀ sp : Nat → Bool, (∀ p ∈ before, sp p.block = true) → DataW.TrodAll enc P W' 0 sp true f.params.toList args.toList (s.fn H (ds ++ gs)).args pa)
    (hvars : ∀ sp : Nat → Bool, (∀ p ∈ before, sp p.block = true) → DataW.TrodVars enc P W' sp s.vars (s.fn H (ds ++ gs)).vars pv)
    (hps : before = pa ++ pv) (hk : W.keptBut W' (· ∈ before)) (hfz : ∀ a, a.block < W.heap.size → W'.frozen? a = W.frozen? a)
    (hok : ∀ (j : Nat) (t : TypeId) (r : Value), f.resultTypes[j]? = some t → (v.resultList f.resultTypes.size)[j]? = some r → Value.okWide P W' .any 0 t r) :
    s.post enc P f apart fresh handsOn again W args v W' := by
  have hold : ∀ p ∈ before, (fun b => decide (b < W.heap.size)) p.block = true := fun p hp => by simpa using hW.lt p hp
  have hlt := hW.lt
  refine ⟨ds, gs, before, [], pa, pv, hW, hres _ _ _, hargs _ hold, hvars _ hold, World.keptBut_mono (fun p hp => ⟨hp, ?_⟩) hk, fun _ => ?_⟩
  · rw [hps, List.mem_append] at hp
    exact Or.inr hp
  · obtain ⟨_, _, _, _, _, hz, hn⟩ := hW
    refine ⟨hok, _, _, ([] ++ pa) ++ pv, ⟨[] ++ pa, pv, trodAll_append (hargs _ (fun _ _ => rfl)) (hres _ _ _), hvars _ (fun _ _ => rfl), rfl, ?_, ?_⟩, ?_⟩
    · intro b off hp
      have hm : MemPlace.cell b off ∈ before := by rw [hps]; simpa using hp
      rw [hfz _ (hlt _ hm)]
      exact hz b off hm
    · intro ha
      have := hn ha
      rw [hps] at this
      simpa using this
    · intro p hp _
      rw [hps]
      simpa using hp
theorem keptBut_of (h : SameOld w w') (may : MemPlace → Prop) : w.keptBut w' may := by
  refine ⟨h.1, h.2.1, fun i hi => ?_⟩
  have e := h.2.2.2 i hi
  have hx : w.heap[i]? = some (w.heap[i]'hi) := Array.getElem?_eq_getElem hi
  rw [e, hx]
  cases w.heap[i]'hi <;> first | exact ⟨rfl, rfl, rfl, fun _ _ => rfl⟩ | exact .inr ⟨rfl, rfl⟩ | rfl
theorem frozen_of (h : SameOld w w') : ∀ a : Addr, a.block < w.heap.size → w'.frozen? a = w.frozen? a := fun a ha => by
  unfold World.frozen?
  rw [h.2.2.2 _ ha]
/-- A law's contract. -/
theorem law_contract (hK : KitOK P K) {l : List Smry} (hl : ∀ S ∈ l, S.OK P) {hn : Hn} {f : FuncId} {fn : Func} {pts : List Ty} {s : ChangeSpec} {bt : TypeId}
    (htys : tysB P fn.params.toList pts = true) (hr : fn.resultTypes = #[bt]) (hbt : P.underlying bt = some .bool) (hv : s.vars = []) (hfn : ∀ ds : List (DataW H), ds.length = fn.params.size → s.fn H ds = { results := [.lit (.bool true)], args := ds })
    (hrun : ∀ d : HL pts, HL.ok pts d → lawRun K l hn f (HL.avs pts d) = some true) {apart fresh handsOn again : Bool}
    (W : World) (base : Nat) (args : Array Value) (ds gs : List (DataW H)) (before : List MemPlace)
    (hval : ∀ (j : Nat) t v, fn.params[j]? = some t → args[j]? = some v → Value.okWide P W .any base t v)
    (hW : DataW.Whole enc P fn.params.toList s.vars apart W args.toList ds gs before)
    (hwt : (DataW.weightsEach P (fn.params.toList ++ s.plain.varTypes P) (ds ++ gs)).all (· ≤ reachBytes) = true) :
    Calls P f args W fun e W' => ∃ v, e = .returned v ∧ s.post enc P fn apart fresh handsOn again W args v W' := by
  have hW' := hW
  obtain ⟨p, q, hA, hV, rfl, hfz, hnd⟩ := hW
  rw [hv] at hV
  obtain ⟨rfl, rfl⟩ := trodVars_none hV
  have hvt : s.plain.varTypes P = [] := by
    simp [ChangeSpec.plain, DataSpec.varTypes, hv]
  rw [hvt, List.append_nil, List.append_nil] at hwt
  obtain ⟨⟨d, hd⟩, e1, e2, e3⟩ := args_open (E := fun _ k => k < W.heap.size) (I := fun _ => none) hK (fun b k hk => hk) fn.params.toList pts args.toList ds p htys (fun j t v h1 h2 => hval j t v (by simpa using h1) (by simpa using h2)) (fun m hm => by simpa using List.all_eq_true.1 hwt m hm) hA
  refine (law_calls hK hl hd (hrun d (avs_ok _ d _ hd))).mono fun e W' ⟨he, hg⟩ => ?_
  subst he
  have hdl : ds.length = fn.params.size := by simpa using e1
  have hsf : s.fn H (ds ++ []) = { results := [.lit (.bool true)], args := ds } := by rw [List.append_nil]; exact hfn ds hdl
  have hrl : (Value.bool true).resultList fn.resultTypes.size = [.bool true] := by rw [hr]; rfl
  refine ⟨_, rfl, post_same (pa := p) (pv := []) hW' (fun b sp hd => ?_) (fun sp hsp => ?_) (fun sp _ => ?_) (by simp) (keptBut_of hg _) (frozen_of hg) (fun j t r h1 h2 => ?_)⟩
  · rw [hsf, hrl, hr]
    exact trodAll_cons_mk (RowKit.shut_bool hbt _) trodAll_mk0
  · rw [hsf]
    exact trodAll_again hg.2.2.2 e3 hA (fun p hp => hsp p (by simpa using hp))
  · rw [hsf, hv]
    rfl
  · rw [hr] at h1
    rw [hrl] at h2
    match j, h1, h2 with
    | 0, h1, h2 =>
      simp at h1 h2
      subst h1; subst h2
      exact RowKit.okWide_bool_mk hbt _
end
end Go.Xr

set_option linter.unusedVariables false
set_option linter.unusedSimpArgs false
namespace Go.Xr
open Go

/-- A program's kit out of tables. -/
def mkKit (tds : List (Nat × TD)) (fns : List (Nat × Func)) (vrs : List (Nat × List Nat)) : Kit where
  td := fun T => match lookupN tds T with | some d => d | none => .other
  fn := fun f => match lookupN fns f with | some g => (match g.body with | some b => some (g.ntmps, g.results.toList, b) | none => none) | none => none
  vars := fun f => match lookupN vrs f with | some l => l | none => []
def AllF (P : Program) : List (Nat × Func) → Prop
  | [] => True
  | x :: r => (P.funcs[x.1]? = some x.2 ∧ (x.2.name == "runtime.NumGoroutine") = false) ∧ AllF P r
theorem AllF.at {P : Program} : ∀ {l : List (Nat × Func)} {f : Nat} {g : Func}, AllF P l → lookupN l f = some g → P.funcs[f]? = some g ∧ (g.name == "runtime.NumGoroutine") = false
  | x :: r, f, g, h, hl => by
    obtain ⟨k, y⟩ := x
    simp only [lookupN] at hl
    cases hb : Nat.beq f k with
    | true =>
      rw [hb] at hl
      cases hl
      have e := Nat.eq_of_beq_eq_true hb
      subst e
      exact h.1
    | false => rw [hb] at hl; exact AllF.at h.2 hl
  | [], f, g, h, hl => by cases hl
theorem lookup_any {α : Type} : ∀ (l : List (Nat × α)) (i : Nat) (x : α), lookupN l i = some x → (i, x) ∈ l
  | (j, y) :: r, i, x, h => by
    simp only [lookupN] at h
    cases hb : Nat.beq i j with
    | true => rw [hb] at h; have e := Nat.eq_of_beq_eq_true hb; subst e; cases h; exact List.mem_cons_self
    | false => rw [hb] at h; exact List.mem_cons_of_mem _ (lookup_any r i x h)
theorem mkKit_ok {P : Program} {tds : List (Nat × TD)} {fns : List (Nat × Func)} {vrs : List (Nat × List Nat)} (h1 : (tds.all fun x => tdB P (mkKit tds fns vrs) x.1) = true) (h2 : AllF P fns) (h3 : P.follows .mixedOrders = true) : KitOK P (mkKit tds fns vrs) where
  td := fun T => by
    cases hl : lookupN tds T with
    | none =>
      unfold tdB
      have : (mkKit tds fns vrs).td T = .other := by simp only [mkKit, hl]
      rw [this]
    | some d => exact List.all_eq_true.1 h1 _ (lookup_any tds T d hl)
  fn := fun f n res code h => by
    simp only [mkKit] at h
    split at h
    · rename_i g hg
      split at h
      · rename_i b hb
        cases h
        obtain ⟨k1, k2⟩ := h2.at hg
        exact ⟨g, k1, rfl, rfl, hb, k2⟩
      · cases h
    · cases h
  mixed := h3
/-- Summaries, one on the other. -/
theorem ok_nil {P : Program} : ∀ S ∈ ([] : List Smry), S.OK P := fun _ h => by cases h
theorem ok_cons {P : Program} {l : List Smry} {S : Smry} (h : S.OK P) (hl : ∀ S ∈ l, S.OK P) : ∀ T ∈ S :: l, T.OK P := fun T hT => by
  rcases List.mem_cons.1 hT with e | hT
  · rw [e]; exact h
  · exact hl T hT
/-- A law with one model. -/
theorem law_of {K : Kit} {l : List Smry} {hn : Hn} {f : FuncId} {pts : List Ty} {m : HL pts → PO PB} (hm : ∀ d, lawRun K l hn f (HL.avs pts d) = m d) (hp : ∀ d, HL.ok pts d → m d = some true) : ∀ d : HL pts, HL.ok pts d → lawRun K l hn f (HL.avs pts d) = some true :=
  fun d h => (hm d).trans (hp d h)
end Go.Xr

set_option linter.unusedVariables false
set_option linter.unusedSimpArgs false
namespace Go.Xr
open Go

theorem pAmb_self {α : Type} (x : PO α) : pAmb x x = x := by
  unfold pAmb
  split
  · rfl
  · rename_i h; exact (h rfl).elim
section
variable {D X : Type} {step : D → PO (PSum D X)} {d d' : D} {x y : X}
theorem iterN_mono : ∀ (n m : Nat) (d : D), iterN step n d = some x → n ≤ m → iterN step m d = some x
  | 0, _, _, h, _ => by cases h
  | n + 1, 0, _, _, h => by omega
  | n + 1, m + 1, d, h, hl => by
    simp only [iterN] at h ⊢
    split at h
    · cases h
    · rename_i d' hd
      exact iterN_mono n m d' h (by omega)
    · exact h
theorem pIter_iff : pIter step d = some x ↔ ∃ n, iterN step n d = some x := by
  unfold pIter
  constructor
  · intro h
    split at h
    · exact ⟨_, h⟩
    · cases h
  · rintro ⟨n, h⟩
    have hex : ∃ n, (iterN step n d).isSome := ⟨n, by rw [h]; rfl⟩
    rw [dif_pos hex]
    have hc := hex.choose_spec
    obtain ⟨z, hz⟩ := Option.isSome_iff_exists.1 hc
    have h1 := iterN_mono _ (max n hex.choose) d h (Nat.le_max_left _ _)
    have h2 := iterN_mono _ (max n hex.choose) d hz (Nat.le_max_right _ _)
    rw [h1] at h2
    cases h2
    exact hz
theorem pIter_inl (h : step d = some (.inl d')) : pIter step d = pIter step d' := by
  have : ∀ z, pIter step d = some z ↔ pIter step d' = some z := by
    intro z
    rw [pIter_iff, pIter_iff]
    constructor
    · rintro ⟨n, hn⟩
      cases n with
      | zero => cases hn
      | succ n => simp only [iterN, h] at hn; exact ⟨n, hn⟩
    · rintro ⟨n, hn⟩
      exact ⟨n + 1, by simp only [iterN, h]; exact hn⟩
  cases h1 : pIter step d with
  | some z => exact ((this z).1 h1).symm
  | none =>
    cases h2 : pIter step d' with
    | none => rfl
    | some z => rw [(this z).2 h2] at h1; cases h1
theorem pIter_inr (h : step d = some (.inr x)) : pIter step d = some x := pIter_iff.2 ⟨1, by simp only [iterN, h]⟩
/-- A loop that ends. -/
theorem pIter_inv {Inv : D → Prop} {P : X → Prop} (μ : D → Nat) (h : ∀ d, Inv d → (∃ d', step d = some (.inl d') ∧ Inv d' ∧ μ d' < μ d) ∨ ∃ x, step d = some (.inr x) ∧ P x) : ∀ d, Inv d → ∃ x, pIter step d = some x ∧ P x := by
  intro d
  generalize hn : μ d = n
  induction n using Nat.strongRecOn generalizing d with
  | _ n ih =>
    intro hd
    rcases h d hd with ⟨d', h1, h2, h3⟩ | ⟨x, h1, h2⟩
    · rw [pIter_inl h1]
      exact ih (μ d') (by omega) d' rfl h2
    · exact ⟨x, pIter_inr h1, h2⟩
end
theorem wrap64_eq (n : Int) : IntKind.wrap .i64 n = if 2 ^ 63 ≤ n % 2 ^ 64 then n % 2 ^ 64 - 2 ^ 64 else n % 2 ^ 64 := by
  simp [IntKind.wrap, IntKind.bits, IntKind.signed]
theorem wrap64 {n : Int} (h1 : -(2 ^ 63 : Int) ≤ n) (h2 : n < 2 ^ 63) : IntKind.wrap .i64 n = n := by
  rw [wrap64_eq]
  split <;> omega
theorem wrap8_eq (n : Int) : IntKind.wrap .u8 n = n % 256 := by
  simp [IntKind.wrap, IntKind.bits, IntKind.signed]
theorem wrap8 {n : Int} (h1 : 0 ≤ n) (h2 : n < 256) : IntKind.wrap .u8 n = n := by
  rw [wrap8_eq]
  omega
theorem quo64 {a : Nat} (h : a < 2 ^ 62) (b : Nat) : pQuo .i64 (a : Int) (b : Int) = ((a / b : Nat) : Int) := by
  have e : (Int.tdiv (a : Int) (b : Int)) = ((a / b : Nat) : Int) := by rw [Int.tdiv_eq_ediv_of_nonneg (by omega)]; simp
  have : a / b ≤ a := Nat.div_le_self _ _
  simp only [pQuo, e]
  generalize a / b = q at *
  exact wrap64 (by omega) (by omega)
theorem rem64 (a b : Nat) : pRem (a : Int) (b : Int) = ((a % b : Nat) : Int) := by
  simp only [pRem]
  rw [Int.tmod_eq_emod_of_nonneg (by omega)]
  simp
theorem add64 {a b : Int} (h1 : -(2 ^ 63 : Int) ≤ a + b) (h2 : a + b < 2 ^ 63) : pAdd .i64 a b = a + b := wrap64 h1 h2
theorem sub64 {a b : Int} (h1 : -(2 ^ 63 : Int) ≤ a - b) (h2 : a - b < 2 ^ 63) : pSub .i64 a b = a - b := wrap64 h1 h2
theorem mul64 {a b : Int} (h1 : -(2 ^ 63 : Int) ≤ a * b) (h2 : a * b < 2 ^ 63) : pMul .i64 a b = a * b := wrap64 h1 h2
/-- a right shift of what is not below 0 -/
theorem shr64 {a : Int} {i : Nat} (h0 : 0 ≤ a) (h1 : a < 2 ^ 63) : pShr .i64 a (i : Int) = a / 2 ^ i := by
  simp only [pShr, IntKind.bits, Int.toNat_natCast]
  rw [Int.fdiv_eq_ediv_of_nonneg _ (by have := Int.pow_pos (n := (2 : Int)) (m := min i 64) (by omega); omega)]
  rcases Nat.le_total i 64 with h | h
  · rw [Nat.min_eq_left h]
  · rw [Nat.min_eq_right h]
    have e1 : a / 2 ^ 64 = 0 := Int.ediv_eq_zero_of_lt h0 (by omega)
    have e2 : a / 2 ^ i = 0 := by
      refine Int.ediv_eq_zero_of_lt h0 ?_
      have h2 : (2 : Nat) ^ 64 ≤ 2 ^ i := Nat.pow_le_pow_right (by omega) h
      have h3 : ((2 ^ 64 : Nat) : Int) ≤ ((2 ^ i : Nat) : Int) := by omega
      have h4 : ((2 ^ i : Nat) : Int) = (2 : Int) ^ i := by simp
      rw [← h4]
      omega
    rw [e1, e2]
theorem and_nat (k : IntKind) (a b : Int) : pAnd k a b = k.wrap (((a % 2 ^ k.bits).toNat &&& (b % 2 ^ k.bits).toNat : Nat) : Int) := by
  simp [pAnd, BitVec.toNat_and, BitVec.toNat_ofInt]
theorem or_nat (k : IntKind) (a b : Int) : pOr k a b = k.wrap (((a % 2 ^ k.bits).toNat ||| (b % 2 ^ k.bits).toNat : Nat) : Int) := by
  simp [pOr, BitVec.toNat_or, BitVec.toNat_ofInt]
/-- one bit -/
theorem and1_64 {a : Int} (h0 : 0 ≤ a) (h1 : a < 2 ^ 63) : pAnd .i64 a 1 = a % 2 := by
  obtain ⟨n, rfl⟩ := Int.eq_ofNat_of_zero_le h0
  have hn : n < 2 ^ 63 := by omega
  rw [and_nat]
  have e1 : ((n : Int) % 2 ^ IntKind.bits .i64).toNat = n := by simp only [IntKind.bits]; omega
  have e2 : ((1 : Int) % 2 ^ IntKind.bits .i64).toNat = 1 := by decide
  rw [e1, e2, Nat.and_one_is_mod, wrap64 (by omega) (by omega)]
  simp
end Go.Xr

set_option linter.unusedVariables false
set_option linter.unusedSimpArgs false
set_option maxRecDepth 100000
namespace Go.Xr
open Go

/-! bits in bytes -/
def Bit (x : Int) : Prop := x = 0 ∨ x = 1
def Bits (L : List Int) : Prop := ∀ x ∈ L, Bit x
theorem Bits.get {L : List Int} (h : Bits L) (i : Nat) : Bit (L.getD i 0) := by
  rw [List.getD_eq_getElem?_getD]
  cases hx : L[i]? with
  | none => exact .inl rfl
  | some x => exact h x (List.mem_of_getElem? hx)
theorem Bits.app {L M : List Int} (h : Bits L) (k : Bits M) : Bits (L ++ M) := fun x hx => (List.mem_append.1 hx).elim (h x) (k x)
def byteAt (L : List Int) (j : Nat) : Int :=
  L.getD (8 * j) 0 * 128 + L.getD (8 * j + 1) 0 * 64 + L.getD (8 * j + 2) 0 * 32 + L.getD (8 * j + 3) 0 * 16 + L.getD (8 * j + 4) 0 * 8 + L.getD (8 * j + 5) 0 * 4 + L.getD (8 * j + 6) 0 * 2 + L.getD (8 * j + 7) 0
def packs (L : List Int) : List Int := (List.range ((L.length + 7) / 8)).map (byteAt L)
theorem packs_len (L : List Int) : (packs L).length = (L.length + 7) / 8 := by simp [packs]
theorem packs_get (L : List Int) (j : Nat) : (packs L)[j]? = if j < (L.length + 7) / 8 then some (byteAt L j) else none := by
  unfold packs
  rw [List.getElem?_map]
  split
  · rename_i h; rw [List.getElem?_range h]; rfl
  · rename_i h
    rw [List.getElem?_eq_none (by simp; omega)]
    rfl
theorem byte_lt {L : List Int} (h : Bits L) (j : Nat) : 0 ≤ byteAt L j ∧ byteAt L j ≤ 255 := by
  have h0 := h.get (8 * j)
  have h1 := h.get (8 * j + 1)
  have h2 := h.get (8 * j + 2)
  have h3 := h.get (8 * j + 3)
  have h4 := h.get (8 * j + 4)
  have h5 := h.get (8 * j + 5)
  have h6 := h.get (8 * j + 6)
  have h7 := h.get (8 * j + 7)
  unfold Bit at *
  unfold byteAt
  omega
theorem or_bit1 : ∀ a : Fin 256, ∀ s : Fin 8, a.val / 2 ^ s.val % 2 = 0 → pOr .u8 (a.val : Int) (pShl .u8 1 (s.val : Int)) = (a.val : Int) + 2 ^ s.val :=
  of_decide_eq_true (by kernel_rfl)
theorem or_bit0 : ∀ a : Fin 256, ∀ s : Fin 8, pOr .u8 (a.val : Int) (pShl .u8 0 (s.val : Int)) = (a.val : Int) :=
  of_decide_eq_true (by kernel_rfl)
theorem or_bit {a y : Int} {s : Nat} (h0 : 0 ≤ a) (h1 : a ≤ 255) (hs : s < 8) (hy : Bit y) (hb : a / 2 ^ s % 2 = 0) : pOr .u8 a (pShl .u8 y (s : Int)) = a + y * 2 ^ s := by
  obtain ⟨n, rfl⟩ := Int.eq_ofNat_of_zero_le h0
  have hn : n < 256 := by omega
  rcases hy with rfl | rfl
  · have := or_bit0 ⟨n, hn⟩ ⟨s, hs⟩
    simpa using this
  · have hb' : n / 2 ^ s % 2 = 0 := by exact_mod_cast hb
    have := or_bit1 ⟨n, hn⟩ ⟨s, hs⟩ hb'
    simpa using this
theorem getD_set (L : List Int) (i k : Nat) (y : Int) (hi : i < L.length) : (L.set i y).getD k 0 = if i = k then y else L.getD k 0 := by
  rw [List.getD_eq_getElem?_getD, List.getD_eq_getElem?_getD, List.getElem?_set]
  split
  · rename_i e; subst e; simp [hi]
  · rfl
theorem byte_set {L : List Int} (h : Bits L) {i : Nat} (hi : i < L.length) (h0 : L.getD i 0 = 0) {y : Int} (hy : Bit y) :
    byteAt (L.set i y) (i / 8) = pOr .u8 (byteAt L (i / 8)) (pShl .u8 y ((7 - i % 8 : Nat) : Int)) := by
  have g0 := h.get (8 * (i / 8))
  have g1 := h.get (8 * (i / 8) + 1)
  have g2 := h.get (8 * (i / 8) + 2)
  have g3 := h.get (8 * (i / 8) + 3)
  have g4 := h.get (8 * (i / 8) + 4)
  have g5 := h.get (8 * (i / 8) + 5)
  have g6 := h.get (8 * (i / 8) + 6)
  have g7 := h.get (8 * (i / 8) + 7)
  have hb := byte_lt h (i / 8)
  have ht : i % 8 = 0 ∨ i % 8 = 1 ∨ i % 8 = 2 ∨ i % 8 = 3 ∨ i % 8 = 4 ∨ i % 8 = 5 ∨ i % 8 = 6 ∨ i % 8 = 7 := by omega
  have hs : byteAt (L.set i y) (i / 8) = byteAt L (i / 8) + y * 2 ^ (7 - i % 8) ∧ byteAt L (i / 8) / 2 ^ (7 - i % 8) % 2 = 0 := by
    unfold Bit at *
    unfold byteAt
    simp only [getD_set L i _ y hi]
    have hk0 : (i = 8 * (i / 8)) = (i % 8 = 0) := by apply propext; omega
    have hk : ∀ t, t < 8 → (i = 8 * (i / 8) + t) = (i % 8 = t) := fun t ht => by apply propext; omega
    simp only [hk0, hk 1 (by omega), hk 2 (by omega), hk 3 (by omega), hk 4 (by omega), hk 5 (by omega), hk 6 (by omega), hk 7 (by omega)]
    have hx : L.getD (8 * (i / 8) + i % 8) 0 = 0 := by rw [show 8 * (i / 8) + i % 8 = i by omega]; exact h0
    generalize i % 8 = t at *
    rcases ht with rfl | rfl | rfl | rfl | rfl | rfl | rfl | rfl <;>
    · try simp only [Nat.add_zero] at hx
      clear h0 hb hk hk0
      generalize L.getD (8 * (i / 8)) 0 = x0 at *
      generalize L.getD (8 * (i / 8) + 1) 0 = x1 at *
      generalize L.getD (8 * (i / 8) + 2) 0 = x2 at *
      generalize L.getD (8 * (i / 8) + 3) 0 = x3 at *
      generalize L.getD (8 * (i / 8) + 4) 0 = x4 at *
      generalize L.getD (8 * (i / 8) + 5) 0 = x5 at *
      generalize L.getD (8 * (i / 8) + 6) 0 = x6 at *
      generalize L.getD (8 * (i / 8) + 7) 0 = x7 at *
      simp
      constructor <;> omega
  rw [or_bit hb.1 hb.2 (by omega) hy hs.2, hs.1]
/-- one bit is set -/
theorem packs_set {L : List Int} (h : Bits L) {i : Nat} (hi : i < L.length) (h0 : L.getD i 0 = 0) {y : Int} (hy : Bit y) :
    packs (L.set i y) = pSet (packs L) ((i / 8 : Nat) : Int) (pOr .u8 (pGet 0 (packs L) ((i / 8 : Nat) : Int)) (pShl .u8 y ((7 - i % 8 : Nat) : Int))) := by
  have hq : i / 8 < (L.length + 7) / 8 := by omega
  have hget : pGet 0 (packs L) ((i / 8 : Nat) : Int) = byteAt L (i / 8) := by
    simp only [pGet, Int.toNat_natCast, List.getD_eq_getElem?_getD, packs_get, if_pos hq, Option.getD_some]
  rw [hget, ← byte_set h hi h0 hy]
  apply List.ext_getElem?
  intro j
  simp only [pSet, Int.toNat_natCast, List.getElem?_set, packs_get, List.length_set, packs_len]
  by_cases e : i / 8 = j
  · subst e
    simp [hq]
  · rw [if_neg e]
    split
    · congr 1
      unfold byteAt
      simp only [getD_set L i _ y hi]
      have : ∀ t, t < 8 → i ≠ 8 * j + t := fun t ht => by omega
      have e0 := this 0 (by omega)
      simp only [Nat.add_zero] at e0
      simp only [if_neg e0, if_neg (this 1 (by omega)), if_neg (this 2 (by omega)), if_neg (this 3 (by omega)), if_neg (this 4 (by omega)), if_neg (this 5 (by omega)), if_neg (this 6 (by omega)), if_neg (this 7 (by omega))]
    · rfl
theorem getD_app0 (L : List Int) (k : Nat) : (L ++ [0]).getD k 0 = L.getD k 0 := by
  rw [List.getD_eq_getElem?_getD, List.getD_eq_getElem?_getD, List.getElem?_append]
  split
  · rfl
  · rename_i h
    rw [List.getElem?_eq_none (by omega : L.length ≤ k)]
    cases hk : k - L.length with
    | zero => rfl
    | succ m => rfl
/-- a place for one bit more -/
theorem packs_app0 (L : List Int) : packs (L ++ [0]) = if L.length % 8 = 0 then packs L ++ [0] else packs L := by
  have hb : ∀ j, byteAt (L ++ [0]) j = byteAt L j := fun j => by unfold byteAt; simp only [getD_app0]
  apply List.ext_getElem?
  intro j
  rw [packs_get]
  simp only [List.length_append, List.length_singleton, hb]
  by_cases h8 : L.length % 8 = 0
  · rw [if_pos h8, List.getElem?_append, packs_get, packs_len]
    by_cases h1 : j < (L.length + 7) / 8
    · rw [if_pos h1, if_pos h1, if_pos (by omega)]
    · rw [if_neg h1]
      by_cases h2 : j < (L.length + 1 + 7) / 8
      · rw [if_pos h2]
        have : j - (L.length + 7) / 8 = 0 := by omega
        rw [this]
        have hz : ∀ t, L.getD (8 * j + t) 0 = 0 := fun t => by
          rw [List.getD_eq_getElem?_getD, List.getElem?_eq_none (by omega)]; rfl
        have hz0 := hz 0
        simp only [Nat.add_zero] at hz0
        have : byteAt L j = 0 := by unfold byteAt; rw [hz0, hz 1, hz 2, hz 3, hz 4, hz 5, hz 6, hz 7]; rfl
        rw [this]
        rfl
      · rw [if_neg h2]
        cases hk : j - (L.length + 7) / 8 with
        | zero => omega
        | succ m => rfl
  · rw [if_neg h8, packs_get]
    have : (L.length + 1 + 7) / 8 = (L.length + 7) / 8 := by omega
    rw [this]
end Go.Xr

