import Derived.Test.YtkooincefcodcaaX4
import Derived.ChangeStays
import Derived.RowKit3
import Derived.Calls
import Derived.Test.YtkooincefcodcaaX1
/- the executor, part 5 -/
set_option linter.unusedVariables false
set_option linter.unusedSimpArgs false
set_option linter.unusedSectionVars false
namespace Go.Xr
open Go
def Ty.ok : (t : Ty) → t.T → Prop
  | .int k, x => k.has x
  | .bool, _ => True
  | .str, x => (∀ y ∈ (x : List Int), 0 ≤ y ∧ y ≤ 255) ∧ List.length x ≤ maxL
  | .unit, _ => True
  | .pair a b, x => a.ok (pFst x) ∧ b.ok (pSnd x)
  | .st a, x => a.ok x
  | .arr n a, x => List.length x = n ∧ ∀ y ∈ (x : List a.T), a.ok y
  | .sl _ a, x => List.length x ≤ maxL ∧ ∀ y ∈ (x : List a.T), a.ok y
def HL.ok : (ts : List Ty) → HL ts → Prop
  | [], _ => True
  | t :: ts, d => t.ok (pFst d) ∧ HL.ok ts (pSnd d)
def HL.avs : (ts : List Ty) → HL ts → List AV
  | [], _ => [] | t :: ts, d => .pv t (pFst d) :: HL.avs ts (pSnd d)
section
variable {w : World} {E : Bool → Nat → Prop} {I : Nat → Option BI}
theorem RepL.all {α : Type} {R : α → List Value → Prop} {P : α → Prop} (h : ∀ x cs, R x cs → P x) : ∀ (xs : List α) (cs : List Value), RepL R xs cs → ∀ y ∈ xs, P y
  | x :: xs, cs, ⟨c1, c2, e, h1, h2⟩, y, hy => by
    rcases List.mem_cons.1 hy with rfl | hy
    · exact h _ _ h1
    · exact RepL.all h xs c2 h2 y hy
  | [], _, _, y, hy => by cases hy
theorem RepC.tok : ∀ (t : Ty) (x : t.T) (cs : List Value), RepC w E t x cs → t.ok x
  | .int k, x, cs, h => h.2
  | .bool, x, cs, h => trivial
  | .str, x, cs, ⟨s, _, h1, h2⟩ => by
    subst h1
    refine ⟨fun y hy => ?_, by simpa using h2⟩
    obtain ⟨z, _, rfl⟩ := List.mem_map.1 hy
    have := z.toNat_lt
    omega
  | .unit, x, cs, h => trivial
  | .pair a b, x, cs, ⟨c1, c2, e, h1, h2⟩ => ⟨RepC.tok a _ c1 h1, RepC.tok b _ c2 h2⟩
  | .st a, x, cs, h => RepC.tok a x cs h
  | .arr n a, x, cs, ⟨e, h⟩ => ⟨e, RepL.all (RepC.tok a) x cs h⟩
  | .sl b a, x, cs, ⟨ad, cap, e, _, h1, h2⟩ => by
    refine ⟨h1, ?_⟩
    rcases h2 with h2 | ⟨blk, off, cs', _, _, h3, _⟩
    · intro y hy
      rw [List.length_eq_zero_iff.1 h2] at hy
      cases hy
    · exact RepL.all (RepC.tok a) x cs' h3
theorem avs_ok : ∀ (ts : List Ty) (d : HL ts) (us : List Value), AVRL w E I (HL.avs ts d) us → HL.ok ts d
  | [], _, _, _ => trivial
  | t :: ts, d, us, h => by
    obtain ⟨u, q, rfl, h1, h2⟩ := AVRL_cons.1 h
    simp only [AVR] at h1
    obtain ⟨cs, h3, _⟩ := h1
    exact ⟨RepC.tok t _ cs h3, avs_ok ts _ q h2⟩
end
end Go.Xr
namespace Go.Xr
open Go Go.ChangeShapes Go.WideShapes
section
variable {H : Type} {enc : TypeId × Value → H} {P : Program} {K : Kit} {w w' : World} {E : Bool → Nat → Prop}
def PureT (P : Program) (T : TypeId) : Prop := ∃ t, tyB P t (.inl T) = true
theorem row_kids : ∀ (a : Ty) (fs : List Field) (off : Nat), tyB P a (.inr (fs, off)) = true →
    (∀ f ∈ fs, PureT P f.type) ∧ a.size = (fs.map fun f => P.cellsOf f.type).sum ∧ ∀ (j : Nat) f, fs[j]? = some f → f.offset = off + ((fs.take j).map fun f => P.cellsOf f.type).sum := by
  intro a
  have one : ∀ (t : Ty) (fs : List Field) (off : Nat), t ≠ .unit → (∀ a b, t ≠ .pair a b) → tyB P t (.inr (fs, off)) = true →
      (∀ f ∈ fs, PureT P f.type) ∧ t.size = (fs.map fun f => P.cellsOf f.type).sum ∧ ∀ (j : Nat) f, fs[j]? = some f → f.offset = off + ((fs.take j).map fun f => P.cellsOf f.type).sum := by
    intro t fs off h1 h2 h
    obtain ⟨f, rfl⟩ := tyB_row h1 h2 h
    obtain ⟨h3, h4⟩ := tyB_single h1 h2 h
    refine ⟨fun g hg => ?_, ?_, fun j g hg => ?_⟩
    · simp at hg; subst hg; exact ⟨t, h4⟩
    · simp [(cellsOf_eq h4).1]
    · cases j with
      | zero => simp at hg; subst hg; simp [h3]
      | succ j => simp at hg
  induction a with
  | unit =>
    intro fs off h
    match fs with
    | [] => exact ⟨by simp, by simp [Ty.size], by simp⟩
    | f :: r => simp [tyB] at h
  | pair a b iha ihb =>
    intro fs off h
    match fs with
    | [] => simp [tyB] at h
    | f :: fs =>
      simp only [tyB, Bool.and_eq_true] at h
      obtain ⟨⟨⟨h1, h2⟩, h3⟩, h4⟩ := h
      have h1 := Nat.eq_of_beq_eq_true h1
      obtain ⟨k1, k2, k3⟩ := ihb fs _ h4
      have hc := (cellsOf_eq h3).1
      refine ⟨fun g hg => ?_, ?_, fun j g hg => ?_⟩
      · rcases List.mem_cons.1 hg with rfl | hg
        · exact ⟨a, h3⟩
        · exact k1 g hg
      · show a.size + b.size = _
        rw [k2]; simp [hc]
      · cases j with
        | zero => simp at hg; subst hg; simp [h1]
        | succ j =>
          rw [k3 j g (by simpa using hg)]
          show off + a.size + _ = _
          simp [hc, Nat.add_assoc]
  | int k => exact fun fs off h => one _ fs off (by simp) (by simp) h
  | bool => exact fun fs off h => one _ fs off (by simp) (by simp) h
  | str => exact fun fs off h => one _ fs off (by simp) (by simp) h
  | st a _ => exact fun fs off h => one _ fs off (by simp) (by simp) h
  | arr k a _ => exact fun fs off h => one _ fs off (by simp) (by simp) h
  | sl b a _ => exact fun fs off h => one _ fs off (by simp) (by simp) h
theorem pure_under {t : Ty} {T : TypeId} (h : tyB P t (.inl T) = true) : (∃ k, P.underlying T = some (.int k)) ∨ P.underlying T = some .bool ∨ P.underlying T = some .string ∨
    (∃ a fs, t = .st a ∧ P.underlying T = some (.struct fs) ∧ tyB P a (.inr (fs.toList, 0)) = true) ∨ (∃ n a e, t = .arr n a ∧ P.underlying T = some (.array n e) ∧ tyB P a (.inl e) = true) ∨ (∃ b a e, t = .sl b a ∧ P.underlying T = some (.slice e) ∧ tyB P a (.inl e) = true) := by
  cases t with
  | int k => exact .inl ⟨k, tyB_int h⟩
  | bool => exact .inr (.inl (tyB_bool h))
  | str => exact .inr (.inr (.inl (tyB_str h)))
  | unit => simp [tyB] at h
  | pair a b => simp [tyB] at h
  | st a => obtain ⟨fs, hu, hr, _⟩ := tyB_st h; exact .inr (.inr (.inr (.inl ⟨a, fs, rfl, hu, hr⟩)))
  | arr n a => obtain ⟨e, hu, hr, _⟩ := tyB_arr h; exact .inr (.inr (.inr (.inr (.inl ⟨n, a, e, rfl, hu, hr⟩))))
  | sl b a => obtain ⟨e, hu, hr⟩ := tyB_sl h; exact .inr (.inr (.inr (.inr (.inr ⟨b, a, e, rfl, hu, hr⟩))))
theorem pure_kids : Kids P (PureT P) where
  pointer := fun {t e} ⟨ty, h⟩ hu => by
    rcases pure_under h with ⟨k, h1⟩ | h1 | h1 | ⟨_, _, _, h1, _⟩ | ⟨_, _, _, _, h1, _⟩ | ⟨_, _, _, _, h1, _⟩ <;> rw [hu] at h1 <;> cases h1
  slice := fun {t e} ⟨ty, h⟩ hu => by
    rcases pure_under h with ⟨k, h1⟩ | h1 | h1 | ⟨_, _, _, h1, _⟩ | ⟨_, _, _, _, h1, _⟩ | ⟨_, a, e', _, h1, h2⟩ <;> rw [hu] at h1 <;> cases h1
    exact ⟨a, h2⟩
  array := fun {t e n} ⟨ty, h⟩ hu => by
    rcases pure_under h with ⟨k, h1⟩ | h1 | h1 | ⟨_, _, _, h1, _⟩ | ⟨m, a, e', e1, h1, h2⟩ | ⟨_, _, _, _, h1, _⟩ <;> rw [hu] at h1 <;> cases h1
    refine ⟨⟨a, h2⟩, ?_⟩
    rw [(cellsOf_eq h).1, (cellsOf_eq h2).1, e1]
    rfl
  struct := fun {t fs} ⟨ty, h⟩ hu => by
    rcases pure_under h with ⟨k, h1⟩ | h1 | h1 | ⟨a, fs', e1, h1, h2⟩ | ⟨_, _, _, _, h1, _⟩ | ⟨_, _, _, _, h1, _⟩ <;> rw [hu] at h1 <;> cases h1
    obtain ⟨k1, k2, k3⟩ := row_kids a fs.toList 0 h2
    refine ⟨k1, ?_, fun j f hf => ?_⟩
    · rw [(cellsOf_eq h).1, e1]; exact k2
    · rw [k3 j f hf, Nat.zero_add]
  map := fun {t k e} ⟨ty, h⟩ hu => by
    rcases pure_under h with ⟨k, h1⟩ | h1 | h1 | ⟨_, _, _, h1, _⟩ | ⟨_, _, _, _, h1, _⟩ | ⟨_, _, _, _, h1, _⟩ <;> rw [hu] at h1 <;> cases h1
theorem trod_again {n : Nat} {T : TypeId} {cs : List Value} {x : DataW H × List MemPlace} {sp : Nat → Bool} (ht : PureT P T) (h : DataW.trod enc P w 0 (fun _ => true) true n T cs = some x)
    (hw : ∀ k, k < w.heap.size → w'.heap[k]? = w.heap[k]?) (hs : ∀ p ∈ x.2, sp p.block = true) : DataW.trod enc P w' 0 sp true n T cs = some x := by
  refine DataW.trod_stays pure_kids (fun {t e} ⟨ty, h1⟩ hu => ?_) (fun e => by cases e) ht h (fun p hp => ?_) hs
  · have hlt := DataW.trod_lt n T cs x h p hp
    cases p with
    | cell b off => exact World.cell?_of_block (hw b hlt)
    | map b => exact hw b hlt
  · rcases pure_under h1 with ⟨k, h2⟩ | h2 | h2 | ⟨_, _, _, h2, _⟩ | ⟨_, _, _, _, h2, _⟩ | ⟨_, a, e', _, h2, h3⟩ <;> rw [hu] at h2 <;> cases h2
    have := cellsOf_eq h3
    omega
theorem trodAll_again {sp : Nat → Bool} (hw : ∀ k, k < w.heap.size → w'.heap[k]? = w.heap[k]?) : ∀ {ts : List TypeId} {vs : List Value} {ds : List (DataW H)} {ps : List MemPlace}, (∀ t ∈ ts, PureT P t) →
    DataW.TrodAll enc P w 0 (fun _ => true) true ts vs ds ps → (∀ p ∈ ps, sp p.block = true) → DataW.TrodAll enc P w' 0 sp true ts vs ds ps
  | [], vs, ds, ps, _, h, _ => by
    obtain ⟨rfl, rfl, rfl⟩ := trodAll_nil h
    exact rfl
  | t :: ts, vs, ds, ps, ht, h, hs => by
    obtain ⟨v, vs1, d, ds1, a, b, rfl, rfl, rfl, ⟨n, h1⟩, h2⟩ := trodAll_cons h
    exact ⟨a, b, ⟨n, trod_again (ht t (by simp)) h1 hw (fun p hp => hs p (List.mem_append_left _ hp))⟩, trodAll_again hw (fun t' h' => ht t' (List.mem_cons_of_mem _ h')) h2 (fun p hp => hs p (List.mem_append_right _ hp)), rfl⟩
def tysB (P : Program) : List TypeId → List Ty → Bool
  | [], [] => true
  | T :: Ts, t :: ts => tyB P t (.inl T) && tysB P Ts ts
  | _, _ => false
theorem isV_of {t : Ty} {T : TypeId} (h : tyB P t (.inl T) = true) {base : Nat} {v : Value} (hv : Value.okWide P w .any base T v) : IsV t.isAgg v.cells.toList v := by
  unfold Value.okWide at hv
  have hnon : Cell.okWide P w .any base T v → (∃ k, P.underlying T = some (.int k)) ∨ P.underlying T = some .bool ∨ P.underlying T = some .string ∨ (∃ e, P.underlying T = some (.slice e)) → v.cells = #[v] := by
    intro h1 h2
    unfold Cell.okWide Cell.ok at h1
    rcases h2 with ⟨k, h2⟩ | h2 | h2 | ⟨e, h2⟩ <;> rw [h2] at h1 <;> cases v <;> simp_all [Value.cells]
  rcases pure_under h with ⟨k, h1⟩ | h1 | h1 | ⟨a, fs, rfl, h1, _⟩ | ⟨n, a, e, rfl, h1, _⟩ | ⟨b, a, e, rfl, h1, _⟩
  · rw [h1] at hv
    have ha : t.isAgg = false := by cases t <;> first | rfl | (obtain ⟨fs, hu, _⟩ := tyB_st h; rw [h1] at hu; cases hu) | (obtain ⟨fs, hu, _⟩ := tyB_arr h; rw [h1] at hu; cases hu)
    rw [ha, hnon hv (.inl ⟨k, h1⟩)]
    rfl
  · rw [h1] at hv
    have ha : t.isAgg = false := by cases t <;> first | rfl | (obtain ⟨fs, hu, _⟩ := tyB_st h; rw [h1] at hu; cases hu) | (obtain ⟨fs, hu, _⟩ := tyB_arr h; rw [h1] at hu; cases hu)
    rw [ha, hnon hv (.inr (.inl h1))]
    rfl
  · rw [h1] at hv
    have ha : t.isAgg = false := by cases t <;> first | rfl | (obtain ⟨fs, hu, _⟩ := tyB_st h; rw [h1] at hu; cases hu) | (obtain ⟨fs, hu, _⟩ := tyB_arr h; rw [h1] at hu; cases hu)
    rw [ha, hnon hv (.inr (.inr (.inl h1)))]
    rfl
  · rw [h1] at hv
    obtain ⟨cs, rfl, _⟩ := hv
    simp [IsV, Ty.isAgg, Value.cells]
  · rw [h1] at hv
    obtain ⟨cs, rfl, _⟩ := hv
    simp [IsV, Ty.isAgg, Value.cells]
  · rw [h1] at hv
    rw [hnon hv (.inr (.inr (.inr ⟨e, h1⟩)))]
    rfl
theorem args_open (hK : KitOK P K) (hE : ∀ b k, k < w.heap.size → E b k) {I : Nat → Option BI} {base : Nat} : ∀ (Ts : List TypeId) (pts : List Ty) (vs : List Value) (ds : List (DataW H)) (ps : List MemPlace), tysB P Ts pts = true →
    (∀ (j : Nat) t v, Ts[j]? = some t → vs[j]? = some v → Value.okWide P w .any base t v) → (∀ m ∈ DataW.weightsEach P Ts ds, m ≤ reachBytes) → DataW.TrodAll enc P w 0 (fun _ => true) true Ts vs ds ps →
    (∃ d : HL pts, AVRL w E I (HL.avs pts d) vs) ∧ ds.length = Ts.length ∧ vs.length = Ts.length ∧ ∀ t ∈ Ts, PureT P t
  | [], [], vs, ds, ps, _, _, _, h => by
    obtain ⟨rfl, rfl, rfl⟩ := trodAll_nil h
    exact ⟨⟨(), AVRL_nil.2 rfl⟩, rfl, rfl, by simp⟩
  | T :: Ts, t :: pts, vs, ds, ps, htys, hok, hw, h => by
    obtain ⟨v, vs1, d, ds1, a, b, rfl, rfl, rfl, ⟨n, h1⟩, h2⟩ := trodAll_cons h
    simp only [tysB, Bool.and_eq_true] at htys
    obtain ⟨hT, k2⟩ := htys
    obtain ⟨y, hy⟩ := open_rep hE n t T _ _ hT (fun m hm => hw m (by simp only [DataW.weightsEach, List.mem_append]; exact .inl hm)) h1
    obtain ⟨⟨d', hd'⟩, e2, e3, e4⟩ := args_open hK hE (I := I) Ts pts vs1 ds1 b k2 (fun j t v ht hv => hok (j + 1) t v (by simpa using ht) (by simpa using hv)) (fun m hm => hw m (by simp only [DataW.weightsEach, List.mem_append]; exact .inr hm)) h2
    refine ⟨⟨(y, d'), AVRL_cons.2 ⟨v, vs1, rfl, ?_, hd'⟩⟩, by simp [e2], by simp [e3], fun t' ht' => ?_⟩
    · show AVR w E I (.pv t y) v
      simp only [AVR]
      exact ⟨_, hy, isV_of hT (hok 0 T v rfl rfl)⟩
    · rcases List.mem_cons.1 ht' with rfl | ht'
      · exact ⟨t, hT⟩
      · exact e4 t' ht'
  | [], _ :: _, _, _, _, htys, _, _, _ => by simp [tysB] at htys
  | _ :: _, [], _, _, _, htys, _, _, _ => by simp [tysB] at htys
def boolEnd (e : Ex) : PO PB := match e with
  | .ret [.pv .bool b] => pOpt (some b)
  | .ret [.lit b] => pOpt (some (pB b))
  | _ => pOpt none
noncomputable def lawTree (K : Kit) (l : List Smry) (hn : Hn) (f : FuncId) (args : List AV) : Tree :=
  match K.fn f with
  | none => .fail
  | some (nt, res, code) => denC K (runN K 8) (callS l) none (K.vars f) res code hn { tm := List.append args (repL .undef (Nat.sub nt (len args))), bx := [], env := [], benv := [], base := 1, nx := 2, up := [] }
noncomputable def lawRun (K : Kit) (l : List Smry) (hn : Hn) (f : FuncId) (args : List AV) : PO PB := (lawTree K l hn f args).run fun e _ => boolEnd e
theorem hf_wide : HF Fence.wide := ⟨fun _ => trivial, rfl⟩
def SameOld (w w' : World) : Prop := w'.os = w.os ∧ w'.output = w.output ∧ w.heap.size ≤ w'.heap.size ∧ ∀ k, k < w.heap.size → w'.heap[k]? = w.heap[k]?
theorem law_calls (hK : KitOK P K) {l : List Smry} (hl : ∀ S ∈ l, S.OK P) {hn : Hn} {f : FuncId} {as : List AV} {args : Array Value}
    (hargs : AVRL w (fun _ k => k < w.heap.size) (fun _ => none) as args.toList) (hrun : lawRun K l hn f as = some true) :
    Calls P f args w fun e w' => e = .returned (.bool true) ∧ SameOld w w' := by
  unfold lawRun at hrun
  have hsat := Tree.run_sat _ hrun
  unfold lawTree at hsat
  split at hsat
  · exact hsat.elim
  · rename_i nt res code hfn
    obtain ⟨fn, hf, hnt, hres, hbody, hname⟩ := hK.fn f nt res code hfn
    let c0 : Cx := { w := w, fz := fun k => k < w.heap.size, bo := fun _ => False, ρ := fun _ => none, lp := fun _ => none, mks := fun _ => False }
    let b0 : Base := { w0 := w, own0 := fun _ => False, fz0 := fun k => k < w.heap.size, bo0 := fun _ => False, lp0 := fun _ => none, mk0 := fun _ => False }
    generalize hs1 : ({ tm := List.append as (repL .undef (Nat.sub nt (len as))), bx := [], env := [], benv := [], base := 1, nx := 2, up := [] } : AS) = s1 at hsat
    generalize ha1 : ({ tmps := args ++ Array.replicate (fn.ntmps - args.size) undef, defers := [] } : Act) = a1
    have hbox : ∀ i, s1.box i = none := fun i => by subst hs1; rfl
    have hI1 : c0.I s1 = fun _ => none := by funext i; unfold Cx.I; rw [hbox]; rfl
    have hargs' : AVRL c0.w c0.E (c0.I s1) as args.toList := by
      rw [hI1]
      exact AVRL.mono (fun b k hk => ⟨.inl hk, rfl⟩) _ _ (fun i _ => .inl rfl) hargs
    have hlen := AVRL_len as args.toList hargs'
    have h1 : St c0 [] s1 a1 := by
      refine ⟨?_, by rw [← ha1]; exact ⟨[], List.nodup_nil, rfl, fun r hr => by cases hr⟩, ?_, fun i b hi => ?_, fun i j x y hi => (hi (hbox i)).elim, fun i x hi => (hi (hbox i)).elim, fun k hk => hk.elim id (fun h => h.elim), fun r hr => hr.elim, fun i d hd => by cases hd⟩
      · intro k v hv
        have htm : s1.tm = as ++ repL .undef (Nat.sub nt (len as)) := by rw [← hs1]; rfl
        rw [htm] at hv
        have htmps : a1.tmps = args ++ Array.replicate (fn.ntmps - args.size) undef := by rw [← ha1]
        rw [htmps]
        rcases nth_append _ _ k v hv with h2 | ⟨h2, h3⟩
        · obtain ⟨u, h3, h4⟩ := AVRL_nth as args.toList k v hargs' h2
          have hk : k < args.toList.length := by rw [← hlen]; exact nth_lt _ _ _ h2
          have hk' : k < args.size := by simpa using hk
          refine ⟨by simp; omega, ?_⟩
          rw [show s1.rv v = v from AS.rv_of h4]
          have : (args ++ Array.replicate (fn.ntmps - args.size) undef).getD k undef = u := by
            rw [Array.getD_eq_getD_getElem?, Array.getElem?_append_left hk', ← Array.getElem?_toList, h3]
            rfl
          rw [this]
          exact h4
        · obtain ⟨e, h4⟩ := nth_repL _ _ _ h3
          subst e
          refine ⟨?_, by simp only [AS.rv, AVR]⟩
          rw [len_eq] at h4
          have h5 : k - as.length < nt - as.length := h4
          have h6 : as.length = args.size := by simpa using hlen
          simp
          omega
      · have : s1.up = [] := by rw [← hs1]
        rw [this]; rfl
      · rw [hbox] at hi; cases hi
    have hfr1 : Fr b0 c0 s1 := ⟨rfl, rfl, rfl, Nat.le_refl _, fun _ _ _ => rfl, fun i x hi => (hi (hbox i)).elim, fun k hk => .inl hk, fun k hk => hk, fun k => Iff.rfl, rfl, fun r hr => hr.elim, fun r hr => hr.elim, fun _ _ => rfl⟩
    subst hres
    have hcode := denC_sound (n := 0) (rd := none) hK (runN_sound hK 8).1 (runN_sound hK 8).2 callS_ext (vars := K.vars f) (res := fn.results.toList) code hn hf_wide rfl (callS_sound hl) h1 hfr1 hsat
    have hold : ∀ {c : Cx} {s : AS}, Fr b0 c s → SameOld w c.w := fun h => ⟨h.os, h.output, h.size, fun k hk => h.block k hk (fun h => h)⟩
    have key : CallsIn Fence.wide 0 P f args w fun e w' => e = .returned (.bool true) ∧ SameOld w w' := by
      rw [← ha1] at hcode
      refine CallsIn.mono (calls_of_wp (b := b0) (us := []) (Q := fun e s => boolEnd e = some true) hK hf_wide rfl hf hbody (fun k hk => hk) (wpIn_mono hcode (AbsE.mono fun e s k1 => ?_))) ?_
      · cases e with
        | ret vs => exact k1
        | normal => cases k1
        | exit _ => cases k1
      · rintro e w' ⟨c', s2, vs2, rs, a2, rfl, k1, k2, k3, k5, rfl⟩
        refine ⟨?_, hold k3⟩
        unfold boolEnd at k1
        split at k1
        · rename_i b heq
          cases heq
          simp only [pOpt, Option.some.injEq] at k1
          obtain ⟨u, q, rfl, q1, q2⟩ := AVRL_cons.1 k5
          rw [AVRL_nil.1 q2, AVR_bool.1 q1, k1]
          rfl
        · rename_i b heq
          cases heq
          simp only [pOpt, Option.some.injEq] at k1
          obtain ⟨u, q, rfl, q1, q2⟩ := AVRL_cons.1 k5
          rw [AVRL_nil.1 q2, AVR_lit.1 q1, show b = true from k1]
          rfl
        · cases k1
    exact CallsIn.calls key room_wide
theorem post_same {f : Func} {s : ChangeSpec} {apart fresh handsOn again : Bool} {W W' : World} {args : Array Value} {v : Value} {ds gs : List (DataW H)} {before pa pv : List MemPlace}
    (hW : DataW.Whole enc P f.params.toList s.vars apart W args.toList ds gs before)
    (hres : ∀ (b : Nat) (sp : Nat → Bool) (hd : Bool), DataW.TrodAll enc P W' b sp hd f.resultTypes.toList (v.resultList f.resultTypes.size) (s.fn H (ds ++ gs)).results [])
    (hargs : ∀ sp : Nat → Bool, (∀ p ∈ before, sp p.block = true) → DataW.TrodAll enc P W' 0 sp true f.params.toList args.toList (s.fn H (ds ++ gs)).args pa)
    (hvars : ∀ sp : Nat → Bool, (∀ p ∈ before, sp p.block = true) → DataW.TrodVars enc P W' sp s.vars (s.fn H (ds ++ gs)).vars pv)
    (hps : before = pa ++ pv) (hk : W.keptBut W' (· ∈ before)) (hfz : ∀ a, a.block < W.heap.size → W'.frozen? a = W.frozen? a)
    (hok : ∀ (j : Nat) (t : TypeId) (r : Value), f.resultTypes[j]? = some t → (v.resultList f.resultTypes.size)[j]? = some r → Value.okWide P W' .any 0 t r) :
    s.post enc P f apart fresh handsOn again W args v W' := by
  have hold : ∀ p ∈ before, (fun b => decide (b < W.heap.size)) p.block = true := fun p hp => by simpa using hW.lt p hp
  have hlt := hW.lt
  refine ⟨ds, gs, before, [], pa, pv, hW, hres _ _ _, hargs _ hold, hvars _ hold, World.keptBut_mono (fun p hp => ⟨hp, ?_⟩) hk, fun _ => ?_⟩
  · rw [hps, List.mem_append] at hp
    exact Or.inr hp
  · obtain ⟨_, _, _, _, _, hz, hn⟩ := hW
    refine ⟨hok, _, _, ([] ++ pa) ++ pv, ⟨[] ++ pa, pv, trodAll_append (hargs _ (fun _ _ => rfl)) (hres _ _ _), hvars _ (fun _ _ => rfl), rfl, ?_, ?_⟩, ?_⟩
    · intro b off hp
      have hm : MemPlace.cell b off ∈ before := by rw [hps]; simpa using hp
      rw [hfz _ (hlt _ hm)]
      exact hz b off hm
    · intro ha
      have := hn ha
      rw [hps] at this
      simpa using this
    · intro p hp _
      rw [hps]
      simpa using hp
theorem keptBut_of (h : SameOld w w') (may : MemPlace → Prop) : w.keptBut w' may := by
  refine ⟨h.1, h.2.1, fun i hi => ?_⟩
  have e := h.2.2.2 i hi
  have hx : w.heap[i]? = some (w.heap[i]'hi) := Array.getElem?_eq_getElem hi
  rw [e, hx]
  cases w.heap[i]'hi <;> first | exact ⟨rfl, rfl, rfl, fun _ _ => rfl⟩ | exact .inr ⟨rfl, rfl⟩ | rfl
theorem frozen_of (h : SameOld w w') : ∀ a : Addr, a.block < w.heap.size → w'.frozen? a = w.frozen? a := fun a ha => by
  unfold World.frozen?
  rw [h.2.2.2 _ ha]
theorem law_contract (hK : KitOK P K) {l : List Smry} (hl : ∀ S ∈ l, S.OK P) {hn : Hn} {f : FuncId} {fn : Func} {pts : List Ty} {s : ChangeSpec} {bt : TypeId}
    (htys : tysB P fn.params.toList pts = true) (hr : fn.resultTypes = #[bt]) (hbt : P.underlying bt = some .bool) (hv : s.vars = []) (hfn : ∀ ds : List (DataW H), ds.length = fn.params.size → s.fn H ds = { results := [.lit (.bool true)], args := ds })
    (hrun : ∀ d : HL pts, HL.ok pts d → lawRun K l hn f (HL.avs pts d) = some true) {apart fresh handsOn again : Bool}
    (W : World) (base : Nat) (args : Array Value) (ds gs : List (DataW H)) (before : List MemPlace)
    (hval : ∀ (j : Nat) t v, fn.params[j]? = some t → args[j]? = some v → Value.okWide P W .any base t v)
    (hW : DataW.Whole enc P fn.params.toList s.vars apart W args.toList ds gs before)
    (hwt : (DataW.weightsEach P (fn.params.toList ++ s.plain.varTypes P) (ds ++ gs)).all (· ≤ reachBytes) = true) :
    Calls P f args W fun e W' => ∃ v, e = .returned v ∧ s.post enc P fn apart fresh handsOn again W args v W' := by
  have hW' := hW
  obtain ⟨p, q, hA, hV, rfl, hfz, hnd⟩ := hW
  rw [hv] at hV
  obtain ⟨rfl, rfl⟩ := trodVars_none hV
  have hvt : s.plain.varTypes P = [] := by
    simp [ChangeSpec.plain, DataSpec.varTypes, hv]
  rw [hvt, List.append_nil, List.append_nil] at hwt
  obtain ⟨⟨d, hd⟩, e1, e2, e3⟩ := args_open (E := fun _ k => k < W.heap.size) (I := fun _ => none) hK (fun b k hk => hk) fn.params.toList pts args.toList ds p htys (fun j t v h1 h2 => hval j t v (by simpa using h1) (by simpa using h2)) (fun m hm => by simpa using List.all_eq_true.1 hwt m hm) hA
  refine (law_calls hK hl hd (hrun d (avs_ok _ d _ hd))).mono fun e W' ⟨he, hg⟩ => ?_
  subst he
  have hdl : ds.length = fn.params.size := by simpa using e1
  have hsf : s.fn H (ds ++ []) = { results := [.lit (.bool true)], args := ds } := by rw [List.append_nil]; exact hfn ds hdl
  have hrl : (Value.bool true).resultList fn.resultTypes.size = [.bool true] := by rw [hr]; rfl
  refine ⟨_, rfl, post_same (pa := p) (pv := []) hW' (fun b sp hd => ?_) (fun sp hsp => ?_) (fun sp _ => ?_) (by simp) (keptBut_of hg _) (frozen_of hg) (fun j t r h1 h2 => ?_)⟩
  · rw [hsf, hrl, hr]
    exact trodAll_cons_mk (RowKit.shut_bool hbt _) trodAll_mk0
  · rw [hsf]
    exact trodAll_again hg.2.2.2 e3 hA (fun p hp => hsp p (by simpa using hp))
  · rw [hsf, hv]
    rfl
  · rw [hr] at h1
    rw [hrl] at h2
    match j, h1, h2 with
    | 0, h1, h2 =>
      simp at h1 h2
      subst h1; subst h2
      exact RowKit.okWide_bool_mk hbt _
end
end Go.Xr
namespace Go.Xr
open Go
section
variable {F : Fence} {n : Nat} {P : Program} {K : Kit} {o : Oper} {a : Act} {w w' : World} {Qx : Exit → Act → World → Prop} {u : Value}
variable {b : Base} {us : List (Array Value)} {c c' : Cx} {s s' s0 : AS} {Q : Ex → AS → Prop} {T : TypeId}
theorem callI_ext {l : List Smry} {il : List (FuncId × Hn)} (hK : KitOK P K) : ∀ (k : Nat) (o : Oper) (v : AV) (as : List AV) (s : AS), (callI K l il k o v as s).All (EX s)
  | 0, o, v, as, s => callS_ext o v as s
  | k + 1, o, v, as, s => by
    unfold callI
    split
    · rename_i f cs
      split
      · rename_i h _
        refine Tree.all_bind _ (Tree.All.mono ?_ _ ((runN_sound hK 8).2 f h _ _ (callI_ext hK k)))
        intro e s' hx
        have hx : Ext s s' := Ext.trans (Ext.of rfl rfl) hx
        split
        · rename_i vs ft up hup
          exact Tree.All.mono (fun e s'' h' => hx.trans (Ext.trans (Ext.of rfl rfl) h')) _ (ret_all (s := { s' with tm := ft, up := up, base := s.base }) rfl rfl)
        · exact trivial
      · exact callS_ext o _ as s
    · exact callS_ext o _ as s
theorem St.rebase (h : St c us s a) (x y : Nat) : St c us { s with base := x, nx := y } a := ⟨h.tm, h.df, h.up, h.bx, h.inj, h.own, h.lt, h.mks, h.lv⟩
theorem row_of_args {E : Bool → Nat → Prop} {I : Nat → Option BI} (s : AS) : ∀ (as : List AV) (us : List Value), AVRL w E I as us → RowOK w E I s.rv as us.toArray := by
  intro as us h k v hk
  have key : ∀ (as : List AV) (us : List Value), AVRL w E I as us → ∀ k v, nth as k = some v → k < us.length ∧ ∃ u, us[k]? = some u ∧ AVR w E I v u := by
    intro as
    induction as with
    | nil => intro us _ k v hk; cases hk
    | cons x as ih =>
      intro us hv k v hk
      obtain ⟨u, q, rfl, j1, j2⟩ := AVRL_cons.1 hv
      cases k with
      | zero => simp only [nth, Option.some.injEq] at hk; subst hk; exact ⟨by simp, u, rfl, j1⟩
      | succ k =>
        obtain ⟨m1, u', m2, m3⟩ := ih q j2 k v hk
        exact ⟨by simp; omega, u', by simpa using m2, m3⟩
  obtain ⟨m1, u', m2, m3⟩ := key _ _ h k v hk
  refine ⟨by simpa using m1, ?_⟩
  rw [rv_of_avr s v u' m3]
  have : us.toArray.getD k undef = u' := by rw [Array.getD_eq_getD_getElem?]; simp [m2]
  rw [this]
  exact m3
theorem callI_sound (hK : KitOK P K) {l : List Smry} (hl : ∀ S ∈ l, S.OK P) {il : List (FuncId × Hn)} : ∀ (k : Nat) {L : Nat → Option LD} {us0 : List (Array Value)}, CallSound P L us0 (callI K l il k)
  | 0, L, us0 => callS_sound hl
  | k + 1, L, us0 => by
    intro F n pre b hF hLb o cl x a c s us Q Qx hus ho hcal h hfr hs
    have plain : (callS l o (s.ev x) (cl.args.toList.map s.ev) s).sat Q → o.wpIn F n P a c.w (Abs b us Q) Qx := fun hs => callS_sound hl (L := L) (us0 := us0) F n pre b hF hLb hus ho hcal h hfr hs
    unfold callI at hs
    have hx := h.ev x
    split at hs
    · rename_i f cs hX
      split at hs
      · rename_i hn hlk
        rw [hX] at hx
        simp only [AVR] at hx
        obtain ⟨vs, hxe, hxc⟩ := hx
        have hargs : AVRL c.w c.E (c.I s) (List.append (cl.args.toList.map s.ev) cs) ((cl.args.toList.map a.eval) ++ vs) := AVRL_append _ _ _ _ (h.evs _) hxc
        generalize hA : List.append (cl.args.toList.map s.ev) cs = A at *
        generalize hV : (cl.args.toList.map a.eval) ++ vs = V at *
        have hp := h.push (tm := []) (t := #[]) (fun k v hv => by cases hv) (ds := []) ⟨[], List.nodup_nil, rfl, fun r hr => by cases hr⟩
        have hrow : RowOK c.w c.E (c.I { s with tm := [], up := s.tm :: s.up }) s.rv A V.toArray := row_of_args s A V hargs
        have hp3 := ((hp.retm hrow (ds := []) ⟨[], List.nodup_nil, rfl, fun r hr => by cases hr⟩).remk (mk' := fun _ => False) (fun r hr => hr.elim) (ds := []) ⟨[], List.nodup_nil, rfl, fun r hr => by cases hr⟩).rebase s.nx (Nat.succ s.nx)
        generalize hsg : ({ s with tm := A, up := s.tm :: s.up, base := s.nx, nx := Nat.succ s.nx } : AS) = sg at *
        have hbx : ∀ j, sg.box j = s.box j := fun j => by rw [← hsg]; rfl
        have hp3 : St { c with mks := fun _ => False } (a.tmps :: us) sg ⟨V.toArray, []⟩ := hp3
        let cg : Cx := { c with mks := fun _ => False }
        let bg : Base := { baseOf cg sg with mk0 := fun _ => False }
        have hfg : Fr bg cg sg := ⟨rfl, rfl, rfl, Nat.le_refl _, fun _ _ _ => rfl, fun i x hi hx => .inl ⟨i, x, hi, hx, rfl⟩, fun _ h => .inl h, fun _ h => h, fun _ => Iff.rfl, rfl, fun _ h => h, fun _ h => .inl h, fun _ _ => rfl⟩
        have ownB : ∀ k, bg.own0 k → b.own0 k ∨ b.w0.heap.size ≤ k := by
          rintro k ⟨j, x, hj, hx, rfl⟩
          rw [hbx] at hj
          exact hfr.own j x hj hx
        have hFp : HF F.plain := ⟨hF.1, hF.2⟩
        obtain ⟨⟨fn, code, hf, hbody, hname⟩, hcalls⟩ := (runN_sound hK 8).1 F.plain (n - 1) hFp rfl (callI_sound hK hl k (L := bg.lp0) (us0 := a.tmps :: us)) (callI_ext hK k) (fun _ h => h) hp3 hfg (Tree.sat_bind _ hs)
        have hrun : (execOp a.eval o).run P c.w = .ok (.enter f V.toArray) c.w := by
          simp only [execOp, ho, resolve, hcal, hxe, Deferred.ofValue, Sem.run_bind, Sem.run_pure, Result.andThen_ok, invoke, run_callFunc hf hbody hname]
          rw [← hV]
          congr 2
          simp
        have hd : ∀ c, o.op ≠ .defer c := fun c => by rw [ho]; simp
        refine ⟨fun f _ => hF.1 f, ?_⟩
        rw [Oper.semAt_eq _ _ _ hd, hrun]
        simp only [Oper.uponIn_enter]
        refine ⟨fun e => (by rw [hF.2] at e; cases e), ?_⟩
        refine CallsIn.mono hcalls ?_
        rintro e w' ⟨c', s', vs', rs, a', rfl, hq, k1, kf, hvs, rfl⟩
        split at hq
        · rename_i vs2 ft up e1 hup
          cases e1
          have mkOld : ∀ r, c.mks r → c'.w.heap[r]? = some (.deferred (some [])) ∧ ¬ c'.fz r ∧ ¬ c'.bo r ∧ ∀ i x, s'.box i ≠ none → c'.ρ i = some x → x.1 ≠ r := by
            intro r hr
            obtain ⟨m1, m2, m3, m4⟩ := h.mks r hr
            have hlt : r < c.w.heap.size := (Array.getElem?_eq_some_iff.1 m1).1
            have hno : ¬ bg.own0 r := by
              rintro ⟨j, x, hj, hx, e⟩
              rw [hbx] at hj
              exact m4 j x hj hx e
            refine ⟨(kf.block r hlt hno).trans m1, fun hf => ?_, fun hf => m3 ((kf.bo r).1 hf), fun j x hj hx e => ?_⟩
            · rcases kf.fz r hf with q | q | q
              · exact m2 q
              · exact hno q
              · have q : c.w.heap.size ≤ r := q
                omega
            · rcases kf.own j x hj hx with q | q
              · exact hno (e ▸ q)
              · have q : c.w.heap.size ≤ x.1 := q
                omega
          have hml : Marks { c' with mks := c.mks } a.defers := by
            obtain ⟨rs', r1, r2, r3⟩ := h.df
            exact ⟨rs', r1, r2, r3⟩
          have km := k1.remk (mk' := c.mks) mkOld hml
          have kp := (km.pop (tm := ft) (up := up) hup (ds := a.defers) hml (fun i d hi => by
            have hi : c'.lp i = some d := hi
            rw [kf.lp] at hi
            exact h.lv i d hi)).rebase s.base s'.nx
          have kfb : Fr b { c' with mks := c.mks } { s' with tm := ft, up := up, base := s.base } := by
            refine ⟨kf.os.trans hfr.os, kf.tape.trans hfr.tape, kf.output.trans hfr.output, Nat.le_trans hfr.size kf.size, ?_, ?_, ?_, ?_, ?_, kf.lp.trans hfr.lp, fun r hr => hfr.mks r hr, fun r hr => hfr.mks' r hr, fun k hk => (kf.cs k (Nat.lt_of_lt_of_le hk hfr.size)).trans (hfr.cs k hk)⟩
            · intro x hx hn
              have hlt := Nat.lt_of_lt_of_le hx hfr.size
              rw [← hfr.block x hx hn]
              refine kf.block x hlt fun ho => ?_
              rcases ownB x ho with q | q
              · exact hn q
              · omega
            · intro j x hj hx
              rcases kf.own j x hj hx with q | q
              · exact ownB _ q
              · right
                have q : c.w.heap.size ≤ x.1 := q
                have := hfr.size
                omega
            · intro x hx
              rcases kf.fz x hx with q | q | q
              · exact hfr.fz x q
              · exact .inr (ownB x q)
              · right; right
                have q : c.w.heap.size ≤ x := q
                have := hfr.size
                omega
            · exact fun x hx => kf.fz' x (hfr.fz' x hx)
            · exact fun x => (kf.bo x).trans (hfr.bo x)
          rw [retT_eq] at hq
          have hres := ret_avr hvs
          exact ⟨{ c' with mks := c.mks }, _, rfl, hq, kp.putO hres o.dst, kfb.putO o.dst _⟩
        · exact hq.elim
      · rename_i hlk
        exact plain hs
    · exact plain hs
theorem Smry.okI (hK : KitOK P K) {l : List Smry} (hl : ∀ S ∈ l, S.OK P) (S : Smry) (il : List (FuncId × Hn)) (hn : Hn) (hin : (S.σ.inR s00 && S.ws.all fun w => w.σ.inR s00) = true) (chk : ∀ d, smryRunI K l il S.f hn S.σ S.ws d = S.M d) (hsome : (K.fn S.f).isSome = true) : S.OK P := by
  simp only [Bool.and_eq_true] at hin
  obtain ⟨hin1, hin2⟩ := hin
  cases hfn : K.fn S.f with
  | none => rw [hfn] at hsome; cases hsome
  | some y =>
    obtain ⟨nt, res, code⟩ := y
    obtain ⟨fn, hf, hnt, hres, hbody, hname⟩ := hK.fn S.f nt res code hfn
    refine ⟨⟨fn, code, hf, hbody, hname⟩, hin1, fun F n hF hro b hmk c us V d x Q h hfr hm hq => ?_⟩
    have e := chk d
    rw [hm] at e
    unfold smryRunI at e
    rw [hfn] at e
    dsimp only at e
    have hs := Tree.sat_bind _ (Tree.run_sat _ e)
    have hst : startS S.σ nt d = { (S.σ.fill s00 (HL.out _ d)).1 with tm := List.append (S.σ.fill s00 (HL.out _ d)).1.tm (repL .undef (Nat.sub nt (len (S.σ.fill s00 (HL.out _ d)).1.tm))) } := rfl
    have h1 := start_tm hnt h
    rw [← hst] at h1
    have hfr1 : Fr b c (startS S.σ nt d) := ⟨hfr.os, hfr.tape, hfr.output, hfr.size, hfr.block, hfr.own, hfr.fz, hfr.fz', hfr.bo, hfr.lp, hfr.mks, hfr.mks', hfr.cs⟩
    subst hres
    refine CallsIn.mono (calls_of_wp (Q := fun e s => pOpt (Ways.take S.ws e s) = some x) hK hF hro hf hbody hmk (denC_sound (rd := none) hK (runN_sound hK 8).1 (runN_sound hK 8).2 (callI_ext hK _) (vars := K.vars S.f) code hn hF hro (callI_sound hK hl _) h1 hfr1 hs)) ?_
    rintro e w' ⟨c', s2, vs, rs, a2, rfl, k1, k2, k3, k4, rfl⟩
    obtain ⟨wy, hmem, dw, j1, j2⟩ := Ways.take_one S.ws k1 hq
    obtain ⟨c'', e', s', g1, g2, g3, g4, g5⟩ := Way.take_spec k2 k3 ext00 (List.all_eq_true.1 hin2 _ hmem) j1
    obtain ⟨vs', rfl, g6⟩ := g5
    rw [g2] at j2
    exact ⟨c'', s', vs', rs, a2, g1, j2, g3, g4, g6 rs k4, rfl⟩
theorem Smry.okRec (hK : KitOK P K) {l : List Smry} (hl : ∀ S ∈ l, S.OK P) (f : FuncId) (σ : SS) (ws : List Way) (B : (HL σ.holes → PO (Ways ws)) → HL σ.holes → PO (Ways ws)) (il : List (FuncId × Hn)) (hn : Hn) (hin : (σ.inR s00 && ws.all fun w => w.σ.inR s00) = true)
    (chk : ∀ M d, smryRunI K (⟨f, σ, ws, M⟩ :: l) il f hn σ ws d = B M d) (hsome : (K.fn f).isSome = true) : Smry.OK P ⟨f, σ, ws, pRec B⟩ := by
  have key : ∀ k, Smry.OK P ⟨f, σ, ws, recN B k⟩ := by
    intro k
    induction k with
    | zero =>
      cases hfn : K.fn f with
      | none => rw [hfn] at hsome; cases hsome
      | some y =>
        obtain ⟨nt, res, code⟩ := y
        obtain ⟨fn, hf, hnt, hres, hbody, hname⟩ := hK.fn f nt res code hfn
        simp only [Bool.and_eq_true] at hin
        refine ⟨⟨fn, code, hf, hbody, hname⟩, hin.1, fun F n hF hro b hmk c us V d x Q h hfr hm hq => ?_⟩
        cases hm
    | succ k ih => exact Smry.okI hK (fun S hS => by
        rcases List.mem_cons.1 hS with e | hS
        · rw [e]; exact ih
        · exact hl S hS) ⟨f, σ, ws, recN B (k + 1)⟩ il hn hin (fun d => chk (recN B k) d) hsome
  obtain ⟨h1, h2, _⟩ := key 0
  refine ⟨h1, h2, fun F n hF hro b hmk c us V d x Q h hfr hm hq => ?_⟩
  simp only [pRec] at hm
  split at hm
  · rename_i hh
    exact (key hh.choose).2.2 F n hF hro hmk h hfr hm hq
  · cases hm
end
end Go.Xr
namespace Go.Xr
open Go
def mkKit (tds : List (Nat × TD)) (fns : List (Nat × Func)) (vrs : List (Nat × List Nat)) : Kit where
  td := fun T => match lookupN tds T with | some d => d | none => .other
  fn := fun f => match lookupN fns f with | some g => (match g.body with | some b => some (g.ntmps, g.results.toList, b) | none => none) | none => none
  vars := fun f => match lookupN vrs f with | some l => l | none => []
def AllF (P : Program) : List (Nat × Func) → Prop
  | [] => True
  | x :: r => (P.funcs[x.1]? = some x.2 ∧ (x.2.name == "runtime.NumGoroutine") = false) ∧ AllF P r
theorem AllF.at {P : Program} : ∀ {l : List (Nat × Func)} {f : Nat} {g : Func}, AllF P l → lookupN l f = some g → P.funcs[f]? = some g ∧ (g.name == "runtime.NumGoroutine") = false
  | x :: r, f, g, h, hl => by
    obtain ⟨k, y⟩ := x
    simp only [lookupN] at hl
    cases hb : Nat.beq f k with
    | true =>
      rw [hb] at hl
      cases hl
      have e := Nat.eq_of_beq_eq_true hb
      subst e
      exact h.1
    | false => rw [hb] at hl; exact AllF.at h.2 hl
  | [], f, g, h, hl => by cases hl
theorem lookup_any {α : Type} : ∀ (l : List (Nat × α)) (i : Nat) (x : α), lookupN l i = some x → (i, x) ∈ l
  | (j, y) :: r, i, x, h => by
    simp only [lookupN] at h
    cases hb : Nat.beq i j with
    | true => rw [hb] at h; have e := Nat.eq_of_beq_eq_true hb; subst e; cases h; exact List.mem_cons_self
    | false => rw [hb] at h; exact List.mem_cons_of_mem _ (lookup_any r i x h)
theorem mkKit_ok {P : Program} {tds : List (Nat × TD)} {fns : List (Nat × Func)} {vrs : List (Nat × List Nat)} (h1 : (tds.all fun x => tdB P (mkKit tds fns vrs) x.1) = true) (h2 : AllF P fns) (h3 : P.follows .mixedOrders = true) : KitOK P (mkKit tds fns vrs) where
  td := fun T => by
    cases hl : lookupN tds T with
    | none =>
      unfold tdB
      have : (mkKit tds fns vrs).td T = .other := by simp only [mkKit, hl]
      rw [this]
    | some d => exact List.all_eq_true.1 h1 _ (lookup_any tds T d hl)
  fn := fun f n res code h => by
    simp only [mkKit] at h
    split at h
    · rename_i g hg
      split at h
      · rename_i b hb
        cases h
        obtain ⟨k1, k2⟩ := h2.at hg
        exact ⟨g, k1, rfl, rfl, hb, k2⟩
      · cases h
    · cases h
  mixed := h3
theorem ok_nil {P : Program} : ∀ S ∈ ([] : List Smry), S.OK P := fun _ h => by cases h
theorem ok_cons {P : Program} {l : List Smry} {S : Smry} (h : S.OK P) (hl : ∀ S ∈ l, S.OK P) : ∀ T ∈ S :: l, T.OK P := fun T hT => by
  rcases List.mem_cons.1 hT with e | hT
  · rw [e]; exact h
  · exact hl T hT
end Go.Xr
namespace Go.Xr
open Go
theorem pAmb_self {α : Type} (x : PO α) : pAmb x x = x := by
  unfold pAmb
  split
  · rfl
  · rename_i h; exact (h rfl).elim
section
variable {D X : Type} {step : D → PO (PSum D X)} {d d' : D} {x y : X}
theorem iterN_mono : ∀ (n m : Nat) (d : D), iterN step n d = some x → n ≤ m → iterN step m d = some x
  | 0, _, _, h, _ => by cases h
  | n + 1, 0, _, _, h => by omega
  | n + 1, m + 1, d, h, hl => by
    simp only [iterN] at h ⊢
    split at h
    · cases h
    · rename_i d' hd
      exact iterN_mono n m d' h (by omega)
    · exact h
theorem pIter_iff : pIter step d = some x ↔ ∃ n, iterN step n d = some x := by
  unfold pIter
  constructor
  · intro h
    split at h
    · exact ⟨_, h⟩
    · cases h
  · rintro ⟨n, h⟩
    have hex : ∃ n, (iterN step n d).isSome := ⟨n, by rw [h]; rfl⟩
    rw [dif_pos hex]
    have hc := hex.choose_spec
    obtain ⟨z, hz⟩ := Option.isSome_iff_exists.1 hc
    have h1 := iterN_mono _ (max n hex.choose) d h (Nat.le_max_left _ _)
    have h2 := iterN_mono _ (max n hex.choose) d hz (Nat.le_max_right _ _)
    rw [h1] at h2
    cases h2
    exact hz
theorem pIter_inl (h : step d = some (.inl d')) : pIter step d = pIter step d' := by
  have : ∀ z, pIter step d = some z ↔ pIter step d' = some z := by
    intro z
    rw [pIter_iff, pIter_iff]
    constructor
    · rintro ⟨n, hn⟩
      cases n with
      | zero => cases hn
      | succ n => simp only [iterN, h] at hn; exact ⟨n, hn⟩
    · rintro ⟨n, hn⟩
      exact ⟨n + 1, by simp only [iterN, h]; exact hn⟩
  cases h1 : pIter step d with
  | some z => exact ((this z).1 h1).symm
  | none =>
    cases h2 : pIter step d' with
    | none => rfl
    | some z => rw [(this z).2 h2] at h1; cases h1
theorem pIter_inr (h : step d = some (.inr x)) : pIter step d = some x := pIter_iff.2 ⟨1, by simp only [iterN, h]⟩
end
theorem wrap64_eq (n : Int) : IntKind.wrap .i64 n = if 2 ^ 63 ≤ n % 2 ^ 64 then n % 2 ^ 64 - 2 ^ 64 else n % 2 ^ 64 := by
  simp [IntKind.wrap, IntKind.bits, IntKind.signed]
theorem wrap64 {n : Int} (h1 : -(2 ^ 63 : Int) ≤ n) (h2 : n < 2 ^ 63) : IntKind.wrap .i64 n = n := by
  rw [wrap64_eq]
  split <;> omega
theorem wrap8_eq (n : Int) : IntKind.wrap .u8 n = n % 256 := by
  simp [IntKind.wrap, IntKind.bits, IntKind.signed]
theorem wrap8 {n : Int} (h1 : 0 ≤ n) (h2 : n < 256) : IntKind.wrap .u8 n = n := by
  rw [wrap8_eq]
  omega
theorem quo64 {a : Nat} (h : a < 2 ^ 62) (b : Nat) : pQuo .i64 (a : Int) (b : Int) = ((a / b : Nat) : Int) := by
  have e : (Int.tdiv (a : Int) (b : Int)) = ((a / b : Nat) : Int) := by rw [Int.tdiv_eq_ediv_of_nonneg (by omega)]; simp
  have : a / b ≤ a := Nat.div_le_self _ _
  simp only [pQuo, e]
  generalize a / b = q at *
  exact wrap64 (by omega) (by omega)
theorem rem64 (a b : Nat) : pRem (a : Int) (b : Int) = ((a % b : Nat) : Int) := by
  simp only [pRem]
  rw [Int.tmod_eq_emod_of_nonneg (by omega)]
  simp
theorem add64 {a b : Int} (h1 : -(2 ^ 63 : Int) ≤ a + b) (h2 : a + b < 2 ^ 63) : pAdd .i64 a b = a + b := wrap64 h1 h2
theorem sub64 {a b : Int} (h1 : -(2 ^ 63 : Int) ≤ a - b) (h2 : a - b < 2 ^ 63) : pSub .i64 a b = a - b := wrap64 h1 h2
theorem mul64 {a b : Int} (h1 : -(2 ^ 63 : Int) ≤ a * b) (h2 : a * b < 2 ^ 63) : pMul .i64 a b = a * b := wrap64 h1 h2
end Go.Xr
