import Derived.Test.YtjidecalfabkbaaX1
import Derived.Lib.AppendStr
import Derived.RangeFuncRecord
import Derived.MapKept
/- the executor, part 2 -/
set_option linter.unusedVariables false
set_option linter.unusedSimpArgs false
namespace Go.Xr
open Go
section
variable {F : Fence} {n : Nat} {P : Program} {K : Kit} {o : Oper} {a : Act} {w w' : World} {R : Act → World → Prop} {Qx : Exit → Act → World → Prop} {u : Value}
variable {b : Base} {us : List (Array Value)} {c : Cx} {s : AS} {Q : Ex → AS → Prop} {T : TypeId} {call : Oper → AV → List AV → AS → Tree}
theorem bd_of (h : St c us s a) {lo : Option Operand} {d l : Int} (e : bndV d (lo.map s.ev) = some l) : Bd d l (lo.map a.eval) := by
  cases lo with
  | none => simp only [Option.map_none, bndV, Option.some.injEq] at e; exact .inl ⟨rfl, e.symm⟩
  | some x =>
    simp only [Option.map_some, bndV] at e
    unfold intV at e
    split at e
    · rename_i k y hx
      cases e
      have := h.ev x
      rw [hx] at this
      exact .inr ⟨k, by rw [Option.map_some, (AVR_int.1 this).1]⟩
    · cases e
theorem noBnd_of {lo hi : Option Operand} (h : noBnd (lo.map s.ev) (hi.map s.ev) = true) : lo = none ∧ hi = none := by
  cases lo <;> cases hi <;> simp_all [noBnd]
theorem toNat_sub_le {l h : Int} (h1 : 0 ≤ l) (h2 : l ≤ h) : (h - l).toNat = h.toNat - l.toNat := by omega
theorem Off0.cut {sz : Nat} {at_ : Option (Nat × Nat × Nat)} {ad : Option Addr} {cap : Nat} (h : Off0 sz at_ ad cap) {l : Int} (hl : l = 0) : Off0 sz at_ (if cap = l.toNat then ad else ad.map (·.add (l.toNat * sz))) (cap - l.toNat) := by
  subst hl
  have : (if cap = (0 : Int).toNat then ad else ad.map (·.add ((0 : Int).toNat * sz))) = ad := by
    split
    · rfl
    · cases ad <;> simp [Addr.add]
  rw [this]
  exact h
theorem sliceT_sound (hF : HF F) (hK : KitOK P K) (h : St c us s a) (hfr : Fr b c s) {x : Operand} {lo hi : Option Operand} (ho : o.op = .slice T x lo hi none) (hs : (sliceT K s o T (s.ev x) (lo.map s.ev) (hi.map s.ev)).sat Q) : StepV F n P o a c.w (Abs b us Q) Qx := by
  have hd : ∀ c, o.op ≠ .defer c := by intro c; rw [ho]; simp
  have hx := h.ev x
  have he : execOp a.eval o = (do let v ← Instr.sliceAt T (a.eval x) (lo.map a.eval) (hi.map a.eval) none; pure (.value v)) := by simp only [execOp, ho]; rfl
  generalize hX : s.ev x = X at *
  unfold sliceT at hs
  split at hs
  · rename_i i p
    split at hs
    · rename_i n' t xs m t' hat htd
      replace hs := sat_ok hs; obtain ⟨hk, hs⟩ := hs
      simp only [Bool.and_eq_true] at hk
      obtain ⟨hk, hmx⟩ := hk
      have hmx := Nat.le_of_ble_eq_true hmx
      have hk : n' = m ∧ t = t' := ⟨Nat.eq_of_beq_eq_true hk.1, Ty.eqt_eq hk.2⟩
      obtain ⟨rfl, rfl⟩ := hk
      obtain ⟨e, hu, hty, _⟩ := tyB_arr (td_pure hK htd).1
      have fin : ∀ l h' : Int, Bd 0 l (lo.map a.eval) → Bd n' h' (hi.map a.eval) → 0 ≤ l ∧ l ≤ h' ∧ h' ≤ (n' : Int) → (retT s o (.asl i p l (h' - l))).sat Q → StepV F n P o a c.w (Abs b us Q) Qx := by
        intro l h' b1 b2 b3 hs
        obtain ⟨blk, o', cs, hu2, hc, hvc, hnext⟩ := place h hx (by rw [hat]; simp)
        refine val_done hF hd h hfr hs (by intro w'; rw [he, hu2, Sem.run_bind, run_slice_arr hu (info_size hty) b1 b2 b3]; exact rfl) ?_
        simp only [AVR, AslAt]
        simp only [AVR, PtrAt] at hx
        cases hb : s.box i with
        | none => simp [AS.at_, hb] at hat
        | some bx =>
          have hok := h.bx i bx hb
          cases bx with
          | cst k => exact hok.elim
          | buf kd t2 xs2 => cases kd <;> (simp only [Cx.I, boxI, hb]; exact ⟨_, _, _, rfl⟩)
          | var v =>
            obtain ⟨blk', cs', T', h1, h2, h3⟩ := hok
            have hI : c.I s i = some (.var blk' (fun p => offA p (s.rv v)) (fun p => arrA p (s.rv v))) := by simp [Cx.I, boxI, hb, h1]
            rw [hI] at hx ⊢
            obtain ⟨o2, hx1, hx2⟩ := hx
            rw [hu2] at hx2
            simp only [Value.pointer.injEq, Option.some.injEq, Addr.mk.injEq, and_true] at hx2
            obtain ⟨rfl, rfl⟩ := hx2
            have hat' : AV.getP p (s.rv v) = .pv (.arr n' t) xs := by simpa [AS.at_, hb] using hat
            refine ⟨n', t.size, o', by simp only [arrA, hat'], hx1, b3.1, by omega, by omega, ?_, _, _, by rw [toNat_sub_le b3.1 b3.2.1], ?_, ?_, ?_⟩
            · have : (h' - l).toNat ≤ n' := by omega
              exact Nat.le_trans this hmx
            · rw [toNat_sub_le b3.1 b3.2.1]; omega
            · omega
            · by_cases hz : h' - l = 0
              · exact .inl hz
              · refine .inr ?_
                rw [if_neg (by omega), Addr.add_none]
      cases hnb : noBnd (lo.map s.ev) (hi.map s.ev) with
      | true =>
        rw [hnb] at hs
        obtain ⟨rfl, rfl⟩ := noBnd_of hnb
        exact fin 0 n' (.inl ⟨rfl, rfl⟩) (.inl ⟨rfl, rfl⟩) (by omega) (by simpa [pI] using hs)
      | false =>
        rw [hnb] at hs
        simp only [cond_false] at hs
        split at hs
        · rename_i l h' e1 e2
          exact fin l h' (bd_of h e1) (bd_of h e2) (part_of hs.1) hs.2
        · exact hs.elim
    · exact hs.elim
  · rename_i b' t xs
    split at hs
    · rename_i t' hel
      replace hs := sat_ok hs; obtain ⟨hk, hs⟩ := hs
      cases Ty.eqt_eq hk
      obtain ⟨e, htd, hu, hty⟩ := elem_spec hK hel
      simp only [AVR, RepC, IsV, Ty.isAgg] at hx
      obtain ⟨cs, ⟨ad, cap, rfl, h1, h2, h3⟩, h4⟩ := hx
      simp at h4
      have fin : ∀ (l h' : Int) (ys : List t.T), ys = pCut xs l (h' - l) → Bd 0 l (lo.map a.eval) → Bd (List.length xs) h' (hi.map a.eval) → 0 ≤ l ∧ l ≤ h' ∧ h' ≤ (List.length xs : Int) → (retT s o (.pv (.sl b' t) ys)).sat Q → StepV F n P o a c.w (Abs b us Q) Qx := by
        intro l h' ys hys b1 b2 b3 hs
        refine val_done hF hd h hfr hs (by intro w'; rw [he, ← h4, Sem.run_bind, run_slice_slice hu (info_size hty) b1 b2 b3 h1]; exact rfl) ?_
        have hle : l.toNat + (h' - l).toNat ≤ List.length xs := by omega
        have hcl := cut_len (xs := xs) hle
        have hl : List.length ys = h'.toNat - l.toNat := by rw [hys]; simp only [pCut]; rw [hcl]; exact toNat_sub_le b3.1 b3.2.1
        simp only [AVR, RepC, IsV, Ty.isAgg]
        refine ⟨_, ⟨_, _, rfl, ?_, ?_, ?_⟩, by simp only [Bool.false_eq_true, if_false, hl]; rfl⟩
        · rw [hl]; omega
        · rw [hl]; omega
        · by_cases hz : h'.toNat - l.toNat = 0
          · left; rw [hl, hz]
          · right
            rcases h3 with h3 | ⟨blk, off, cs', rfl, hE, h5, h6⟩
            · omega
            · obtain ⟨c1, k1, k2⟩ := RepL.cut (RepC.len t) xs cs' l.toNat (h' - l).toNat hle h5
              refine ⟨blk, _, c1, ?_, hE, by rw [hys]; exact k2, h6.sub k1⟩
              rw [if_neg (by omega), Option.map_some, Addr.add_none]
      cases hnb : noBnd (lo.map s.ev) (hi.map s.ev) with
      | true =>
        rw [hnb] at hs
        obtain ⟨rfl, rfl⟩ := noBnd_of hnb
        exact fin 0 (List.length xs) xs (by simp [pCut]) (.inl ⟨rfl, rfl⟩) (.inl ⟨rfl, rfl⟩) (by omega) (by simpa using hs)
      | false =>
        rw [hnb] at hs
        simp only [cond_false] at hs
        split at hs
        · rename_i l h' e1 e2
          exact fin l h' _ rfl (bd_of h e1) (bd_of h e2) (part_of hs.1) hs.2
        · exact hs.elim
    · exact hs.elim
  · split at hs
    · rename_i t l0 h0 hel e1 e2
      obtain ⟨e, htd, hu, hty⟩ := elem_spec hK hel
      simp only [AVR] at hx
      obtain ⟨l, rfl⟩ : ∃ z : Int, z = l0 := ⟨_, rfl⟩
      obtain ⟨h', rfl⟩ : ∃ z : Int, z = h0 := ⟨_, rfl⟩
      have b3 : 0 ≤ l ∧ l ≤ h' ∧ h' ≤ ((0 : Nat) : Int) := part_of hs.1
      have hl0 : l = 0 := by omega
      have hh0 : h' = 0 := by omega
      have e1' : Bd 0 l (lo.map a.eval) := bd_of h e1
      have e2' : Bd ((0 : Nat) : Int) h' (hi.map a.eval) := bd_of h e2
      refine val_done hF hd h hfr hs.2 (u := .slice none 0 0) (by intro w'; rw [he, hx, Sem.run_bind, run_slice_slice hu (info_size hty) e1' e2' b3 (Nat.le_refl _)]; subst hl0; subst hh0; exact rfl) ?_
      simp only [AVR]
    · exact hs.elim
  · rename_i i
    split at hs
    · rename_i t xs t' hb hel
      replace hs := sat_ok hs; obtain ⟨hk, hs⟩ := hs
      cases Ty.eqt_eq hk
      obtain ⟨e, htd, hu, hty⟩ := elem_spec hK hel
      have hI : c.I s i = some (.buf .sl t (List.length xs) ((c.ρ i).map fun x => (x.1, x.2, roomOf c.w x.1 x.2))) := by simp [Cx.I, boxI, hb]
      obtain ⟨hm, hbx⟩ := h.bx i _ hb
      have hx' := hx
      simp only [AVR, SlAt, hI] at hx
      have form : ∃ ad cap, a.eval x = .slice ad (List.length xs) cap ∧ List.length xs ≤ cap ∧ (List.length xs = 0 ∨ ∃ blk base room, (c.ρ i).map (fun x => (x.1, x.2, roomOf c.w x.1 x.2)) = some (blk, base, room) ∧ ad = some ⟨blk, base, none⟩) ∧ Off0 t.size ((c.ρ i).map fun x => (x.1, x.2, roomOf c.w x.1 x.2)) ad cap := by
        rcases hbx with ⟨h1, h2⟩ | ⟨blk', base', arr, T, lo, hi, cs, h1, h2, h3, h4, h5, h6⟩
        · simp only [h1, Option.map_none] at hx
          obtain ⟨ad, hx⟩ := hx
          exact ⟨ad, 0, by rw [hx, h2], Nat.le_of_eq h2, .inl h2, by rw [h1]; exact rfl⟩
        · simp only [h1, Option.map_some] at hx
          obtain ⟨cap, k1, k2, k3⟩ := hx
          exact ⟨_, cap, k1, k2, .inr ⟨blk', base', _, by rw [h1]; rfl, rfl⟩, by rw [h1]; exact ⟨rfl, k3⟩⟩
      obtain ⟨ad, cap, hu2, hcap, had, hoff⟩ := form
      cases hnb : noBnd (lo.map s.ev) (hi.map s.ev) with
      | true =>
        rw [hnb] at hs
        obtain ⟨rfl, rfl⟩ := noBnd_of hnb
        simp only [cond_true] at hs
        refine val_done hF hd h hfr hs ?_ hx'
        intro w'
        rw [he, hu2]
        simp only [Option.map_none]
        rw [Sem.run_bind, run_slice_slice (lo := none) (hi := none) hu (info_size hty) (.inl ⟨rfl, rfl⟩) (.inl ⟨rfl, rfl⟩) (by omega) hcap]
        have ha0 : ad.map (·.add ((0 : Int).toNat * t.size)) = ad := by
          cases ad <;> simp [Addr.add]
        rw [ha0]
        simp
      | false =>
        rw [hnb] at hs
        simp only [cond_false] at hs
        split at hs
        · rename_i l0 h0 e1 e2
          obtain ⟨l, rfl⟩ : ∃ z : Int, z = l0 := ⟨_, rfl⟩
          obtain ⟨h', rfl⟩ : ∃ z : Int, z = h0 := ⟨_, rfl⟩
          have b3 : 0 ≤ l ∧ l ≤ h' ∧ h' ≤ (List.length xs : Int) := part_of hs.1
          refine val_done hF hd h hfr hs.2 (by intro w'; rw [he, hu2, Sem.run_bind, run_slice_slice hu (info_size hty) (bd_of h e1) (bd_of h e2) b3 hcap]; exact rfl) ?_
          simp only [AVR, SlrAt, hI, pISub]
          refine ⟨b3.1, by omega, by omega, _, _, by rw [toNat_sub_le b3.1 b3.2.1], by rw [toNat_sub_le b3.1 b3.2.1]; omega, ?_, fun e0 => hoff.cut e0⟩
          by_cases hz : h' - l = 0
          · exact .inl hz
          · right
            rcases had with had | ⟨blk, base, room, q1, rfl⟩
            · omega
            · exact ⟨blk, base, room, q1, by rw [if_neg (by omega), Option.map_some, Addr.add_none]⟩
        · exact hs.elim
    · exact hs.elim
  · rename_i i off0 len0
    obtain ⟨off, rfl⟩ : ∃ z : Int, z = off0 := ⟨_, rfl⟩
    obtain ⟨len, rfl⟩ : ∃ z : Int, z = len0 := ⟨_, rfl⟩
    split at hs
    · rename_i t xs t' hb hel
      replace hs := sat_ok hs; obtain ⟨hk, hs⟩ := hs
      cases Ty.eqt_eq hk
      obtain ⟨e, htd, hu, hty⟩ := elem_spec hK hel
      have hI : c.I s i = some (.buf .sl t (List.length xs) ((c.ρ i).map fun x => (x.1, x.2, roomOf c.w x.1 x.2))) := by simp [Cx.I, boxI, hb]
      simp only [AVR, SlrAt, hI] at hx
      obtain ⟨a1, a2, a3, ad, cap, hu2, hcap, had, hoff⟩ := hx
      split at hs
      · rename_i l0 h0 e1 e2
        obtain ⟨l, rfl⟩ : ∃ z : Int, z = l0 := ⟨_, rfl⟩
        obtain ⟨h', rfl⟩ : ∃ z : Int, z = h0 := ⟨_, rfl⟩
        have b3 : 0 ≤ l ∧ l ≤ h' ∧ h' ≤ len := part_of hs.1
        have e2' : Bd (len.toNat : Int) h' (hi.map a.eval) := by rw [Int.toNat_of_nonneg a2]; exact bd_of h e2
        refine val_done hF hd h hfr hs.2 (by intro w'; rw [he, hu2, Sem.run_bind, run_slice_slice hu (info_size hty) (bd_of h e1) e2' (by rw [Int.toNat_of_nonneg a2]; exact b3) hcap]; exact rfl) ?_
        simp only [AVR, SlrAt, hI, pISub, pIAdd]
        refine ⟨by omega, by omega, by omega, _, _, by rw [toNat_sub_le b3.1 b3.2.1], by rw [toNat_sub_le b3.1 b3.2.1]; omega, ?_, fun e0 => (hoff (by omega)).cut (l := l) (by omega)⟩
        by_cases hz : h' - l = 0
        · exact .inl hz
        · right
          rcases had with had | ⟨blk, base, room, q1, rfl⟩
          · omega
          · refine ⟨blk, base, room, q1, ?_⟩
            rw [if_neg (by omega), Option.map_some, Addr.add_none, Int.toNat_add a1 b3.1, Nat.add_mul, Nat.add_assoc]
      · exact hs.elim
    · exact hs.elim
  · exact hs.elim
end
end Go.Xr
namespace Go.Xr
open Go
theorem lookup_set {α : Type} : ∀ (l : List (Nat × α)) (i j : Nat) (x : α), lookupN (setN l i x) j = if j = i then some x else lookupN l j
  | [], i, j, x => by
    simp only [setN, lookupN]
    by_cases e : j = i
    · subst e; simp
    · rw [if_neg e]; cases h : Nat.beq j i with
      | true => exact (e (Nat.eq_of_beq_eq_true h)).elim
      | false => rfl
  | (k, y) :: r, i, j, x => by
    simp only [setN]
    cases h : Nat.beq i k with
    | true =>
      have e := Nat.eq_of_beq_eq_true h
      subst e
      simp only [cond_true, lookupN]
      by_cases e : j = i
      · subst e; simp
      · cases h2 : Nat.beq j i with
        | true => exact (e (Nat.eq_of_beq_eq_true h2)).elim
        | false => simp [e]
    | false =>
      simp only [cond_false, lookupN]
      cases h2 : Nat.beq j k with
      | true =>
        have e2 := Nat.eq_of_beq_eq_true h2
        subst e2
        have : j ≠ i := by intro e; subst e; simp at h
        simp [this]
      | false => simpa using lookup_set r i j x
section
variable {F : Fence} {n : Nat} {P : Program} {K : Kit} {o : Oper} {a : Act} {w w' : World} {Qx : Exit → Act → World → Prop} {u : Value}
variable {b : Base} {us : List (Array Value)} {c : Cx} {s : AS} {Q : Ex → AS → Prop} {T : TypeId}
theorem box_put {i j : Nat} {bx : Bx} : (s.putBox i bx).box j = if j = i then some (s.rb bx) else s.box j := by
  unfold AS.box AS.putBox
  simp only [lookup_set]
  split <;> rfl
def NoName (s : AS) (i : Nat) : Prop :=
  (∀ k v, nth s.tm k = some v → (s.rv v).names i = false) ∧ (∀ l ∈ s.up, ∀ k v, nth l k = some v → (s.rv v).names i = false) ∧ ∀ j v, s.box j = some (.var v) → (s.rv v).names i = false
theorem VarC.mono {w w' : World} {E E' : Bool → Nat → Prop} {I I' : Nat → Option BI} (hE : ∀ b k, E b k → E' b k ∧ w'.heap[k]? = w.heap[k]?) {v : AV} {cs : List Value} (hI : ∀ i, v.names i = true → I' i = I i ∨ I' i = none) (h : VarC w E I v cs) : VarC w' E' I' v cs := by
  cases v with
  | undef => exact h
  | agg fs => exact AVCL.mono hE fs cs (fun i k => hI i (by simpa [AV.names] using k)) h
  | _ => exact AVC1.mono hE (fun u hu => AVR.mono hE _ u hI hu) h
theorem UpOK.mono {w w' : World} {E E' : Bool → Nat → Prop} {I I' : Nat → Option BI} {rv : AV → AV} (hE : ∀ b k, E b k → E' b k ∧ w'.heap[k]? = w.heap[k]?) : ∀ (up : List (List AV)) (us : List (Array Value)), (∀ l ∈ up, ∀ k v, nth l k = some v → ∀ i, (rv v).names i = true → I' i = I i ∨ I' i = none) → UpOK w E I rv up us → UpOK w' E' I' rv up us
  | [], _, _, h => h
  | l :: r, us, hI, ⟨u, q, e, h1, h2⟩ => ⟨u, q, e, fun k v hv => ⟨(h1 k v hv).1, AVR.mono hE _ _ (hI l (by simp) k v hv) (h1 k v hv).2⟩, UpOK.mono hE r q (fun l' hl => hI l' (by simp [hl])) h2⟩
structure Step1 (c c' : Cx) (s : AS) (i : Nat) : Prop where
  fz : c'.fz = c.fz
  bo : c'.bo = c.bo
  ρ : ∀ j, j ≠ i → c'.ρ j = c.ρ j
  sz : c.w.heap.size ≤ c'.w.heap.size
  os : c'.w.os = c.w.os
  tape : c'.w.tape = c.w.tape
  output : c'.w.output = c.w.output
  lp : c'.lp = c.lp
  mks : c'.mks = c.mks
  w : ∀ k, k < c.w.heap.size → c'.w.heap[k]? = c.w.heap[k]? ∨ (s.box i ≠ none ∧ ∃ base, c.ρ i = some (k, base))
  i : ∀ x, c'.ρ i = some x → x.1 < c'.w.heap.size ∧ (c.w.heap.size ≤ x.1 ∨ (s.box i ≠ none ∧ ∃ base, c.ρ i = some (x.1, base)))
  cs : ∀ k, k < c.w.heap.size → cellsN c'.w.heap[k]? = cellsN c.w.heap[k]?
section
variable {i : Nat} {c' : Cx}
theorem Step1.E (g : Step1 c c' s i) (h : St c us s a) : ∀ b k, c.E b k → c'.E b k ∧ c'.w.heap[k]? = c.w.heap[k]? := by
  intro b' k hk
  have hk' : c.fz k ∨ c.bo k := by
    rcases hk with hk | hk
    · exact .inl hk
    · exact .inr hk.2
  refine ⟨by unfold Cx.E at *; rw [g.fz, g.bo]; exact hk, ?_⟩
  rcases g.w k (h.lt k hk') with e | ⟨h1, base, h2⟩
  · exact e
  · have := h.own i _ h1 h2
    rcases hk' with hk' | hk'
    · exact (this.2.1 hk').elim
    · exact (this.2.2 hk').elim
theorem Step1.keep (g : Step1 c c' s i) (h : St c us s a) : ∀ j, j ≠ i → s.box j ≠ none → ∀ x, c.ρ j = some x → c'.w.heap[x.1]? = c.w.heap[x.1]? := by
  intro j hj hbj x hx
  rcases g.w x.1 (h.own j x hbj hx).1 with e | ⟨h1, base, h2⟩
  · exact e
  · exact (hj (h.inj j i x _ hbj h1 hx h2 rfl)).elim
theorem Step1.I (g : Step1 c c' s i) (h : St c us s a) {bx : Bx} : ∀ j, j ≠ i → c'.I (s.putBox i bx) j = c.I s j := by
  intro j hj
  have e1 : (s.putBox i bx).box j = s.box j := by rw [box_put, if_neg hj]
  show boxI c'.w (c'.ρ j) s.rv ((s.putBox i bx).box j) = boxI c.w (c.ρ j) s.rv (s.box j)
  rw [e1, g.ρ j hj]
  cases hbj : s.box j with
  | none => rfl
  | some bj =>
    cases bj with
    | var v => rfl
    | cst k => rfl
    | buf kd t xs =>
      cases kd with
      | mp => rfl
      | lp p => rfl
      | it => rfl
      | mr => rfl
      | sl =>
        simp only [boxI]
        cases hx : c.ρ j with
        | none => rfl
        | some x =>
          have := g.keep h j hj (by rw [hbj]; simp) x hx
          simp only [Option.map_some, roomOf, this]
theorem St.setBox (h : St c us s a) {bx : Bx} (g : Step1 c c' s i) (hn : NoName s i ∨ c'.I (s.putBox i bx) i = c.I s i)
    (hb : BoxOK c' (s.putBox i bx) i (s.rb bx)) : St c' us (s.putBox i bx) a := by
  have hE := g.E h
  have keep := g.keep h
  have hIj := g.I h (bx := bx)
  have hI : ∀ v : AV, v.names i = false ∨ c'.I (s.putBox i bx) i = c.I s i → ∀ j, v.names j = true → c'.I (s.putBox i bx) j = c.I s j ∨ c'.I (s.putBox i bx) j = none := by
    intro v hv j hj
    by_cases e : j = i
    · subst e
      rcases hv with hv | hv
      · rw [hv] at hj; cases hj
      · exact .inl hv
    · exact .inl (hIj j e)
  have nn : ∀ v : AV, (NoName s i → v.names i = false) → v.names i = false ∨ c'.I (s.putBox i bx) i = c.I s i := by
    intro v hv
    rcases hn with hn | hn
    · exact .inl (hv hn)
    · exact .inr hn
  refine ⟨?_, by unfold Marks; rw [g.mks]; exact h.df, ?_, ?_, ?_, ?_, ?_, ?_, by rw [g.lp]; exact h.lv⟩
  · intro k v hv
    obtain ⟨h1, h2⟩ := h.tm k v hv
    exact ⟨h1, AVR.mono hE _ _ (hI _ (nn _ fun hn => hn.1 k v hv)) h2⟩
  · exact UpOK.mono hE s.up us (fun l hl k v hv => hI _ (nn _ fun hn => hn.2.1 l hl k v hv)) h.up
  · intro j bj hj
    rw [box_put] at hj
    split at hj
    · rename_i e
      subst e
      cases hj
      exact hb
    · rename_i e
      have hok := h.bx j bj hj
      cases bj with
      | cst k => exact hok
      | var v =>
        obtain ⟨blk, cs, T, h1, h2, h3⟩ := hok
        refine ⟨blk, cs, T, by rw [g.ρ j e]; exact h1, by rw [keep j e (by rw [hj]; simp) _ h1]; exact h2, ?_⟩
        exact h3.mono hE (hI _ (nn _ fun hn => hn.2.2 j v hj))
      | buf kd t xs => exact hok.buf_mono (g.ρ j e) (keep j e (by rw [hj]; simp)) hE (fun _ => by rw [g.lp])
  · intro j k x y hj hk hx hy hxy
    rw [box_put] at hj hk
    by_cases e1 : j = i <;> by_cases e2 : k = i
    · rw [e1, e2]
    · subst e1
      rw [if_neg e2] at hk
      rw [g.ρ k e2] at hy
      rcases (g.i x hx).2 with hf | ⟨h1, base, h2⟩
      · have := (h.own k y hk hy).1
        omega
      · exact h.inj j k _ y h1 hk h2 hy hxy
    · subst e2
      rw [if_neg e1] at hj
      rw [g.ρ j e1] at hx
      rcases (g.i y hy).2 with hf | ⟨h1, base, h2⟩
      · have := (h.own j x hj hx).1
        omega
      · exact h.inj j k x _ hj h1 hx h2 hxy
    · rw [if_neg e1] at hj
      rw [if_neg e2] at hk
      rw [g.ρ j e1] at hx
      rw [g.ρ k e2] at hy
      exact h.inj j k x y hj hk hx hy hxy
  · intro j x hj hx
    rw [g.fz, g.bo]
    rw [box_put] at hj
    by_cases e : j = i
    · subst e
      obtain ⟨h1, h2⟩ := g.i x hx
      refine ⟨h1, ?_⟩
      rcases h2 with h2 | ⟨h2, base, h3⟩
      · exact ⟨fun k => by have := h.lt _ (.inl k); omega, fun k => by have := h.lt _ (.inr k); omega⟩
      · exact (h.own j _ h2 h3).2
    · rw [if_neg e] at hj
      rw [g.ρ j e] at hx
      obtain ⟨h1, h2⟩ := h.own j x hj hx
      have := g.sz
      exact ⟨by omega, h2⟩
  · intro k hk
    rw [g.fz, g.bo] at hk
    have := h.lt k hk
    have := g.sz
    omega
  · intro r hr
    rw [g.mks] at hr
    obtain ⟨m1, m2, m3, m4⟩ := h.mks r hr
    have hlt : r < c.w.heap.size := (Array.getElem?_eq_some_iff.1 m1).1
    refine ⟨?_, by rw [g.fz]; exact m2, by rw [g.bo]; exact m3, ?_⟩
    · rcases g.w r hlt with e | ⟨k1, base, k2⟩
      · rw [e]; exact m1
      · exact (m4 i _ k1 k2 rfl).elim
    · intro j x hj hx
      rw [box_put] at hj
      by_cases e : j = i
      · subst e
        rcases (g.i x hx).2 with k1 | ⟨k1, base, k2⟩
        · omega
        · exact m4 j (x.1, base) k1 k2
      · rw [if_neg e] at hj
        rw [g.ρ j e] at hx
        exact m4 j x hj hx
theorem Fr.setBox (hfr : Fr b c s) {bx : Bx} (g : Step1 c c' s i) : Fr b c' (s.putBox i bx) where
  os := g.os.trans hfr.os
  tape := g.tape.trans hfr.tape
  output := g.output.trans hfr.output
  size := Nat.le_trans hfr.size g.sz
  block := fun k hk hown => by
    rcases g.w k (Nat.lt_of_lt_of_le hk hfr.size) with e | ⟨h1, base, h2⟩
    · rw [e]; exact hfr.block k hk hown
    · rcases hfr.own i _ h1 h2 with h3 | h3
      · exact (hown h3).elim
      · simp at h3; omega
  own := fun j x hj hx => by
    rw [box_put] at hj
    by_cases e : j = i
    · subst e
      rcases (g.i x hx).2 with h2 | ⟨h2, base, h3⟩
      · right; have := hfr.size; omega
      · exact hfr.own j (x.1, base) h2 h3
    · rw [if_neg e] at hj
      rw [g.ρ j e] at hx
      exact hfr.own j x hj hx
  fz := by rw [g.fz]; exact hfr.fz
  fz' := by rw [g.fz]; exact hfr.fz'
  bo := by rw [g.bo]; exact hfr.bo
  lp := g.lp.trans hfr.lp
  mks := by rw [g.mks]; exact hfr.mks
  mks' := by rw [g.mks]; exact hfr.mks'
  cs := fun k hk => (g.cs k (Nat.lt_of_lt_of_le hk hfr.size)).trans (hfr.cs k hk)
end
theorem names_part {i : Nat} : ∀ fs : List AV, namesL i (fs.map fun v => bif v.names i then .undef else v) = false
  | [] => rfl
  | v :: r => by
    simp only [List.map_cons, namesL, names_part r, Bool.or_false]
    cases h : v.names i <;> simp [AV.names, h]
theorem part_drop {w : World} {E : Bool → Nat → Prop} {I : Nat → Option BI} {i : Nat} {v : AV} {c1 : List Value} (h : AVC1 w E I v c1) : AVC1 w E I (bif v.names i then .undef else v) c1 := by
  cases hn : v.names i with
  | false => simpa using h
  | true =>
    simp only [cond_true, AVC1, partC] at h ⊢
    cases v <;> simp only [AV.names] at hn h <;> first | exact h.elim | (cases hn; done) | (obtain ⟨u, h1, h2, _⟩ := h; exact ⟨u, h1, h2, by simp only [AVR]⟩)
theorem AVCL_drop {w : World} {E : Bool → Nat → Prop} {I : Nat → Option BI} {i : Nat} : ∀ (fs : List AV) (cs : List Value), AVCL w E I fs cs → AVCL w E I (fs.map fun v => bif v.names i then .undef else v) cs
  | [], cs, h => h
  | v :: r, cs, h => by
    obtain ⟨c1, c2, e, h1, h2⟩ := AVCL_cons.1 h
    exact AVCL_cons.2 ⟨c1, c2, e, part_drop h1, AVCL_drop r c2 h2⟩
theorem drop_agg {i : Nat} {fs : List AV} : (AV.agg fs).drop i = .agg (fs.map fun v => bif v.names i then .undef else v) := by
  unfold AV.drop
  cases h : (AV.agg fs).names i with
  | true => rfl
  | false =>
    simp only [cond_false, AV.agg.injEq]
    simp only [AV.names] at h
    induction fs with
    | nil => rfl
    | cons v r ih =>
      simp only [namesL, Bool.or_eq_false_iff] at h
      simp only [List.map_cons, h.1, cond_false]
      rw [← ih h.2]
theorem drop_other {i : Nat} {v : AV} (h : ∀ fs, v ≠ .agg fs) : v.drop i = .undef ∨ v.drop i = v := by
  unfold AV.drop
  cases hn : v.names i with
  | false => exact .inr rfl
  | true =>
    left
    simp only [cond_true]
    cases v <;> first | exact (h _ rfl).elim | simp only [AV.forget, hn, cond_true]
theorem drop_names {i : Nat} {v : AV} : (v.drop i).names i = false := by
  by_cases h : ∃ fs, v = .agg fs
  · obtain ⟨fs, rfl⟩ := h
    rw [drop_agg]
    exact names_part fs
  · have h : ∀ fs, v ≠ .agg fs := fun fs e => h ⟨fs, e⟩
    cases hn : v.names i with
    | false => simp [AV.drop, hn]
    | true =>
      have : v.drop i = .undef := by
        unfold AV.drop
        simp only [hn, cond_true]
        cases v <;> first | exact (h _ rfl).elim | simp only [AV.forget, hn, cond_true]
      rw [this]
      rfl
theorem AVR_drop {w : World} {E : Bool → Nat → Prop} {I : Nat → Option BI} {i : Nat} {v : AV} (h : AVR w E I v u) : AVR w E I (v.drop i) u := by
  by_cases hv : ∃ fs, v = .agg fs
  · obtain ⟨fs, rfl⟩ := hv
    rw [drop_agg]
    simp only [AVR] at h ⊢
    obtain ⟨cs, h1, h2⟩ := h
    exact ⟨cs, h1, AVCL_drop fs cs h2⟩
  · rcases drop_other (i := i) (v := v) (fun fs e => hv ⟨fs, e⟩) with e | e
    · rw [e]; simp only [AVR]
    · rw [e]; exact h
theorem VarC_drop {w : World} {E : Bool → Nat → Prop} {I : Nat → Option BI} {i : Nat} {v : AV} {cs : List Value} (h : VarC w E I v cs) : VarC w E I (v.drop i) cs := by
  cases v with
  | agg fs => rw [drop_agg]; exact AVCL_drop fs cs h
  | undef => exact h
  | _ =>
    have := VarC.of_part (part_drop (i := i) (show AVC1 w E I _ cs from h))
    unfold AV.drop
    cases hn : AV.names i _ with
    | false => rw [hn] at this; exact this
    | true => rw [hn] at this; simp only [cond_true, AV.forget, hn] at this ⊢; exact this
theorem csz_drop {w : World} {E : Bool → Nat → Prop} {I : Nat → Option BI} {i : Nat} {v : AV} {c1 : List Value} (h : AVC1 w E I v c1) : (bif v.names i then AV.undef else v).csz = v.csz := by
  rw [← (part_drop (i := i) h).len, h.len]
theorem cszL_drop {w : World} {E : Bool → Nat → Prop} {I : Nat → Option BI} {i : Nat} : ∀ (fs : List AV) (cs : List Value) (n : Nat), AVCL w E I fs cs → cszL ((fs.map fun v => bif v.names i then .undef else v).take n) = cszL (fs.take n)
  | [], cs, n, h => by simp
  | v :: r, cs, 0, h => by simp
  | v :: r, cs, n + 1, h => by
    obtain ⟨c1, c2, e, h1, h2⟩ := AVCL_cons.1 h
    simp only [List.map_cons, List.take_succ_cons, cszL, csz_drop h1, cszL_drop r c2 n h2]
theorem getP_part {w : World} {E : Bool → Nat → Prop} {I : Nat → Option BI} {i : Nat} {v : AV} {c1 : List Value} (h : AVC1 w E I v c1) (hn : v.names i = true) (p : List Stp) :
    offA p AV.undef = offA p v ∧ (∀ n t x, AV.getP p v ≠ .pv (.arr n t) x) := by
  cases v <;> simp only [AV.names] at hn <;> first | (cases hn; done) | (simp only [AVC1, partC] at h; done) | skip
  all_goals
    cases p with
    | nil => exact ⟨rfl, fun n t x e => by simp [AV.getP] at e⟩
    | cons st r => cases st <;> exact ⟨rfl, fun n t x e => by simp [AV.getP] at e⟩
theorem arrA_none {p : List Stp} {v : AV} (h : ∀ n t x, AV.getP p v ≠ .pv (.arr n t) x) : arrA p v = none := by
  unfold arrA
  split
  · rename_i n t x e; exact (h _ _ _ e).elim
  · rfl
theorem getP_undef (p : List Stp) : AV.getP p .undef = .undef := by
  cases p with
  | nil => rfl
  | cons st r => cases st <;> rfl
theorem nthD_map {i : Nat} : ∀ (fs : List AV) (n : Nat), nthD .undef (fs.map fun v => bif v.names i then AV.undef else v) n = (bif (nthD .undef fs n).names i then AV.undef else nthD .undef fs n)
  | [], n => by simp [nthD, AV.names]
  | v :: r, 0 => rfl
  | v :: r, n + 1 => by simpa [nthD] using nthD_map r n
theorem off_drop {w : World} {E : Bool → Nat → Prop} {I : Nat → Option BI} {i : Nat} {v : AV} {cs : List Value} (h : VarC w E I v cs) (p : List Stp) : offA p (v.drop i) = offA p v ∧ arrA p (v.drop i) = arrA p v := by
  by_cases hv : ∃ fs, v = .agg fs
  · obtain ⟨fs, rfl⟩ := hv
    rw [drop_agg]
    match p with
    | [] => exact ⟨rfl, by rw [arrA_none (fun n t x e => by simp [AV.getP] at e), arrA_none (fun n t x e => by simp [AV.getP] at e)]⟩
    | .idx k :: q => exact ⟨rfl, by rw [arrA_none (fun n t x e => by simp [AV.getP] at e), arrA_none (fun n t x e => by simp [AV.getP] at e)]⟩
    | .fld n :: q =>
      by_cases hn : n < fs.length
      · obtain ⟨c1, _, k2⟩ := AVCL.sub fs cs n h hn
        simp only [offA, List.length_map, hn, if_true, cszL_drop fs cs n h, nthD_map, arrA, AV.getP]
        cases hna : (nthD .undef fs n).names i with
        | false => exact ⟨rfl, rfl⟩
        | true =>
          obtain ⟨e1, e2⟩ := getP_part k2 hna q
          refine ⟨by simp only [cond_true, e1], ?_⟩
          exact (arrA_none (p := q) (v := .undef) (fun n t x e => by rw [getP_undef] at e; cases e)).trans (arrA_none e2).symm
      · have e : nthD .undef fs n = .undef := by rw [nthD_eq, nth_eq, List.getElem?_eq_none (by omega)]; rfl
        simp only [offA, List.length_map, hn, if_false, arrA, AV.getP, nthD_map, e, AV.names, cond_false, and_self]
  · rcases drop_other (i := i) (v := v) (fun fs e => hv ⟨fs, e⟩) with e | e
    · cases hn : v.names i with
      | false => rw [show v.drop i = v by simp [AV.drop, hn]]; exact ⟨rfl, rfl⟩
      | true =>
        rw [e]
        have hc : AVC1 w E I v cs := by
          cases v with
          | agg fs => exact (hv ⟨fs, rfl⟩).elim
          | undef => simp [AV.names] at hn
          | _ => exact h
        obtain ⟨e1, e2⟩ := getP_part hc hn p
        exact ⟨e1, by rw [arrA_none e2, arrA_none (fun n t x e => by rw [getP_undef] at e; cases e)]⟩
    · rw [e]; exact ⟨rfl, rfl⟩
theorem nth_map {α β : Type} {f : α → β} : ∀ (l : List α) (k : Nat), nth (l.map f) k = (nth l k).map f
  | [], k => rfl
  | x :: r, 0 => rfl
  | x :: r, k + 1 => nth_map r k
theorem lookup_map {α : Type} {g : α → α} : ∀ (l : List (Nat × α)) (j : Nat), lookupN (l.map fun x => (x.1, g x.2)) j = (lookupN l j).map g
  | [], j => rfl
  | (k, x) :: r, j => by
    simp only [List.map_cons, lookupN]
    cases Nat.beq j k with
    | true => rfl
    | false => exact lookup_map r j
def AS.killV (s : AS) (i : Nat) (v : AV) : AV := bif (s.rv v).names i then (s.rv v).forget i else v
theorem rv_killV {i : Nat} {v : AV} (hv : ∀ n, s.rv v ≠ .cst n) : s.rv (s.killV i v) = (s.rv v).drop i := by
  unfold AS.killV AV.drop
  cases hn : (s.rv v).names i with
  | false => rfl
  | true =>
    simp only [cond_true]
    have : ∀ x : AV, (∀ n, x ≠ .cst n) → s.rv x = x := by
      intro x hx
      cases x <;> first | rfl | exact (hx _ rfl).elim
    apply this
    intro n e
    by_cases hag : ∃ fs, s.rv v = .agg fs
    · obtain ⟨fs, e2⟩ := hag
      rw [e2] at e
      cases e
    · have : (s.rv v).forget i = .undef := by
        generalize s.rv v = x at *
        cases x <;> first | exact (hag ⟨_, rfl⟩).elim | simp only [AV.forget, hn, cond_true]
      rw [this] at e
      cases e
def AS.killT (s : AS) (i : Nat) (v : AV) : AV := bif (s.rv v).names i then .undef else v
theorem killT_AVR {w : World} {E : Bool → Nat → Prop} {I : Nat → Option BI} {i : Nat} {v : AV} (h : AVR w E I (s.rv v) u) : AVR w E I (s.rv (s.killT i v)) u := by
  unfold AS.killT
  cases hn : (s.rv v).names i with
  | false => exact h
  | true => simp only [cond_true, AS.rv, AVR]
theorem killT_names {i : Nat} {v : AV} : (s.rv (s.killT i v)).names i = false := by
  unfold AS.killT
  cases hn : (s.rv v).names i with
  | false => exact hn
  | true => simp only [cond_true, AS.rv, AV.names]
def Bx.killB (s : AS) (i : Nat) (b : Bx) : Bx := match s.rb b with | .var v => bif (s.rv v).names i then .var ((s.rv v).forget i) else b | _ => b
theorem kill_eq {i : Nat} : s.kill i = { s with tm := s.tm.map (s.killT i), up := s.up.map fun l => l.map (s.killT i), bx := s.bx.map fun x => (x.1, x.2.killB s i) } := rfl
theorem box_kill {i j : Nat} : (s.kill i).box j = (s.box j).map fun b => match b with | .var v => .var (s.killV i v) | b => b := by
  unfold AS.box
  rw [kill_eq]
  simp only [lookup_map, Option.map_map]
  congr 1
  funext bx
  simp only [Function.comp_apply, Bx.killB]
  cases hb : s.rb bx with
  | var v =>
    simp only [AS.killV]
    cases hn : (s.rv v).names i with
    | true => rfl
    | false => simp only [cond_false]; exact hb
  | buf kd t xs => exact hb
  | cst k => exact hb
theorem St.notcst (h : St c us s a) {k : Nat} {v : AV} (hv : nth s.tm k = some v) : ∀ n, s.rv v ≠ .cst n := fun n e => by
  have := (h.tm k v hv).2
  rw [e] at this
  exact this.ne_cst
theorem VarC.ne_cst {w : World} {E : Bool → Nat → Prop} {I : Nat → Option BI} {v : AV} {cs : List Value} (h : VarC w E I v cs) : ∀ n, v ≠ .cst n := fun n e => by
  subst e
  simp only [VarC, AVC1, partC] at h
theorem kill_I (h : St c us s a) {i j : Nat} : c.I (s.kill i) j = c.I s j := by
  show boxI c.w (c.ρ j) (s.kill i).rv ((s.kill i).box j) = boxI c.w (c.ρ j) s.rv (s.box j)
  rw [box_kill]
  cases hb : s.box j with
  | none => rfl
  | some bx =>
    cases bx with
    | buf kd t xs => cases kd <;> rfl
    | cst k => rfl
    | var v =>
      obtain ⟨blk, cs, T, h1, h2, h3⟩ := h.bx j _ hb
      simp only [Option.map_some, boxI, h1]
      have e : (s.kill i).rv (s.killV i v) = (s.rv v).drop i := rv_killV h3.ne_cst
      rw [e]
      congr 2
      · funext p; exact (off_drop h3 p).1
      · funext p; exact (off_drop h3 p).2
theorem UpOK.notcst {w : World} {E : Bool → Nat → Prop} {I : Nat → Option BI} {rv : AV → AV} : ∀ (up : List (List AV)) (us : List (Array Value)), UpOK w E I rv up us → ∀ l ∈ up, ∀ k v, nth l k = some v → ∀ n, rv v ≠ .cst n
  | l :: r, us, ⟨u, q, e, h1, h2⟩, l', hl, k, v, hv, n, hc => by
    rcases List.mem_cons.1 hl with rfl | hl
    · have := (h1 k v hv).2
      rw [hc] at this
      exact this.ne_cst
    · exact UpOK.notcst r q h2 l' hl k v hv n hc
theorem UpOK_drop {w : World} {E : Bool → Nat → Prop} {I : Nat → Option BI} {i : Nat} : ∀ (up : List (List AV)) (us : List (Array Value)), UpOK w E I s.rv up us → UpOK w E I s.rv (up.map fun l => l.map (s.killT i)) us
  | [], us, h => h
  | l :: r, us, h@⟨u, q, e, h1, h2⟩ => by
    refine ⟨u, q, e, ?_, UpOK_drop r q h2⟩
    intro k v hv
    rw [nth_map] at hv
    cases hn : nth l k with
    | none => rw [hn] at hv; cases hv
    | some v0 =>
      rw [hn] at hv
      cases hv
      have h3 := h1 k v0 hn
      refine ⟨h3.1, ?_⟩
      exact killT_AVR h3.2
theorem box_kill_none {i j : Nat} : (s.kill i).box j ≠ none ↔ s.box j ≠ none := by
  rw [box_kill]
  cases s.box j <;> simp
theorem St.kill (h : St c us s a) (i : Nat) : St c us (s.kill i) a ∧ NoName (s.kill i) i := by
  have hI : c.I (s.kill i) = c.I s := funext fun j => kill_I h
  have hrv : ∀ v, (s.kill i).rv v = s.rv v := fun v => rfl
  refine ⟨⟨?_, h.df, ?_, ?_, ?_, ?_, h.lt, h.mksOf fun j hj => box_kill_none.1 hj, h.lv⟩, ?_, ?_, ?_⟩
  · intro k v hv
    rw [kill_eq] at hv
    simp only [nth_map] at hv
    cases hn : nth s.tm k with
    | none => rw [hn] at hv; cases hv
    | some v0 =>
      rw [hn] at hv
      cases hv
      obtain ⟨h1, h2⟩ := h.tm k v0 hn
      refine ⟨h1, ?_⟩
      rw [hI, hrv]
      exact killT_AVR h2
  · rw [hI]
    exact UpOK_drop s.up us h.up
  · intro j bx hj
    rw [box_kill] at hj
    cases hb : s.box j with
    | none => rw [hb] at hj; cases hj
    | some b0 =>
      rw [hb] at hj
      have hok := h.bx j b0 hb
      cases b0 with
      | buf kd t xs => cases hj; cases kd <;> exact hok
      | cst k => exact hok.elim
      | var v =>
        cases hj
        obtain ⟨blk, cs, T, h1, h2, h3⟩ := hok
        refine ⟨blk, cs, T, h1, h2, ?_⟩
        rw [hI, hrv, rv_killV h3.ne_cst]
        exact VarC_drop h3
  · intro j k x y hj hk
    rw [box_kill] at hj hk
    exact h.inj j k x y (fun e => hj (by rw [e]; rfl)) (fun e => hk (by rw [e]; rfl))
  · intro j x hj
    rw [box_kill] at hj
    exact h.own j x (fun e => hj (by rw [e]; rfl))
  · intro k v hv
    rw [kill_eq] at hv
    simp only [nth_map] at hv
    cases hn : nth s.tm k with
    | none => rw [hn] at hv; cases hv
    | some v0 =>
      rw [hn] at hv
      cases hv
      rw [hrv]
      exact killT_names
  · intro l hl k v hv
    rw [kill_eq] at hl
    simp only [List.mem_map] at hl
    obtain ⟨l0, hl0, rfl⟩ := hl
    rw [nth_map] at hv
    cases hn : nth l0 k with
    | none => rw [hn] at hv; cases hv
    | some v0 =>
      rw [hn] at hv
      cases hv
      rw [hrv]
      exact killT_names
  · intro j v hj
    rw [box_kill] at hj
    cases hb : s.box j with
    | none => rw [hb] at hj; cases hj
    | some b0 =>
      rw [hb] at hj
      have hok := h.bx j b0 hb
      cases b0 with
      | buf kd t xs => cases hj
      | cst k => exact hok.elim
      | var v0 =>
        cases hj
        obtain ⟨blk, cs, T, h1, h2, h3⟩ := hok
        rw [hrv, rv_killV h3.ne_cst]
        exact drop_names
theorem Fr.kill (hfr : Fr b c s) (i : Nat) : Fr b c (s.kill i) where
  os := hfr.os
  tape := hfr.tape
  output := hfr.output
  size := hfr.size
  block := hfr.block
  own := fun j x hj hx => hfr.own j x (box_kill_none.1 hj) hx
  fz := hfr.fz
  fz' := hfr.fz'
  bo := hfr.bo
  lp := hfr.lp
  mks := hfr.mks
  mks' := hfr.mks'
  cs := hfr.cs
theorem Step1.kill {i : Nat} {c' : Cx} (g : Step1 c c' s i) : Step1 c c' (s.kill i) i :=
  ⟨g.fz, g.bo, g.ρ, g.sz, g.os, g.tape, g.output, g.lp, g.mks, fun k hk => (g.w k hk).imp id fun ⟨x, y⟩ => ⟨box_kill_none.2 x, y⟩, fun x hx => ⟨(g.i x hx).1, (g.i x hx).2.imp id fun ⟨x, y⟩ => ⟨box_kill_none.2 x, y⟩⟩, g.cs⟩
theorem St.newBox {i : Nat} {c' : Cx} {bx : Bx} (h : St c us s a) (g : Step1 c c' s i) (hb : BoxOK c' (s.newBox i bx) i (s.rb bx)) : St c' us (s.newBox i bx) a :=
  (h.kill i).1.setBox g.kill (.inl (h.kill i).2) hb
theorem Fr.newBox {i : Nat} {c' : Cx} {bx : Bx} (hfr : Fr b c s) (g : Step1 c c' s i) : Fr b c' (s.newBox i bx) := (hfr.kill i).setBox g.kill
theorem newBox_I {i : Nat} {c' : Cx} {bx : Bx} (h : St c us s a) (g : Step1 c c' s i) {j : Nat} (hj : j ≠ i) : c'.I (s.newBox i bx) j = c.I s j := by
  rw [← kill_I (i := i) h (j := j)]
  exact g.kill.I (h.kill i).1 j hj
theorem box_new {i j : Nat} {bx : Bx} : (s.newBox i bx).box j = if j = i then some (s.rb bx) else (s.kill i).box j := box_put
def Cx.push (c : Cx) (i : Nat) (obj : Obj) (d : Nat) : Cx := { c with w := { c.w with heap := c.w.heap.push obj, drawn := d }, ρ := fun j => if j = i then some (c.w.heap.size, 0) else c.ρ j }
theorem Cx.push_heap {i d k : Nat} {obj : Obj} : (c.push i obj d).w.heap[k]? = if k = c.w.heap.size then some obj else c.w.heap[k]? := by
  simp only [Cx.push, Array.getElem?_push]
theorem step_push {i d : Nat} {obj : Obj} : Step1 c (c.push i obj d) s i where
  fz := rfl
  bo := rfl
  ρ := fun j hj => by simp [Cx.push, hj]
  sz := by simp [Cx.push]
  os := rfl
  tape := rfl
  output := rfl
  lp := rfl
  mks := rfl
  w := fun k hk => .inl (by rw [Cx.push_heap, if_neg (by omega)])
  i := fun x hx => by
    simp only [Cx.push, if_true, Option.some.injEq] at hx
    subst hx
    exact ⟨by simp [Cx.push], .inl (Nat.le_refl _)⟩
  cs := fun k hk => by rw [Cx.push_heap, if_neg (by omega)]
def Cx.nilB (c : Cx) (i : Nat) : Cx := { c with ρ := fun j => if j = i then none else c.ρ j }
theorem step_nil {i : Nat} : Step1 c (c.nilB i) s i where
  fz := rfl
  bo := rfl
  ρ := fun j hj => by simp [Cx.nilB, hj]
  sz := Nat.le_refl _
  os := rfl
  tape := rfl
  output := rfl
  lp := rfl
  mks := rfl
  w := fun k hk => .inl rfl
  i := fun x hx => by simp [Cx.nilB] at hx
  cs := fun k hk => rfl
theorem St.newVar (h : St c us s a) (hfr : Fr b c s) {i d : Nat} {v : AV} {cs : List Value} {T : TypeId} (hv : VarC c.w c.E (c.I s) v cs) :
    ∃ c' : Cx, c'.w = { c.w with heap := c.w.heap.push (.cells cs.toArray T (0, 0)), drawn := d } ∧ St c' us (s.newVar i v) a ∧ Fr b c' (s.newVar i v) ∧ AVR c'.w c'.E (c'.I (s.newVar i v)) (.ptr i []) (.pointer (some ⟨c.w.heap.size, 0, none⟩)) := by
  have g : Step1 c (c.push i (.cells cs.toArray T (0, 0)) d) s i := step_push
  have hvd : VarC c.w c.E (c.I s) (v.drop i) cs := VarC_drop hv
  have hrv : ∀ s' : AS, s'.rv (v.drop i) = v.drop i := by
    intro s'
    have := hvd.ne_cst
    cases hd : v.drop i <;> first | rfl | exact (this _ hd).elim
  have hbx : (s.newVar i v).box i = some (.var (v.drop i)) := by
    unfold AS.newVar
    rw [box_new, if_pos rfl]
    rfl
  have hρ : (c.push i (.cells cs.toArray T (0, 0)) d).ρ i = some (c.w.heap.size, 0) := by simp [Cx.push]
  have hb : BoxOK (c.push i (.cells cs.toArray T (0, 0)) d) (s.newBox i (.var (v.drop i))) i (.var (v.drop i)) := by
    refine ⟨c.w.heap.size, cs, T, hρ, by rw [Cx.push_heap, if_pos rfl], ?_⟩
    rw [hrv]
    refine hvd.mono (g.E h) ?_
    intro j hj
    by_cases e : j = i
    · subst e; rw [drop_names] at hj; cases hj
    · exact .inl (newBox_I h g e)
  refine ⟨c.push i (.cells cs.toArray T (0, 0)) d, rfl, h.newBox g hb, hfr.newBox g, ?_⟩
  have hI : (c.push i (.cells cs.toArray T (0, 0)) d).I (s.newVar i v) i = some (.var c.w.heap.size (fun p => offA p ((s.newVar i v).rv (v.drop i))) (fun p => arrA p ((s.newVar i v).rv (v.drop i)))) := by
    unfold Cx.I
    rw [hbx, hρ]
    rfl
  simp only [AVR, PtrAt, hI]
  exact ⟨0, rfl, rfl⟩
theorem St.newBuf (h : St c us s a) (hfr : Fr b c s) {i d : Nat} {t : Ty} {xs : List t.T} {cs rest : List Value} {T : TypeId} {lo hi cap : Nat} (hm : List.length xs ≤ maxL) (hv : RepL (RepC c.w c.E t) xs cs)
    (hf : (cs ++ rest).length ≤ lo ∨ hi = lo) (hc : List.length xs ≤ cap) (hroom : cap * t.size ≤ (cs ++ rest).length) :
    ∃ c' : Cx, c'.w = { c.w with heap := c.w.heap.push (.cells (cs ++ rest).toArray T (lo, hi)), drawn := d } ∧ St c' us (s.newBox i (.buf .sl t xs)) a ∧ Fr b c' (s.newBox i (.buf .sl t xs)) ∧
      AVR c'.w c'.E (c'.I (s.newBox i (.buf .sl t xs))) (.sl i) (.slice (some ⟨c.w.heap.size, 0, none⟩) (List.length xs) cap) := by
  have g : Step1 c (c.push i (.cells (cs ++ rest).toArray T (lo, hi)) d) s i := step_push
  have hbx : (s.newBox i (.buf .sl t xs)).box i = some (.buf .sl t xs) := by rw [box_new, if_pos rfl]; rfl
  have hρ : (c.push i (.cells (cs ++ rest).toArray T (lo, hi)) d).ρ i = some (c.w.heap.size, 0) := by simp [Cx.push]
  have hb : BoxOK (c.push i (.cells (cs ++ rest).toArray T (lo, hi)) d) (s.newBox i (.buf .sl t xs)) i (.buf .sl t xs) := by
    refine ⟨hm, .inr ⟨c.w.heap.size, 0, (cs ++ rest).toArray, T, lo, hi, cs, hρ, by rw [Cx.push_heap, if_pos rfl], by simpa using hf, hv.mono fun x cs hx => hx.mono (g.E h), by simp, ?_⟩⟩
    intro j v hj
    have := (List.getElem?_eq_some_iff.1 hj).1
    simp only [Nat.zero_add, List.getElem?_toArray]
    rw [List.getElem?_append_left this]
    exact hj
  refine ⟨c.push i (.cells (cs ++ rest).toArray T (lo, hi)) d, rfl, h.newBox g hb, hfr.newBox g, ?_⟩
  have hI : (c.push i (.cells (cs ++ rest).toArray T (lo, hi)) d).I (s.newBox i (.buf .sl t xs)) i = some (.buf .sl t (List.length xs) (some (c.w.heap.size, 0, (cs ++ rest).length))) := by
    unfold Cx.I
    rw [hbx, hρ]
    simp [boxI, roomOf, Cx.push_heap]
  simp only [AVR, SlAt, hI]
  exact ⟨cap, rfl, hc, hroom⟩
theorem St.nilBuf (h : St c us s a) (hfr : Fr b c s) {i : Nat} {t : Ty} (ad : Option Addr := none) :
    ∃ c' : Cx, c'.w = c.w ∧ St c' us (s.newBox i (.buf .sl t [])) a ∧ Fr b c' (s.newBox i (.buf .sl t [])) ∧ AVR c'.w c'.E (c'.I (s.newBox i (.buf .sl t []))) (.sl i) (.slice ad 0 0) ∧ Step1 c c' s i := by
  have g : Step1 c (c.nilB i) s i := step_nil
  have hbx : (s.newBox i (.buf .sl t ([] : List t.T))).box i = some (.buf .sl t ([] : List t.T)) := by rw [box_new, if_pos rfl]; rfl
  have hρ : (c.nilB i).ρ i = none := by simp [Cx.nilB]
  have hb : BoxOK (c.nilB i) (s.newBox i (.buf .sl t ([] : List t.T))) i (.buf .sl t ([] : List t.T)) := ⟨by simp [maxL], .inl ⟨hρ, rfl⟩⟩
  refine ⟨c.nilB i, rfl, h.newBox g hb, hfr.newBox g, ?_, g⟩
  have hI : (c.nilB i).I (s.newBox i (.buf .sl t ([] : List t.T))) i = some (.buf .sl t 0 none) := by
    unfold Cx.I
    rw [hbx, hρ]
    rfl
  simp only [AVR, SlAt, hI]
  exact ⟨ad, rfl⟩
end
end Go.Xr
namespace Go.Xr
open Go
section
variable {F : Fence} {n : Nat} {P : Program} {K : Kit} {o : Oper} {a : Act} {w w' : World} {Qx : Exit → Act → World → Prop} {u : Value}
variable {b : Base} {us : List (Array Value)} {c c' : Cx} {s s' : AS} {Q : Ex → AS → Prop} {T : TypeId} {call : Oper → AV → List AV → AS → Tree}
theorem mem_done (hF : HF F) (hd : ∀ c, o.op ≠ .defer c) {v : AV} (hq : (retT s' o v).sat Q) (hr : (execOp a.eval o).run P w = .ok (.value u) c'.w)
    (h : St c' us s' a) (hfr : Fr b c' s') (hv : AVR c'.w c'.E (c'.I s') v u) : o.wpIn F n P a w (Abs b us Q) Qx :=
  step_val hF hd hr ⟨c', _, rfl, hq, h.putO hv o.dst, hfr.putO o.dst v⟩
theorem one_cells (h : u.oneCell' = true) : u.cells.toList = [u] := by cases u <;> simp_all [Value.cells, Value.oneCell']
theorem AVR_VarC {w : World} {E : Bool → Nat → Prop} {I : Nat → Option BI} {v : AV} (hs : v.sz.isSome = true) (h : AVR w E I v u) : VarC w E I v u.cells.toList := by
  have one : u.oneCell' = true → (∀ t x, v ≠ .pv t x) → (∀ fs, v ≠ .agg fs) → (∀ fs, v ≠ .tup fs) → (∀ k, v ≠ .cst k) → v ≠ .undef → VarC w E I v u.cells.toList := by
    intro h1 e1 e2 e3 e4 e5
    rw [one_cells h1]
    cases v <;> first | exact (e1 _ _ rfl).elim | exact (e2 _ rfl).elim | exact (e3 _ rfl).elim | exact (e4 _ rfl).elim | exact (e5 rfl).elim | exact ⟨u, rfl, h1, h⟩
  cases v with
  | undef => simp [AV.sz] at hs
  | tup fs => simp [AV.sz] at hs
  | cst k => simp [AV.sz] at hs
  | pv t x =>
    simp only [AVR] at h
    obtain ⟨cs, h1, h2⟩ := h
    rw [isV_cells h2]
    · exact h1
    · intro hg
      unfold IsV at h2
      rw [hg] at h2
      simp at h2
      exact RepC.one t x cs h1 u (by rw [h2]; simp)
  | agg fs =>
    simp only [AVR] at h
    obtain ⟨cs, rfl, h2⟩ := h
    exact h2
  | lit b => exact one (by simp only [AVR] at h; rw [h]; rfl) (by simp) (by simp) (by simp) (by simp) (by simp)
  | nil k => exact one (by cases k <;> simp only [AVR] at h <;> rw [h] <;> rfl) (by simp) (by simp) (by simp) (by simp) (by simp)
  | ptr i p => exact one (by simp only [AVR] at h; obtain ⟨_, e⟩ := h.one; rw [e]; rfl) (by simp) (by simp) (by simp) (by simp) (by simp)
  | fad t x => exact one (by obtain ⟨_, _, _, _, e, _⟩ := AVR_fad.1 h; rw [e]; rfl) (by simp) (by simp) (by simp) (by simp) (by simp)
  | sl i => exact one (by simp only [AVR] at h; obtain ⟨_, _, _, e⟩ := h.one; rw [e]; rfl) (by simp) (by simp) (by simp) (by simp) (by simp)
  | slr i x y => exact one (by simp only [AVR] at h; obtain ⟨_, _, _, e⟩ := h.one; rw [e]; rfl) (by simp) (by simp) (by simp) (by simp) (by simp)
  | asl i p x y => exact one (by simp only [AVR] at h; obtain ⟨_, _, _, e⟩ := h.one; rw [e]; rfl) (by simp) (by simp) (by simp) (by simp) (by simp)
  | mp i => exact one (by simp only [AVR] at h; obtain ⟨_, e⟩ := h.one; rw [e]; rfl) (by simp) (by simp) (by simp) (by simp) (by simp)
  | yld l => exact one (by simp only [AVR] at h; obtain ⟨_, e⟩ := h.one; rw [e]; rfl) (by simp) (by simp) (by simp) (by simp) (by simp)
  | clo f cs => exact one (by simp only [AVR] at h; obtain ⟨vs, e, _⟩ := h; rw [e]; rfl) (by simp) (by simp) (by simp) (by simp) (by simp)
theorem run_newVar {e : TypeId} {v : Value} : (newVar e v).run P w = .ok ⟨w.heap.size, 0, none⟩ { w with heap := w.heap.push (.cells v.cells e (0, 0)) } := by
  rfl
theorem box_sound (hF : HF F) (h : St c us s a) (hfr : Fr b c s) {x : Operand} (ho : o.op = .box T x) {v : AV} (hX : s.ev x = v) (hs : (okT v.sz.isSome (retT (s.newVar (siteT s o) v) o (.ptr (siteT s o) []))).sat Q) : o.wpIn F n P a c.w (Abs b us Q) Qx := by
  have hd : ∀ c, o.op ≠ .defer c := by intro c; rw [ho]; simp
  have hx := h.ev x
  rw [hX] at hx
  replace hs := sat_ok hs; obtain ⟨hk, hs⟩ := hs
  have hv := AVR_VarC hk hx
  obtain ⟨c', hw, h1, h2, h3⟩ := h.newVar hfr (i := siteT s o) (d := c.w.drawn) (T := T) hv
  refine mem_done hF hd hs ?_ h1 h2 h3
  simp only [execOp, ho, Instr.box, Sem.run_bind, run_newVar, Result.andThen_ok, Sem.run_pure, hw]
theorem zeroB_rep {α : Type} {R : α → List Value → Prop} {f : List Value → Option (List Value)} {x : α} (hf : ∀ cs r, f cs = some r → ∃ c1, cs = c1 ++ r ∧ R x c1) : ∀ (n : Nat) (cs r : List Value), zeroB.rep n f cs = some r → ∃ c1, cs = c1 ++ r ∧ RepL R (List.replicate n x) c1
  | 0, cs, r, h => by simp only [zeroB.rep, Option.some.injEq] at h; exact ⟨[], by simpa using h, rfl⟩
  | n + 1, cs, r, h => by
    simp only [zeroB.rep] at h
    split at h
    · rename_i r1 h1
      obtain ⟨c1, e1, k1⟩ := hf cs r1 h1
      obtain ⟨c2, e2, k2⟩ := zeroB_rep hf n r1 r h
      exact ⟨c1 ++ c2, by rw [e1, e2, List.append_assoc], c1, c2, rfl, k1, k2⟩
    · cases h
theorem zeroB_spec {E : Bool → Nat → Prop} : ∀ (t : Ty) (cs r : List Value), zeroB t cs = some r → ∃ c1, cs = c1 ++ r ∧ RepC w E t t.dflt c1
  | .int k, .int k' n :: q, r, h => by
    simp only [zeroB] at h
    cases hb : keq k k' && decide (n = 0) with
    | false => rw [hb] at h; cases h
    | true =>
      rw [hb] at h
      simp only [Bool.and_eq_true, decide_eq_true_eq] at hb
      simp only [cond_true, Option.some.injEq] at h
      subst h
      exact ⟨[.int k' n], rfl, by rw [keq_eq hb.1, hb.2]; exact ⟨rfl, (has_zero k').1, (has_zero k').2⟩⟩
  | .bool, .bool b :: q, r, h => by
    simp only [zeroB] at h
    cases b with
    | true => cases h
    | false =>
      simp only [cond_false, Option.some.injEq] at h
      subst h
      exact ⟨[.bool false], rfl, rfl⟩
  | .str, .string z :: q, r, h => by
    simp only [zeroB] at h
    cases hb : Nat.beq z.size 0 with
    | false => rw [hb] at h; cases h
    | true =>
      rw [hb] at h
      simp only [cond_true, Option.some.injEq] at h
      subst h
      have h0 := Nat.eq_of_beq_eq_true hb
      refine ⟨[.string z], rfl, z, rfl, ?_, by rw [h0]; simp [maxL]⟩
      have : z.data.toList = [] := by
        apply List.eq_nil_of_length_eq_zero
        simpa using h0
      rw [this]
      rfl
  | .unit, cs, r, h => by simp only [zeroB, Option.some.injEq] at h; exact ⟨[], by simpa using h, rfl⟩
  | .pair a b, cs, r, h => by
    simp only [zeroB] at h
    split at h
    · rename_i r1 h1
      obtain ⟨c1, e1, k1⟩ := zeroB_spec a cs r1 h1
      obtain ⟨c2, e2, k2⟩ := zeroB_spec b r1 r h
      exact ⟨c1 ++ c2, by rw [e1, e2, List.append_assoc], c1, c2, rfl, k1, k2⟩
    · cases h
  | .st a, cs, r, h => by simp only [zeroB] at h; exact zeroB_spec a cs r h
  | .arr n a, cs, r, h => by
    simp only [zeroB] at h
    obtain ⟨c1, e1, k1⟩ := zeroB_rep (zeroB_spec a) n cs r h
    exact ⟨c1, e1, by simp [Ty.dflt, pZero], k1⟩
  | .sl b a, .slice none 0 0 :: q, r, h => by
    simp only [zeroB, Option.some.injEq] at h
    subst h
    exact ⟨[.slice none 0 0], rfl, none, 0, rfl, by simp [Ty.dflt, pNil], by simp [Ty.dflt, pNil], .inl rfl⟩
  | .sl b a, .slice none (_ + 1) _ :: q, r, h => by simp [zeroB] at h
  | .sl b a, .slice none 0 (_ + 1) :: q, r, h => by simp [zeroB] at h
  | .sl b a, .slice (some _) _ _ :: q, r, h => by simp [zeroB] at h
  | .int k, [], r, h | .bool, [], r, h | .str, [], r, h | .sl b a, [], r, h => by simp [zeroB] at h
  | .int k, .bool _ :: q, r, h | .int k, .float _ _ :: q, r, h | .int k, .complex _ _ _ :: q, r, h | .int k, .string _ :: q, r, h | .int k, .pointer _ :: q, r, h | .int k, .slice _ _ _ :: q, r, h | .int k, .map _ :: q, r, h | .int k, .chan _ :: q, r, h | .int k, .func _ _ _ :: q, r, h | .int k, .nilFunc :: q, r, h | .int k, .iface _ _ :: q, r, h | .int k, .nilIface :: q, r, h | .int k, .agg _ :: q, r, h | .int k, .tuple _ :: q, r, h => by simp [zeroB] at h
  | .bool, .int _ _ :: q, r, h | .bool, .float _ _ :: q, r, h | .bool, .complex _ _ _ :: q, r, h | .bool, .string _ :: q, r, h | .bool, .pointer _ :: q, r, h | .bool, .slice _ _ _ :: q, r, h | .bool, .map _ :: q, r, h | .bool, .chan _ :: q, r, h | .bool, .func _ _ _ :: q, r, h | .bool, .nilFunc :: q, r, h | .bool, .iface _ _ :: q, r, h | .bool, .nilIface :: q, r, h | .bool, .agg _ :: q, r, h | .bool, .tuple _ :: q, r, h => by simp [zeroB] at h
  | .str, .bool _ :: q, r, h | .str, .int _ _ :: q, r, h | .str, .float _ _ :: q, r, h | .str, .complex _ _ _ :: q, r, h | .str, .pointer _ :: q, r, h | .str, .slice _ _ _ :: q, r, h | .str, .map _ :: q, r, h | .str, .chan _ :: q, r, h | .str, .func _ _ _ :: q, r, h | .str, .nilFunc :: q, r, h | .str, .iface _ _ :: q, r, h | .str, .nilIface :: q, r, h | .str, .agg _ :: q, r, h | .str, .tuple _ :: q, r, h => by simp [zeroB] at h
  | .sl b a, .bool _ :: q, r, h | .sl b a, .int _ _ :: q, r, h | .sl b a, .float _ _ :: q, r, h | .sl b a, .complex _ _ _ :: q, r, h | .sl b a, .string _ :: q, r, h | .sl b a, .pointer _ :: q, r, h | .sl b a, .map _ :: q, r, h | .sl b a, .chan _ :: q, r, h | .sl b a, .func _ _ _ :: q, r, h | .sl b a, .nilFunc :: q, r, h | .sl b a, .iface _ _ :: q, r, h | .sl b a, .nilIface :: q, r, h | .sl b a, .agg _ :: q, r, h | .sl b a, .tuple _ :: q, r, h => by simp [zeroB] at h
theorem zeroA_names {site i : Nat} (h : (K.zeroA site T).names i = true) : i = site + 500 := by
  unfold Kit.zeroA at h
  split at h
  · cases h
  · split at h
    · simp only [AV.names] at h; exact Nat.eq_of_beq_eq_true h
    · cases h
  all_goals cases h
theorem zerosA_names : ∀ (fs : List TypeId) (site i : Nat), namesL i (K.zerosA site fs) = true → site + 500 ≤ i
  | [], site, i, h => by cases h
  | T :: r, site, i, h => by
    simp only [Kit.zerosA, namesL, Bool.or_eq_true] at h
    rcases h with h | h
    · rw [zeroA_names h]; exact Nat.le_refl _
    · have := zerosA_names r _ i h
      have e : Nat.add site 10 = site + 10 := rfl
      omega
def ZeroOf (K : Kit) (T : TypeId) (c1 : List Value) : Prop :=
  match K.td T with
  | .pure t => ∃ r, zeroB t (c1 ++ r) = some r
  | .slice _ => c1 = [.slice none 0 0]
  | .ptr _ => c1 = [.pointer none]
  | .map _ _ => c1 = [.map none]
  | .fn => c1 = [.nilFunc]
  | _ => False
theorem zeroS_spec (h : St c us s a) (hfr : Fr b c s) {site : Nat} {c1 : List Value} (hz : ZeroOf K T c1) :
    ∃ c' : Cx, c'.w = c.w ∧ St c' us (K.zeroS site T s) a ∧ Fr b c' (K.zeroS site T s) ∧ AVC1 c'.w c'.E (c'.I (K.zeroS site T s)) (K.zeroA site T) c1 ∧ (∀ j, j ≠ site + 500 → c'.I (K.zeroS site T s) j = c.I s j) ∧ c'.E = c.E := by
  unfold ZeroOf at hz
  unfold Kit.zeroS Kit.zeroA
  cases ht : K.td T with
  | pure t =>
    rw [ht] at hz
    obtain ⟨r, hz⟩ := hz
    obtain ⟨c2, e, k⟩ := zeroB_spec (w := c.w) (E := c.E) t _ r hz
    exact ⟨c, rfl, h, hfr, by rw [List.append_cancel_right e]; exact k, fun j _ => rfl, rfl⟩
  | slice e =>
    rw [ht] at hz
    simp only at hz ⊢
    subst hz
    split
    · rename_i t hte
      obtain ⟨c', hw, h1, h2, h3, g⟩ := h.nilBuf hfr (i := Nat.add site 500) (t := t)
      refine ⟨c', hw, h1, h2, ⟨_, rfl, rfl, h3⟩, fun j hj => newBox_I h g hj, ?_⟩
      funext b' k
      simp only [Cx.E, g.fz, g.bo]
    · exact ⟨c, rfl, h, hfr, ⟨_, rfl, rfl, by simp only [AVR]⟩, fun j _ => rfl, rfl⟩
  | ptr e => rw [ht] at hz; simp only at hz ⊢; subst hz; exact ⟨c, rfl, h, hfr, ⟨_, rfl, rfl, by simp only [AVR]⟩, fun j _ => rfl, rfl⟩
  | map k e => rw [ht] at hz; simp only at hz ⊢; subst hz; exact ⟨c, rfl, h, hfr, ⟨_, rfl, rfl, by simp only [AVR]⟩, fun j _ => rfl, rfl⟩
  | fn => rw [ht] at hz; simp only at hz ⊢; subst hz; exact ⟨c, rfl, h, hfr, ⟨_, rfl, rfl, by simp only [AVR]⟩, fun j _ => rfl, rfl⟩
  | struct fs => rw [ht] at hz; exact hz.elim
  | other => rw [ht] at hz; exact hz.elim
theorem zerosB_cons {fs : List TypeId} {cs : List Value} (h : zerosB K (T :: fs) cs = true) : ∃ c1 c2, cs = c1 ++ c2 ∧ ZeroOf K T c1 ∧ zerosB K fs c2 = true := by
  unfold zerosB at h
  unfold ZeroOf
  split at h
  · rename_i t ht
    rw [ht]
    split at h
    · rename_i r hr
      obtain ⟨c1, e, _⟩ := zeroB_spec (w := default) (E := fun _ _ => False) t _ r hr
      exact ⟨c1, r, e, ⟨r, by rw [← e]; exact hr⟩, h⟩
    · cases h
  · rename_i e r ht; rw [ht]; exact ⟨[_], r, rfl, rfl, h⟩
  · rename_i e r ht; rw [ht]; exact ⟨[_], r, rfl, rfl, h⟩
  · rename_i e r ht; rw [ht]; exact ⟨[_], _, rfl, rfl, h⟩
  · rename_i ht; rw [ht]; exact ⟨[_], _, rfl, rfl, h⟩
  · cases h
theorem zerosS_spec : ∀ (fs : List TypeId) (site : Nat) (cs : List Value), zerosB K fs cs = true → ∀ {c : Cx} {s : AS}, St c us s a → Fr b c s →
    ∃ c' : Cx, c'.w = c.w ∧ St c' us (K.zerosS site fs s) a ∧ Fr b c' (K.zerosS site fs s) ∧ AVCL c'.w c'.E (c'.I (K.zerosS site fs s)) (K.zerosA site fs) cs
  | [], site, cs, hz, c, s, h, hfr => by
    cases cs with
    | nil => exact ⟨c, rfl, h, hfr, AVCL_nil.2 rfl⟩
    | cons v r => simp [zerosB] at hz
  | T :: fs, site, cs, hz, c, s, h, hfr => by
    obtain ⟨c1, c2, e, k1, k2⟩ := zerosB_cons hz
    obtain ⟨c', hw, h1, h2, h3⟩ := zerosS_spec fs (Nat.add site 10) c2 k2 h hfr
    obtain ⟨c'', hw2, g1, g2, g3, g4, g5⟩ := zeroS_spec (T := T) (site := site) h1 h2 k1
    refine ⟨c'', hw2.trans hw, g1, g2, AVCL_cons.2 ⟨c1, c2, e, g3, ?_⟩⟩
    refine AVCL.mono (fun b' k hk => ⟨by rw [g5]; exact hk, by rw [hw2]⟩) _ _ ?_ h3
    intro i hi
    have := zerosA_names fs _ i hi
    have e : Nat.add site 10 = site + 10 := rfl
    exact .inl (g4 i (by omega))
theorem zeroV_spec (hK : KitOK P K) (h : St c us s a) (hfr : Fr b c s) {site : Nat} {m : Nat} {g : Bool} (hs : (K.zeroV site T).sz = some (m, g)) (hT : K.sz T = some (m, g)) :
    ∃ (c' : Cx) (z : Value), (zeroValue T).run P c.w = .ok z c.w ∧ c'.w = c.w ∧ St c' us (K.zeroW site T s) a ∧ Fr b c' (K.zeroW site T s) ∧ VarC c'.w c'.E (c'.I (K.zeroW site T s)) (K.zeroV site T) z.cells.toList := by
  have zr : ∀ {i z}, P.info? T = some i → i.zero = some z → (zeroValue T).run P c.w = .ok z c.w := by
    intro i z h1 h2
    simp [zeroValue, typeInfo, h1, h2]
  have single : ∀ z : Value, (zeroValue T).run P c.w = .ok z c.w → (∀ fs, K.td T ≠ .struct fs) → ZeroOf K T z.cells.toList →
      ∃ (c' : Cx) (z : Value), (zeroValue T).run P c.w = .ok z c.w ∧ c'.w = c.w ∧ St c' us (K.zeroW site T s) a ∧ Fr b c' (K.zeroW site T s) ∧ VarC c'.w c'.E (c'.I (K.zeroW site T s)) (K.zeroV site T) z.cells.toList := by
    intro z h1 hns h2
    obtain ⟨c', hw, k1, k2, k3, _⟩ := zeroS_spec (site := site) h hfr h2
    have e1 : K.zeroW site T s = K.zeroS site T s := by
      unfold Kit.zeroW
      split
      · rename_i fs e; exact (hns fs e).elim
      · rfl
    have e2 : K.zeroV site T = K.zeroA site T := by
      unfold Kit.zeroV
      split
      · rename_i fs e; exact (hns fs e).elim
      · rfl
    exact ⟨c', z, h1, hw, by rw [e1]; exact k1, by rw [e1]; exact k2, by rw [e1, e2]; exact .of_part k3⟩
  cases ht : K.td T with
  | pure t =>
    obtain ⟨i, z, hi, _, _, _, hz, hzb, _⟩ := infoB_spec (tyB_info (td_pure hK ht).1)
    exact single z (zr hi hz) (by rw [ht]; simp) (by unfold ZeroOf; rw [ht]; exact ⟨[], by simpa using hzb⟩)
  | slice e => obtain ⟨_, i, hi, _, hz⟩ := td_slice hK ht; exact single _ (zr hi hz) (by rw [ht]; simp) (by unfold ZeroOf; rw [ht]; rfl)
  | ptr e => obtain ⟨_, i, hi, _, hz⟩ := td_ptr hK ht; exact single _ (zr hi hz) (by rw [ht]; simp) (by unfold ZeroOf; rw [ht]; rfl)
  | map k e => obtain ⟨_, i, hi, _, hz⟩ := td_map hK ht; exact single _ (zr hi hz) (by rw [ht]; simp) (by unfold ZeroOf; rw [ht]; rfl)
  | fn => obtain ⟨_, i, hi, _, hz⟩ := td_fn hK ht; exact single _ (zr hi hz) (by rw [ht]; simp) (by unfold ZeroOf; rw [ht]; rfl)
  | struct fs =>
    obtain ⟨fields, i, hu, _, hi, _, z, hz, hzb⟩ := td_struct hK ht
    obtain ⟨c', hw, k1, k2, k3⟩ := zerosS_spec fs site z.toList hzb h hfr
    have e1 : K.zeroW site T s = K.zerosS site fs s := by unfold Kit.zeroW; rw [ht]
    have e2 : K.zeroV site T = .agg (K.zerosA site fs) := by unfold Kit.zeroV; rw [ht]
    exact ⟨c', _, zr hi hz, hw, by rw [e1]; exact k1, by rw [e1]; exact k2, by rw [e1, e2]; exact k3⟩
  | other => unfold Kit.sz at hT; rw [ht] at hT; cases hT
theorem alloc_sound (hF : HF F) (hK : KitOK P K) (h : St c us s a) (hfr : Fr b c s) (ho : o.op = .alloc T) (hs : (opT K call s o).sat Q) : o.wpIn F n P a c.w (Abs b us Q) Qx := by
  have hd : ∀ c, o.op ≠ .defer c := by intro c; rw [ho]; simp
  unfold opT at hs
  rw [ho] at hs
  simp only at hs
  replace hs := sat_ok hs; obtain ⟨hk, hs⟩ := hs
  obtain ⟨m, g, e1, e2⟩ := szEq_spec hk
  obtain ⟨c', z, hz, hw, k1, k2, k3⟩ := zeroV_spec hK h hfr e2 e1
  obtain ⟨c'', hw2, h1, h2, h3⟩ := k1.newVar k2 (i := siteT s o) (d := c'.w.drawn) (T := T) k3
  refine mem_done hF hd hs ?_ h1 h2 h3
  simp only [execOp, ho, Instr.alloc, Sem.run_bind, hz, run_newVar, Result.andThen_ok, Sem.run_pure, hw2, hw]
end
end Go.Xr
namespace Go.Xr
open Go
section
variable {F : Fence} {n : Nat} {P : Program} {K : Kit} {o : Oper} {a : Act} {w w' : World} {Qx : Exit → Act → World → Prop} {u : Value}
variable {b : Base} {us : List (Array Value)} {c c' : Cx} {s s' : AS} {Q : Ex → AS → Prop} {T : TypeId} {call : Oper → AV → List AV → AS → Tree}
theorem setCells_spec (blk : Nat) (T : TypeId) (fr : Nat × Nat) : ∀ (vs : List Value) (o : Nat) (w : World) (arr : Array Value), w.heap[blk]? = some (.cells arr T fr) → o + vs.length ≤ arr.size →
    ∃ arr' : Array Value, arr'.size = arr.size ∧ (∀ j v, vs[j]? = some v → arr'[o + j]? = some v) ∧ (∀ k, k < o ∨ o + vs.length ≤ k → arr'[k]? = arr[k]?) ∧ (w.setCells blk o vs).heap[blk]? = some (.cells arr' T fr) ∧
      (∀ k, k ≠ blk → (w.setCells blk o vs).heap[k]? = w.heap[k]?) ∧ (w.setCells blk o vs).heap.size = w.heap.size ∧ (w.setCells blk o vs).os = w.os ∧ (w.setCells blk o vs).tape = w.tape ∧ (w.setCells blk o vs).output = w.output
  | [], o, w, arr, h, _ => ⟨arr, rfl, by simp, fun _ _ => rfl, h, fun _ _ => rfl, rfl, rfl, rfl, rfl⟩
  | v :: r, o, w, arr, h, hl => by
    simp only [List.length_cons] at hl
    have e : w.setCell ⟨blk, o, none⟩ v = w.setRow blk (arr.setIfInBounds o v) := setCell_eq_setRow w blk o arr T fr v h
    have h1 : (w.setCell ⟨blk, o, none⟩ v).heap[blk]? = some (.cells (arr.setIfInBounds o v) T fr) := by rw [e]; exact setRow_heap w blk arr _ T fr h
    obtain ⟨arr', k1, k2, k3, k4, k5, k6, k7, k8, k9⟩ := setCells_spec blk T fr r (o + 1) (w.setCell ⟨blk, o, none⟩ v) _ h1 (by simp; omega)
    refine ⟨arr', by rw [k1]; simp, ?_, ?_, k4, ?_, ?_, ?_, ?_, ?_⟩
    · intro j z hj
      cases j with
      | zero =>
        simp only [List.getElem?_cons_zero, Option.some.injEq] at hj
        subst hj
        rw [Nat.add_zero, k3 o (by omega)]
        rw [Array.getElem?_setIfInBounds]
        simp
        omega
      | succ j =>
        have := k2 j z (by simpa using hj)
        rwa [show o + 1 + j = o + (j + 1) by omega] at this
    · intro k hk
      simp only [List.length_cons] at hk
      rw [k3 k (by omega), Array.getElem?_setIfInBounds]
      rw [if_neg (by omega)]
    · intro k hk
      rw [World.setCells, k5 k hk, e]
      exact setRow_other w blk k _ hk
    · rw [World.setCells, k6, e]; simp
    · rw [World.setCells, k7, e]; rfl
    · rw [World.setCells, k8, e]; rfl
    · rw [World.setCells, k9, e]; rfl
theorem cell_drew (x : Addr) : w.drew.cell? x = w.cell? x := rfl
theorem run_firstCells_row {size m : Nat} {ad : Option Addr} {cap : Nat} {cs : List Value} (hl : cs.length = m * size) (h : m = 0 ∨ ∃ blk off, ad = some ⟨blk, off, none⟩ ∧ Reads w blk off cs) {len : Nat} :
    (Builtin.firstCells size m (.slice ad len cap)).run P w = .ok cs.toArray w := by
  rcases h with rfl | ⟨blk, off, rfl, h⟩
  · have : cs = [] := List.eq_nil_of_length_eq_zero (by simpa using hl)
    subst this
    cases ad with
    | none => simp [Builtin.firstCells]
    | some x => simpa using run_firstCells_some (P := P) w size 0 x len cap [] (by simp) (by simp)
  · exact run_firstCells_some (P := P) w size m _ len cap cs hl (fun j v hj => by rw [Addr.add_none]; exact h j v hj)
def RowOrText (P : Program) (tx : TypeId) : Prop := (∃ e, P.underlying tx = some (.slice e)) ∨ P.underlying tx = some .string
theorem run_append_room1 {tx ty e : TypeId} {i : TypeInfo} (ht : P.underlying T = some (.slice e)) (hx : RowOrText P tx) (hi : P.info? e = some i)
    {ad : Addr} {sLen sCap : Nat} {x : Value} {m : Nat} {news : List Value} (hlen : (Builtin.lenOf x).run P w = .ok m w) (hnews : (Builtin.firstCells i.size m x).run P w = .ok news.toArray w) (hroom : sLen + m ≤ sCap)
    (hst : (storeCells (ad.add (sLen * i.size)) news).run P w = .ok () w') :
    (Builtin.append_ #[T, tx] ty #[.slice (some ad) sLen sCap, x]).run P w = .ok (.slice (some ad) (sLen + m) sCap) w' := by
  rcases hx with ⟨e', hx⟩ | hx <;> simp [Builtin.append_, run_underlying ht, run_underlying hx, sizeOf, typeInfo, hi, hlen, hnews, hroom, hst]
theorem run_append_room0 {tx ty e : TypeId} {i : TypeInfo} (ht : P.underlying T = some (.slice e)) (hx : RowOrText P tx) (hi : P.info? e = some i)
    {sLen sCap : Nat} {x : Value} {m : Nat} {news : List Value} (hlen : (Builtin.lenOf x).run P w = .ok m w) (hnews : (Builtin.firstCells i.size m x).run P w = .ok news.toArray w) (hroom : sLen + m ≤ sCap) :
    (Builtin.append_ #[T, tx] ty #[.slice none sLen sCap, x]).run P w = .ok (.slice none (sLen + m) sCap) w := by
  rcases hx with ⟨e', hx⟩ | hx <;> simp [Builtin.append_, run_underlying ht, run_underlying hx, sizeOf, typeInfo, hi, hlen, hnews, hroom]
theorem run_append_none {tx ty e : TypeId} {i : TypeInfo} (ht : P.underlying T = some (.slice e)) (hx : RowOrText P tx) (hi : P.info? e = some i)
    {ad : Option Addr} {x : Value} (hlen : (Builtin.lenOf x).run P w = .ok 0 w) (hnews : (Builtin.firstCells i.size 0 x).run P w = .ok #[] w) :
    (Builtin.append_ #[T, tx] ty #[.slice ad 0 0, x]).run P w = .ok (.slice ad 0 0) w := by
  cases ad <;> rcases hx with ⟨e', hx⟩ | hx <;> simp [Builtin.append_, run_underlying ht, run_underlying hx, sizeOf, typeInfo, hi, hlen, hnews, storeCells]
theorem run_append_gen_grow {tx ty e : TypeId} {i : TypeInfo} {z : Value} (ht : P.underlying T = some (.slice e)) (hx : RowOrText P tx) (hi : P.info? e = some i) (hz : i.zero = some z)
    {base : Option Addr} {sLen sCap : Nat} {x : Value} {m : Nat} {news olds : List Value} (hlen : (Builtin.lenOf x).run P w = .ok m w) (hnews : (Builtin.firstCells i.size m x).run P w.drew = .ok news.toArray w.drew)
    (holds : (Builtin.firstCells i.size sLen (.slice base sLen sCap)).run P w.drew = .ok olds.toArray w.drew)
    (hroom : sCap < sLen + m) (h63 : sLen + m ≤ 9223372036854775807) (hfit : Builtin.nextslicecap (sLen + m) sCap * i.bytes ≤ 281474976710656) :
    (Builtin.append_ #[T, tx] ty #[.slice base sLen sCap, x]).run P w = .ok (.slice (some ⟨w.heap.size, 0, none⟩) (sLen + m) (grownCap w (sLen + m) sCap e))
      (w.drew.alloc (.cells (olds.toArray ++ news.toArray ++ Builtin.zeroCells z.cells (grownCap w (sLen + m) sCap e - (sLen + m))) e)) := by
  have n1 : ¬ (sLen + m ≤ sCap) := by omega
  have n2 : ¬ (281474976710656 < Builtin.nextslicecap (sLen + m) sCap * i.bytes) := by omega
  have n3 : ¬ ((9223372036854775807 : Int) < (sLen : Int) + (m : Int)) := by omega
  rcases hx with ⟨e', hx⟩ | hx <;> simp [Builtin.append_, run_underlying ht, run_underlying hx, sizeOf, typeInfo, hi, zeroValue, hz, hlen, hnews, holds, n1, n2, n3, grownCap, newRow, Question.forced]
  all_goals
    congr 2
    apply Array.ext'
    simp
theorem run_size_info {i : TypeInfo} (hi : P.info? T = some i) {t : Ty} (h : tyB P t (.inl T) = true) : i.size = t.size ∧ i.bytes ≤ 16384 ∧ 0 < t.size ∧ ∃ z, i.zero = some z ∧ z.cells.size = t.size := by
  obtain ⟨i', z, hi', hs, h0, hby, hz, hzb, _⟩ := infoB_spec (tyB_info h)
  rw [hi] at hi'
  cases hi'
  obtain ⟨c1, e, k⟩ := zeroB_spec (w := default) (E := fun _ _ => False) t _ _ hzb
  refine ⟨hs, hby, h0, z, hz, ?_⟩
  have := RepC.len t _ _ k
  rw [List.append_nil] at e
  rw [← this, ← e]
  simp
theorem RepL.app {α : Type} {R : α → List Value → Prop} : ∀ (xs ys : List α) (cs ds : List Value), RepL R xs cs → RepL R ys ds → RepL R (xs ++ ys) (cs ++ ds)
  | [], ys, cs, ds, h, k => by cases h; exact k
  | x :: xs, ys, cs, ds, ⟨c1, c2, e, h1, h2⟩, k => ⟨c1, c2 ++ ds, by rw [e, List.append_assoc], h1, RepL.app xs ys c2 ds h2 k⟩
theorem app_spec (hK : KitOK P K) (h : St c us s a) {tx e : TypeId} {y : AV} {t : Ty} {ys : List t.T} (hl : s.list y = some ⟨t, ys⟩) (hy : AVR c.w c.E (c.I s) y u) (htx : (match K.td tx with | .slice _ => true | .pure .str => true | _ => false) = true) :
    RowOrText P tx ∧ List.length ys ≤ maxL ∧ (∀ w, (Builtin.lenOf u).run P w = .ok (List.length ys) w) ∧ ∃ news, RepL (RepC c.w c.E t) ys news ∧ ∀ w' : World, w'.heap = c.w.heap → (Builtin.firstCells t.size (List.length ys) u).run P w' = .ok news.toArray w' := by
  obtain ⟨h1, h2⟩ := list_spec h hl hy
  have hrt : RowOrText P tx := by
    split at htx
    · rename_i e he; exact .inl ⟨e, (td_slice hK he).1⟩
    · rename_i he; exact .inr (pure_str hK he)
    · cases htx
  refine ⟨hrt, h1, ?_⟩
  rcases h2 with ⟨z, rfl, h2⟩ | ⟨ad, cap, hu, h3, h4⟩
  · cases h2
    obtain ⟨z', hz, hz1, hz2⟩ := AVR_str.1 hy
    subst hz hz1
    have hl : List.length (z'.data.toList.map fun b => (b.toNat : Int)) = z'.size := by simp
    refine ⟨fun w => by rw [hl]; rfl, z'.data.toList.map fun b => .int .u8 b.toNat, ?_, ?_⟩
    · have : ∀ l : List UInt8, RepL (RepC c.w c.E (.int .u8)) (l.map fun b => (b.toNat : Int)) (l.map fun b => .int .u8 b.toNat) := by
        intro l
        induction l with
        | nil => rfl
        | cons x r ih => exact ⟨[.int .u8 x.toNat], _, rfl, ⟨rfl, u8_has x⟩, ih⟩
      exact this _
    · intro w' _
      rw [hl]
      exact Go.Lib.run_firstCells_string (P := P) w' _ z'
  · subst hu
    refine ⟨fun w => rfl, ?_⟩
    rcases h4 with h4 | ⟨blk, off, cs, rfl, h5, h6⟩
    · have : ys = [] := List.eq_nil_of_length_eq_zero h4
      subst this
      exact ⟨[], rfl, fun w' _ => run_firstCells_row (by simp) (.inl rfl)⟩
    · refine ⟨cs, h5, fun w' hw' => run_firstCells_row (RepL.len (RepC.len t) _ _ h5) (.inr ⟨blk, off, rfl, ?_⟩)⟩
      intro j v hj
      have := h6 j v hj
      unfold World.cell? at *
      rw [hw']
      exact this
theorem fits_of {m bytes : Nat} (h : (m : Int) ≤ 4294967296) (hb : bytes ≤ 16384) : m * bytes ≤ 140737488355328 := by
  have h1 : m ≤ 4294967296 := by omega
  exact Nat.le_trans (Nat.mul_le_mul h1 hb) (by decide)
theorem app_done (hF : HF F) (hK : KitOK P K) (h : St c us s a) (hfr : Fr b c s) {cl : Call} {x y : Operand} {tx e : TypeId} {t : Ty} {i : Nat} {xs ys : List t.T} {ad : Option Addr} {cap : Nat} (ho : o.op = .call cl) (hc : cl.callee = .builtin .append) (hT : cl.argTypes = #[T, tx]) (hA : cl.args = #[x, y])
    (hu : P.underlying T = some (.slice e)) (hty : tyB P t (.inl e) = true) (hl : s.list (s.ev y) = some ⟨t, ys⟩) (htx : (match K.td tx with | .slice _ => true | .pure .str => true | _ => false) = true)
    (hx : a.eval x = .slice ad (List.length xs) cap) (hroom : pRoom (pIAdd (pLen xs) (pLen ys)) = true)
    (hbx : (List.length xs = 0 ∧ cap = 0) ∨ (s.box i = some (.buf .sl t xs) ∧ ∃ blk base, c.ρ i = some (blk, base) ∧ ad = some ⟨blk, base, none⟩ ∧ List.length xs ≤ cap ∧ cap * t.size ≤ roomOf c.w blk base))
    (hs : (retT (s.newBox i (.buf .sl t (xs ++ ys))) o (.sl i)).sat Q) : o.wpIn F n P a c.w (Abs b us Q) Qx := by
  have hd : ∀ c, o.op ≠ .defer c := by intro c; rw [ho]; simp
  obtain ⟨cs0, he⟩ := builtin_run (P := P) (w := c.w) (a := a) ho hc
  have e2 : ∀ {v w1}, (Builtin.append_ #[T, tx] o.type #[a.eval x, a.eval y]).run P c.w = .ok v w1 → (execOp a.eval o).run P c.w = .ok (.value v) w1 := by
    intro v w1 hv
    rw [he, hT, hA]
    simp only [builtin, Array.map_push, List.map_toArray, List.map_cons, List.map_nil, Sem.run_bind, hv, Result.andThen_ok, Sem.run_pure]
  obtain ⟨hrt, hml, hlen, news, hnews, hfc⟩ := app_spec hK h hl (h.ev y) htx (e := e)
  obtain ⟨ie, hie, hsz, _⟩ := tyB_size hty
  obtain ⟨_, hby, h0, z, hz, hzs⟩ := run_size_info hie hty
  have hroom' : ((List.length xs + List.length ys : Nat) : Int) ≤ 4294967296 := by simpa [pRoom, pIAdd, pLen] using hroom
  have hnl : news.length = List.length ys * t.size := RepL.len (RepC.len t) _ _ hnews
  have hmx : List.length (xs ++ ys) ≤ maxL := by rw [List.length_append]; unfold maxL; omega
  rw [hx] at e2
  have grow : ∀ olds : List Value, RepL (RepC c.w c.E t) xs olds → (∀ w' : World, w'.heap = c.w.heap → (Builtin.firstCells ie.size (List.length xs) (.slice ad (List.length xs) cap)).run P w' = .ok olds.toArray w') → cap < List.length xs + List.length ys → o.wpIn F n P a c.w (Abs b us Q) Qx := by
    intro olds hol hof hcap
    have hr := run_append_gen_grow (w := c.w) (ty := o.type) hu hrt hie hz (hlen c.w) (by rw [hsz]; exact hfc c.w.drew rfl) (hof c.w.drew rfl) hcap (by omega) (growslice_fits hcap (fits_of hroom' hby))
    have hge := grownCap_ge c.w (List.length xs + List.length ys) cap e
    obtain ⟨c', hw, h1, h2, h3⟩ := h.newBuf hfr (i := i) (d := c.w.drawn + 1) (T := e) (lo := 0) (hi := 0) (xs := xs ++ ys) (cs := olds ++ news) (rest := (Builtin.zeroCells z.cells (grownCap c.w (List.length xs + List.length ys) cap e - (List.length xs + List.length ys))).toList)
      (cap := grownCap c.w (List.length xs + List.length ys) cap e) hmx (RepL.app xs ys olds news hol hnews) (.inr rfl) (by rw [List.length_append]; exact hge) (by
        have := RepL.len (RepC.len t) _ _ hol
        have hzl : (Builtin.zeroCells z.cells (grownCap c.w (List.length xs + List.length ys) cap e - (List.length xs + List.length ys))).toList.length = (grownCap c.w (List.length xs + List.length ys) cap e - (List.length xs + List.length ys)) * t.size := by
          rw [Array.length_toList, size_zeroCells, hzs]
        rw [List.length_append, List.length_append, this, hnl, hzl, ← Nat.add_mul, ← Nat.add_mul]
        exact Nat.mul_le_mul_right _ (by omega))
    rw [List.length_append] at h3
    refine mem_done hF hd hs ?_ h1 h2 h3
    rw [e2 hr, hw]
    congr 1
    have harr : ∀ zc : Array Value, olds.toArray ++ news.toArray ++ zc = (olds ++ news ++ zc.toList).toArray := by intro zc; apply Array.ext'; simp
    rw [harr]
    rfl
  rcases hbx with ⟨hx0, rfl⟩ | ⟨hb, blk, base, hρ, rfl, hcap, hrm⟩
  · have : xs = [] := List.eq_nil_of_length_eq_zero hx0
    subst this
    by_cases hy0 : List.length ys = 0
    · have : ys = [] := List.eq_nil_of_length_eq_zero hy0
      subst this
      have hn0 : news = [] := hnews
      have hr := run_append_none (w := c.w) (ty := o.type) (ad := ad) hu hrt hie (hlen c.w) (by rw [hsz, ← hn0]; exact hfc c.w rfl)
      obtain ⟨c', hw, h1, h2, h3, _⟩ := h.nilBuf hfr (i := i) (t := t) ad
      refine mem_done hF hd hs ?_ h1 h2 h3
      rw [e2 hr, hw]
    · exact grow [] rfl (fun w' _ => by rw [hsz]; exact run_firstCells_row (by simp) (.inl rfl)) (by simp; omega)
  · obtain ⟨hm, hbo⟩ := h.bx i _ hb
    rcases hbo with ⟨h1, _⟩ | ⟨blk', base', arr, T', lo, hi, cs, h1, h2, h3, h4, h5, h6⟩
    · rw [h1] at hρ; cases hρ
    · rw [h1] at hρ
      cases hρ
      have hcl : cs.length = List.length xs * t.size := RepL.len (RepC.len t) _ _ h4
      have hrd : Reads c.w blk base cs := fun j v hj => by simp only [World.cell?, h2]; simpa using h6 _ _ hj
      by_cases hfit : List.length xs + List.length ys ≤ cap
      ·
        have hro : roomOf c.w blk base = arr.size - base := by simp [roomOf, h2]
        have hsp : base + (List.length xs + List.length ys) * t.size ≤ arr.size := by
          have := Nat.le_trans (Nat.mul_le_mul_right t.size hfit) hrm
          rw [hro] at this
          omega
        have hsp' : base + List.length xs * t.size + news.length ≤ arr.size := by rw [hnl]; rw [Nat.add_mul] at hsp; omega
        obtain ⟨arr', g1, g2, g3, g4, g5, g6, g7, g8, g9⟩ := setCells_spec blk T' (lo, hi) news (base + List.length xs * t.size) c.w arr h2 hsp'
        have hst := run_storeCells_cells (P := P) blk (base + List.length xs * t.size) news 0 c.w
          (fun j hj => by
            simp only [World.cell?, h2]
            have : base + List.length xs * t.size + j < arr.size := by omega
            simp
            exact this)
          (fun j hj => by
            simp only [World.frozen?, h2]
            have : base + List.length xs * t.size + 0 + j < arr.size := by omega
            simp
            omega)
          (RepL.one (RepC.one t) ys news hnews)
        have hr := run_append_room1 (w := c.w) (ty := o.type) (ad := ⟨blk, base, none⟩) (sLen := List.length xs) (sCap := cap) hu hrt hie (hlen c.w) (by rw [hsz]; exact hfc c.w rfl) hfit (by rw [hsz, Addr.add_none]; exact hst)
        let c' : Cx := { c with w := c.w.setCells blk (base + List.length xs * t.size) news }
        have g : Step1 c c' s i := ⟨rfl, rfl, fun j _ => rfl, by show _ ≤ (c.w.setCells _ _ _).heap.size; rw [g6]; exact Nat.le_refl _, g7, g8, g9, rfl, rfl,
          fun k hk => by
            by_cases e : k = blk
            · exact .inr ⟨by rw [hb]; simp, base, by rw [h1, e]⟩
            · exact .inl (g5 k e),
          fun x hx => by
            have hx : c.ρ i = some x := hx
            rw [h1] at hx
            cases hx
            refine ⟨?_, .inr ⟨by rw [hb]; simp, base, h1⟩⟩
            show blk < (c.w.setCells _ _ _).heap.size
            rw [g6]
            exact (h.own i _ (by rw [hb]; simp) h1).1, fun k hk => by
            by_cases e : k = blk
            · rw [e]
              show cellsN (c.w.setCells _ _ _).heap[blk]? = _
              rw [g4, h2]
              simp [cellsN, g1]
            · show cellsN (c.w.setCells _ _ _).heap[k]? = _
              rw [g5 k e]⟩
        have hbx' : (s.newBox i (.buf .sl t (xs ++ ys))).box i = some (.buf .sl t (xs ++ ys)) := by rw [box_new, if_pos rfl]; rfl
        have hbok : BoxOK c' (s.newBox i (.buf .sl t (xs ++ ys))) i (.buf .sl t (xs ++ ys)) := by
          refine ⟨hmx, .inr ⟨blk, base, arr', T', lo, hi, cs ++ news, h1, g4, by rw [g1]; exact h3, (RepL.app xs ys cs news h4 hnews).mono (fun x cs hx => hx.mono (g.E h)), ?_, ?_⟩⟩
          · rw [List.length_append, hcl, g1]; omega
          · intro j v hj
            by_cases hjl : j < cs.length
            · rw [List.getElem?_append_left hjl] at hj
              rw [g3 _ (by left; rw [← hcl]; omega)]
              exact h6 j v hj
            · rw [List.getElem?_append_right (by omega)] at hj
              have := g2 _ v hj
              rwa [show base + List.length xs * t.size + (j - cs.length) = base + j by rw [← hcl]; omega] at this
        have hI : c'.I (s.newBox i (.buf .sl t (xs ++ ys))) i = some (.buf .sl t (List.length (xs ++ ys)) (some (blk, base, arr.size - base))) := by
          have hro' : roomOf c'.w blk base = arr.size - base := by
            show roomOf (c.w.setCells _ _ _) blk base = _
            simp [roomOf, g4, g1]
          show boxI c'.w (c.ρ i) _ _ = _
          rw [hbx', h1]
          simp [boxI, hro']
        refine mem_done (c' := c') hF hd hs ?_ (h.newBox g hbok) (hfr.newBox g) (u := .slice (some ⟨blk, base, none⟩) (List.length xs + List.length ys) cap) ?_
        · rw [e2 hr]
          rfl
        · simp only [AVR, SlAt, hI]
          exact ⟨cap, by rw [List.length_append], by rw [List.length_append]; exact hfit, by rw [← hro]; exact hrm⟩
      · exact grow cs h4 (fun w' hw' => by
          rw [hsz]
          refine run_firstCells_row hcl (.inr ⟨blk, base, rfl, ?_⟩)
          intro j v hj
          have := hrd j v hj
          unfold World.cell? at *
          rw [hw']
          exact this) (by omega)
end
end Go.Xr
namespace Go.Xr
open Go
section
variable {F : Fence} {n : Nat} {P : Program} {K : Kit} {o : Oper} {a : Act} {w w' : World} {Qx : Exit → Act → World → Prop} {u : Value}
variable {b : Base} {us : List (Array Value)} {c c' : Cx} {s s' : AS} {Q : Ex → AS → Prop} {T : TypeId} {call : Oper → AV → List AV → AS → Tree}
theorem appendT_sound (hF : HF F) (hK : KitOK P K) (h : St c us s a) (hfr : Fr b c s) {cl : Call} {x y : Operand} {tx : TypeId} (ho : o.op = .call cl) (hc : cl.callee = .builtin .append) (hT : cl.argTypes = #[T, tx]) (hA : cl.args = #[x, y])
    (hs : (appendT K s o T tx (s.ev x) (s.ev y)).sat Q) : o.wpIn F n P a c.w (Abs b us Q) Qx := by
  unfold appendT at hs
  split at hs
  · rename_i t l hel hl
    replace hs := sat_ok hs; obtain ⟨hk, hs⟩ := hs
    obtain ⟨e, htd, hu, hty⟩ := elem_spec hK hel
    split at hs
    · rename_i hlt
      obtain ⟨lt, ys⟩ := l
      cases hlt
      have hx := h.ev x
      split at hs
      · rename_i i hX
        rw [hX] at hx
        split at hs
        · rename_i t' xs hb
          split at hs
          · rename_i ht'
            cases ht'
            obtain ⟨hroom, hs⟩ := hs
            obtain ⟨hm, hbo⟩ := h.bx i _ hb
            have hbo' := hbo
            rcases hbo with ⟨h1, h2⟩ | ⟨blk', base', arr, T', lo, hi, cs, h1, h2, h3, h4, h5, h6⟩
            · have hI : c.I s i = some (.buf .sl lt (List.length xs) none) := by simp [Cx.I, boxI, hb, h1]
              simp only [AVR, SlAt, hI] at hx
              obtain ⟨ad, hx⟩ := hx
              exact app_done hF hK h hfr ho hc hT hA hu hty hl hk (by rw [hx, h2]) hroom (.inl ⟨h2, rfl⟩) hs
            · have hI : c.I s i = some (.buf .sl lt (List.length xs) (some (blk', base', roomOf c.w blk' base'))) := by simp [Cx.I, boxI, hb, h1]
              simp only [AVR, SlAt, hI] at hx
              obtain ⟨cap, hx, hc1, hc2⟩ := hx
              exact app_done hF hK h hfr ho hc hT hA hu hty hl hk hx hroom (.inr ⟨hb, blk', base', h1, rfl, hc1, hc2⟩) hs
          · exact hs.elim
        · exact hs.elim
      · rename_i hX
        rw [hX] at hx
        simp only [AVR] at hx
        obtain ⟨hroom, hs⟩ := hs
        exact app_done (xs := []) hF hK h hfr ho hc hT hA hu hty hl hk hx (by simpa [pRoom, pIAdd, pLen] using hroom) (.inl ⟨rfl, rfl⟩) hs
      · exact hs.elim
    · exact hs.elim
  · exact hs.elim
theorem assignNil_sound (hF : HF F) (hK : KitOK P K) (h : St c us s a) (hfr : Fr b c s) {x : Operand} {t : Ty} (ho : o.op = .assign x) (hX : s.ev x = .nil .sl) {i : Nat} (hs : (retT (s.newBox i (.buf .sl t [])) o (.sl i)).sat Q) : o.wpIn F n P a c.w (Abs b us Q) Qx := by
  have hd : ∀ c, o.op ≠ .defer c := by intro c; rw [ho]; simp
  have hx := h.ev x
  rw [hX] at hx
  simp only [AVR] at hx
  obtain ⟨c', hw, h1, h2, h3, _⟩ := h.nilBuf hfr (i := i) (t := t)
  refine mem_done hF hd hs ?_ h1 h2 h3
  simp only [execOp, ho, hx, hw]
  rfl
theorem boxNil_sound (hF : HF F) (h : St c us s a) (hfr : Fr b c s) {x : Operand} {t : Ty} (ho : o.op = .box T x) (hX : s.ev x = .nil .sl) {i j : Nat} (hs : (retT ((s.newBox j (.buf .sl t [])).newVar i (.sl j)) o (.ptr i [])).sat Q) : o.wpIn F n P a c.w (Abs b us Q) Qx := by
  have hd : ∀ c, o.op ≠ .defer c := by intro c; rw [ho]; simp
  have hx := h.ev x
  rw [hX] at hx
  simp only [AVR] at hx
  obtain ⟨c1, hw1, h1, f1, h3, _⟩ := h.nilBuf hfr (i := j) (t := t)
  have hv := AVR_VarC (v := .sl j) rfl h3
  obtain ⟨c', hw, k1, k2, k3⟩ := h1.newVar f1 (i := i) (d := c1.w.drawn) (T := T) hv
  rw [hw1] at k3 hw
  refine mem_done hF hd hs ?_ k1 k2 k3
  simp only [execOp, ho, Instr.box, Sem.run_bind, run_newVar, Result.andThen_ok, Sem.run_pure, hw, hx]
theorem made_cells (z : Array Value) (hz : 0 < z.size) : ∀ m : Nat, (madeCells z (m * z.size)).toList = (List.replicate m z.toList).flatten
  | 0 => by simp [madeCells, Array.range_zero']
  | m + 1 => by
    have ih := made_cells z hz m
    unfold madeCells at *
    rw [List.replicate_succ', List.flatten_append, ← ih]
    simp only [Array.toList_map, Array.toList_range, Nat.succ_mul]
    rw [List.range_add, List.map_append]
    congr 1
    simp only [List.map_map, List.flatten_cons, List.flatten_nil, List.append_nil]
    apply List.ext_getElem
    · simp
    · intro j h1 h2
      simp only [List.getElem_map, List.getElem_range, Function.comp_apply]
      have hj : j < z.size := by simpa using h2
      have : (m * z.size + j) % z.size = j := by rw [Nat.mul_comm, Nat.mul_add_mod, Nat.mod_eq_of_lt hj]
      rw [this]
      simp [hj]
theorem RepL_same {α : Type} {R : α → List Value → Prop} {x : α} {cs : List Value} (h : R x cs) : ∀ m : Nat, RepL R (List.replicate m x) (List.replicate m cs).flatten
  | 0 => rfl
  | m + 1 => ⟨cs, _, rfl, h, RepL_same h m⟩
theorem zero_elem {e : TypeId} {t : Ty} (hty : tyB P t (.inl e) = true) : ∃ i z, P.info? e = some i ∧ i.zero = some z ∧ i.size = t.size ∧ i.bytes ≤ 16384 ∧ 0 < t.size ∧ z.cells.size = t.size ∧ RepC w (fun _ _ => False) t t.dflt z.cells.toList := by
  obtain ⟨i, z, hi, hs, h0, hby, hz, hzb, _⟩ := infoB_spec (tyB_info hty)
  obtain ⟨c1, e, k⟩ := zeroB_spec (w := w) (E := fun _ _ => False) t _ _ hzb
  rw [List.append_nil] at e
  rw [← e] at k
  exact ⟨i, z, hi, hz, hs, hby, h0, by have := RepC.len t _ _ k; simpa using this, k⟩
theorem RepC.any {E : Bool → Nat → Prop} {t : Ty} {x : t.T} {cs : List Value} (h : RepC w (fun _ _ => False) t x cs) : RepC w E t x cs := h.mono fun b k hk => hk.elim
theorem makeSlice_sound (hF : HF F) (hK : KitOK P K) (h : St c us s a) (hfr : Fr b c s) {l m : Operand} (ho : o.op = .makeSlice T l m) (hs : (opT K call s o).sat Q) : o.wpIn F n P a c.w (Abs b us Q) Qx := by
  have hd : ∀ c, o.op ≠ .defer c := by intro c; rw [ho]; simp
  have hl := h.ev l
  have hm := h.ev m
  unfold opT at hs
  rw [ho] at hs
  simp only at hs
  split at hs
  · rename_i t k x k' y hel hL hM
    obtain ⟨hsz, hs⟩ := hs
    obtain ⟨e, htd, hu, hty⟩ := elem_spec hK hel
    rw [hL] at hl
    rw [hM] at hm
    obtain ⟨e1, k1⟩ := AVR_int.1 hl
    obtain ⟨e2, k2⟩ := AVR_int.1 hm
    obtain ⟨x, rfl⟩ : ∃ z : Int, z = x := ⟨_, rfl⟩
    obtain ⟨y, rfl⟩ : ∃ z : Int, z = y := ⟨_, rfl⟩
    have hsz : 0 ≤ x ∧ x ≤ 4294967296 ∧ x = y := by simpa [pSize] using hsz
    obtain ⟨hx0, hx1, rfl⟩ := hsz
    obtain ⟨i, z, hi, hz, his, hby, h0, hzs, hzr⟩ := zero_elem (w := c.w) hty
    have hbytes : (i.bytes : Int) * x ≤ 281474976710656 := by
      have : (i.bytes : Int) ≤ 16384 := by omega
      calc (i.bytes : Int) * x ≤ 16384 * x := Int.mul_le_mul_of_nonneg_right this hx0
        _ ≤ 16384 * 4294967296 := Int.mul_le_mul_of_nonneg_left hx1 (by omega)
        _ ≤ 281474976710656 := by decide
    have hr := run_make (P := P) c.w T e i z hu hi hz k k' x x hx0 (Int.le_refl _) hbytes (by omega)
    have hcells : madeCells z.cells (x.toNat * i.size) = ((List.replicate x.toNat z.cells.toList).flatten ++ []).toArray := by
      apply Array.ext'
      rw [his, ← hzs, made_cells z.cells (by omega)]
      simp
    have hrep : RepL (RepC c.w c.E t) (List.replicate x.toNat t.dflt) (List.replicate x.toNat z.cells.toList).flatten := RepL_same hzr.any _
    have hll : List.length (List.replicate x.toNat t.dflt) = x.toNat := List.length_replicate
    obtain ⟨c', hw, h1, h2, h3⟩ := h.newBuf hfr (i := siteT s o) (d := c.w.drawn) (T := e) (lo := 0) (hi := 0) (xs := List.replicate x.toNat t.dflt) (cs := (List.replicate x.toNat z.cells.toList).flatten) (rest := []) (cap := x.toNat)
      (by rw [hll]; unfold maxL; omega) hrep (.inr rfl) (by rw [hll]; exact Nat.le_refl _) (by
        rw [List.append_nil, RepL.len (RepC.len t) _ _ hrep, hll]
        exact Nat.le_refl _)
    rw [hll] at h3
    refine mem_done hF hd hs ?_ h1 h2 h3
    simp only [execOp, ho, e1, e2, Sem.run_bind, hr, Result.andThen_ok, Sem.run_pure, hw, hcells]
    rfl
  · exact hs.elim
theorem wrap64_nat {n : Nat} (h : n ≤ 4294967296) : IntKind.i64.wrap (n : Int) = (n : Int) := by
  simp [IntKind.wrap, IntKind.bits, IntKind.signed]
  omega
theorem next_zero {m : Nat} : Builtin.nextslicecap m 0 = m := by
  unfold Builtin.nextslicecap
  split
  · rfl
  · simp
    omega
theorem run_append_make0 {tx ty e : TypeId} {i : TypeInfo} (ht : P.underlying T = some (.slice e)) (hx : P.underlying tx = some (.int .i64)) (hi : P.info? e = some i) :
    (Builtin.append_ #[T, tx] ty #[.slice none 0 0, .int .i64 ((0 : Nat) : Int)]).run P w = .ok (.slice none 0 0) w := by
  have hw : IntKind.i64.wrap 0 = 0 := by decide
  simp [Builtin.append_, run_underlying ht, run_underlying hx, sizeOf, typeInfo, hi, asInt, asIntOf, hw]
theorem run_append_make {tx ty e : TypeId} {i : TypeInfo} {z : Value} (ht : P.underlying T = some (.slice e)) (hx : P.underlying tx = some (.int .i64)) (hi : P.info? e = some i) (hz : i.zero = some z) {n : Nat} (h0 : 0 < n) (h1 : n ≤ 4294967296) (hs : 0 < i.size) (hb : i.bytes ≤ 16384) :
    (Builtin.append_ #[T, tx] ty #[.slice none 0 0, .int .i64 (n : Int)]).run P w = .ok (.slice (some ⟨w.heap.size, 0, none⟩) n (grownCap w n 0 e))
      (w.drew.alloc (.cells (Builtin.zeroCells z.cells n ++ Builtin.zeroCells z.cells (grownCap w n 0 e - n)) e)) := by
  have hw := wrap64_nat h1
  have hf : n * i.bytes ≤ 140737488355328 := fits_of (by omega) hb
  have n1 : ¬ ((n : Int) < 0) := by omega
  have n2 : ¬ ((281474976710656 : Int) < (n : Int) * (i.bytes : Int)) := by omega
  have n3 : ¬ (n = 0) := by omega
  have n4 : ¬ (n * i.size = 0) := by have := Nat.mul_pos h0 hs; omega
  have n5 : ¬ ((9223372036854775807 : Int) < (n : Int)) := by omega
  have n6 : ¬ (281474976710656 < n * i.bytes) := by omega
  have n7 : ¬ (i.size = 0) := by omega
  simp [Builtin.append_, run_underlying ht, run_underlying hx, sizeOf, typeInfo, hi, zeroValue, hz, asInt, asIntOf, hw, n1, n2, n3, n4, n5, n6, n7, next_zero, Builtin.firstCells, grownCap, newRow, Question.forced]
theorem appMake_sound (hF : HF F) (hK : KitOK P K) (h : St c us s a) (hfr : Fr b c s) {cl : Call} {x y : Operand} {tx : TypeId} (ho : o.op = .call cl) (hc : cl.callee = .builtin .append) (hT : cl.argTypes = #[T, tx]) (hA : cl.args = #[x, y])
    {m : PI} (hX : s.ev x = .nil .sl) (hY : s.ev y = .pv (.int .i64) m) (hs : (appMakeT K s o T tx m).sat Q) : o.wpIn F n P a c.w (Abs b us Q) Qx := by
  have hd : ∀ c, o.op ≠ .defer c := by intro c; rw [ho]; simp
  have hx := h.ev x
  have hy := h.ev y
  rw [hX] at hx
  rw [hY] at hy
  simp only [AVR] at hx
  obtain ⟨e2, k2⟩ := AVR_int.1 hy
  obtain ⟨m, rfl⟩ : ∃ z : Int, z = m := ⟨_, rfl⟩
  unfold appMakeT at hs
  split at hs
  · rename_i t hel
    replace hs := sat_ok hs; obtain ⟨hk, hsz, hs⟩ := hs
    obtain ⟨e, htd, hu, hty⟩ := elem_spec hK hel
    have htx : P.underlying tx = some (.int .i64) := by
      split at hk
      · rename_i q; exact tyB_int (td_pure hK q).1
      · cases hk
    have hsz : 0 ≤ m ∧ m ≤ 4294967296 ∧ m = m := by simpa [pSize] using hsz
    obtain ⟨hm0, hm1, _⟩ := hsz
    obtain ⟨k, rfl⟩ : ∃ k : Nat, m = (k : Int) := ⟨m.toNat, by omega⟩
    obtain ⟨cs0, he⟩ := builtin_run (P := P) (w := c.w) (a := a) ho hc
    have e3 : ∀ {v w1}, (Builtin.append_ #[T, tx] o.type #[a.eval x, a.eval y]).run P c.w = .ok v w1 → (execOp a.eval o).run P c.w = .ok (.value v) w1 := by
      intro v w1 hv
      rw [he, hT, hA]
      simp only [builtin, Array.map_push, List.map_toArray, List.map_cons, List.map_nil, Sem.run_bind, hv, Result.andThen_ok, Sem.run_pure]
    rw [hx, e2] at e3
    obtain ⟨i, z, hi, hz, his, hby, h0, hzs, hzr⟩ := zero_elem (w := c.w) hty
    by_cases hk0 : k = 0
    · subst hk0
      obtain ⟨c', hw, h1, h2, h3, _⟩ := h.nilBuf hfr (i := siteT s o) (t := t)
      refine mem_done hF hd hs ?_ h1 h2 h3
      rw [e3 (run_append_make0 hu htx hi), hw]
    · have hr := run_append_make (P := P) (w := c.w) (ty := o.type) hu htx hi hz (n := k) (by omega) (by omega) (by omega) hby
      have hge := grownCap_ge c.w k 0 e
      have hcells : ∀ q : Nat, (Builtin.zeroCells z.cells q).toList = (List.replicate q z.cells.toList).flatten := fun q => made_cells z.cells (by omega) q
      have hrep : RepL (RepC c.w c.E t) (List.replicate k t.dflt) (List.replicate k z.cells.toList).flatten := RepL_same hzr.any _
      have hll : List.length (List.replicate k t.dflt) = k := List.length_replicate
      have hfl : ∀ q : Nat, ((List.replicate q z.cells.toList).flatten).length = q * t.size := by intro q; simp [hzs]
      obtain ⟨c', hw, h1, h2, h3⟩ := h.newBuf hfr (i := siteT s o) (d := c.w.drawn + 1) (T := e) (lo := 0) (hi := 0) (xs := List.replicate k t.dflt) (cs := (List.replicate k z.cells.toList).flatten) (rest := (Builtin.zeroCells z.cells (grownCap c.w k 0 e - k)).toList) (cap := grownCap c.w k 0 e)
        (by rw [hll]; unfold maxL; omega) hrep (.inr rfl) (by rw [hll]; exact hge) (by
          rw [List.length_append, hcells, hfl, hfl, ← Nat.add_mul]
          exact Nat.mul_le_mul_right _ (by omega))
      rw [hll] at h3
      refine mem_done hF hd hs ?_ h1 h2 h3
      rw [e3 hr, hw]
      congr 1
      have harr : Builtin.zeroCells z.cells k ++ Builtin.zeroCells z.cells (grownCap c.w k 0 e - k) = ((List.replicate k z.cells.toList).flatten ++ (Builtin.zeroCells z.cells (grownCap c.w k 0 e - k)).toList).toArray := by
        apply Array.ext'
        rw [Array.toList_append, hcells k]
      rw [harr]
      rfl
  · exact hs.elim
theorem capNil_sound (hF : HF F) (hK : KitOK P K) (h : St c us s a) (hfr : Fr b c s) {cl : Call} {x : Operand} (ho : o.op = .call cl) (hc : cl.callee = .builtin .cap) (hT : cl.argTypes = #[T]) (hA : cl.args = #[x])
    (hX : s.ev x = .nil .sl) (hs : (okT (match K.td T with | .slice _ => true | _ => false) (retT s o (.pv (.int .i64) (pI 0)))).sat Q) : o.wpIn F n P a c.w (Abs b us Q) Qx := by
  have hd : ∀ c, o.op ≠ .defer c := by intro c; rw [ho]; simp
  have hx := h.ev x
  rw [hX] at hx
  simp only [AVR] at hx
  obtain ⟨hk, hs⟩ := sat_ok hs
  obtain ⟨e, hu⟩ := isSlice_of hK hk
  have e2 : ∀ w', (execOp a.eval o).run P w' = (do let v ← Builtin.cap_ #[T] o.type #[a.eval x]; pure (Next.value v) : Sem Next).run P w' := by
    intro w'
    obtain ⟨cs, he⟩ := builtin_run (P := P) (w := w') (a := a) ho hc
    rw [he, hT, hA]; simp [builtin]
  refine (val_done hF hd h hfr hs (u := .int .i64 0) ?_ (AVR_int.2 ⟨rfl, by constructor <;> simp [pI, IntKind.min, IntKind.max, IntKind.signed, IntKind.bits]⟩)).1
  intro w'
  rw [e2, hx]
  simp [Builtin.cap_, underlying_of hu, goInt]
end
end Go.Xr
namespace Go.Xr
open Go
section
variable {F : Fence} {n : Nat} {P : Program} {K : Kit} {o : Oper} {a : Act} {w w' : World} {Qx : Exit → Act → World → Prop} {u : Value}
variable {b : Base} {us : List (Array Value)} {c c' : Cx} {s s' : AS} {Q : Ex → AS → Prop} {T : TypeId} {call : Oper → AV → List AV → AS → Tree}
variable {E : Bool → Nat → Prop} {I : Nat → Option BI}
theorem set_run {off : Nat} : ∀ (d : List Value) (k : Nat) (pre c1 post : List Value), c1.length = d.length → pre.length = off + k →
    (d.zipIdx k).foldl (fun (cs : Array Value) (x : Value × Nat) => cs.setIfInBounds (off + x.2) x.1) (pre ++ c1 ++ post).toArray = (pre ++ d ++ post).toArray
  | [], k, pre, c1, post, h, _ => by
    have : c1 = [] := List.eq_nil_of_length_eq_zero h
    subst this
    rfl
  | v :: d, k, pre, x :: c1, post, h, hp => by
    simp only [List.zipIdx_cons, List.foldl_cons]
    have e : (pre ++ x :: c1 ++ post).toArray.setIfInBounds (off + k) v = ((pre ++ [v]) ++ c1 ++ post).toArray := by
      apply Array.ext'
      simp only [Array.toList_setIfInBounds]
      rw [← hp]
      simp
    rw [e, set_run d (k + 1) (pre ++ [v]) c1 post (by simpa using h) (by simp; omega)]
    simp
theorem fill_step {place : Nat → Option (Nat × Nat)} {i off size : Nat} {v : Value} {rest : List (Nat × Value)} {pre c1 post : List Value} (hp : place i = some (off, size)) (h1 : pre.length = off) (h2 : c1.length = size) (h3 : v.cells.size = size) :
    Instr.fill place (pre ++ c1 ++ post).toArray ((i, v) :: rest) = Instr.fill place (pre ++ v.cells.toList ++ post).toArray rest := by
  have e : v.cells.zipIdx.foldl (fun cs x => cs.setIfInBounds (off + x.2) x.1) (pre ++ c1 ++ post).toArray = (pre ++ v.cells.toList ++ post).toArray := by
    rw [← Array.foldl_toList]
    have : v.cells.zipIdx.toList = v.cells.toList.zipIdx := by simp
    rw [this]
    exact set_run v.cells.toList 0 pre c1 post (by rw [h2, ← h3]; simp) (by rw [h1]; rfl)
  have hn : ¬ (v.cells.size ≠ size ∨ off + v.cells.size > (pre ++ c1 ++ post).toArray.size) := by
    rw [h3]
    simp
    omega
  simp only [Instr.fill, hp]
  rw [if_neg (by simpa using hn)]
  rw [e]
theorem take_set_csz : ∀ (l : List AV) (i j : Nat) (v u : AV), nth l i = some v → u.csz = v.csz → cszL ((l.set i u).take j) = cszL (l.take j)
  | [], i, j, v, u, h, _ => by cases h
  | x :: l, 0, 0, v, u, h, e => by simp
  | x :: l, 0, j + 1, v, u, h, e => by
    simp only [nth, Option.some.injEq] at h
    subst h
    simp [cszL, e]
  | x :: l, i + 1, 0, v, u, h, e => by simp
  | x :: l, i + 1, j + 1, v, u, h, e => by
    have := take_set_csz l i j v u (by simpa [nth] using h) e
    simp [cszL, this]
theorem AVCL_set : ∀ (l : List AV) (cs d : List Value) (i : Nat) (v u : AV), AVCL w E I l cs → nth l i = some v → AVC1 w E I u d → ∃ pre c1 post, cs = pre ++ c1 ++ post ∧ pre.length = cszL (l.take i) ∧ c1.length = v.csz ∧ AVCL w E I (l.set i u) (pre ++ d ++ post)
  | x :: l, cs, d, 0, v, u, h, hn, hu => by
    obtain ⟨c1, c2, e, h1, h2⟩ := AVCL_cons.1 h
    simp only [nth, Option.some.injEq] at hn
    subst hn
    exact ⟨[], c1, c2, by simpa using e, rfl, h1.len, AVCL_cons.2 ⟨d, c2, by simp, hu, h2⟩⟩
  | x :: l, cs, d, i + 1, v, u, h, hn, hu => by
    obtain ⟨c1, c2, e, h1, h2⟩ := AVCL_cons.1 h
    obtain ⟨pre, c3, post, e2, k1, k2, k3⟩ := AVCL_set l c2 d i v u h2 (by simpa [nth] using hn) hu
    refine ⟨c1 ++ pre, c3, post, by rw [e, e2]; simp, ?_, k2, AVCL_cons.2 ⟨c1, pre ++ d ++ post, by simp, h1, k3⟩⟩
    rw [List.length_append, h1.len, k1]
    rfl
  | [], cs, d, i, v, u, h, hn, hu => by cases i <;> cases hn
theorem fits_spec {v x : AV} (h : AV.fits v x = true) : x.csz = v.csz ∧ x.sz.isSome = true ∧ (∀ {d}, VarC w E I x d → AVC1 w E I x d) := by
  unfold AV.fits at h
  split at h <;> first | (cases h; done) | skip
  rename_i h1 h2 h3 h4 h5
  refine ⟨Nat.eq_of_beq_eq_true h, ?_, ?_⟩
  · cases x <;> first | rfl | (exact (h1 rfl).elim) | (exact (h3 _ rfl).elim) | (exact (h4 _ rfl).elim)
  · intro d hd
    cases x <;> first | exact hd | (exact (h1 rfl).elim) | (exact (h2 _ rfl).elim)
theorem asP_avr {old v : AV} {u : Value} (h : AVR w E I v u) : AVR w E I (asP old v) u := by
  unfold asP
  split
  · simp only [AVR] at h ⊢
    refine ⟨[.slice none 0 0], ⟨none, 0, rfl, Nat.le_refl _, Nat.zero_le _, .inl rfl⟩, ?_⟩
    rw [h]
    rfl
  · exact h
theorem fill_spec (h : St c us s a) {place : Nat → Option (Nat × Nat)} : ∀ (ps : List (Nat × Operand)) (l l' : List AV) (cs : List Value), AVCL c.w c.E (c.I s) l cs → partsL s l ps = some l' →
    (∀ i v, nth l i = some v → place i = some (cszL (l.take i), v.csz)) →
    ∃ cs', Instr.fill place cs.toArray (ps.map fun x => (x.1, a.eval x.2)) = some cs'.toArray ∧ AVCL c.w c.E (c.I s) l' cs'
  | [], l, l', cs, hl, hp, _ => by
    simp only [partsL, Option.some.injEq] at hp
    subst hp
    exact ⟨cs, rfl, hl⟩
  | (i, x) :: ps, l, l', cs, hl, hp, hpl => by
    simp only [partsL] at hp
    split at hp
    · rename_i v hv
      cases hf : AV.fits v (asP v (s.ev x)) with
      | false => rw [hf] at hp; cases hp
      | true =>
        rw [hf] at hp
        simp only [cond_true] at hp
        obtain ⟨f1, f2, f3⟩ := fits_spec (w := c.w) (E := c.E) (I := c.I s) hf
        have hx := f3 (AVR_VarC f2 (asP_avr (h.ev x)))
        obtain ⟨pre, c1, post, e, k1, k2, k3⟩ := AVCL_set l cs _ i v (asP v (s.ev x)) hl hv hx
        have hsz : (a.eval x).cells.size = v.csz := by have := hx.len; simp at this; rw [this, f1]
        have ih := fill_spec (place := place) h ps (l.set i (asP v (s.ev x))) l' _ k3 hp (fun j z hj => by
          rw [take_set_csz l i j v _ hv f1]
          rw [nth_set] at hj
          split at hj
          · rename_i e
            subst e
            rw [hv] at hj
            cases hj
            rw [hpl i v hv, f1]
          · exact hpl j z hj)
        obtain ⟨cs', j1, j2⟩ := ih
        refine ⟨cs', ?_, j2⟩
        rw [List.map_cons, e]
        have := fill_step (rest := ps.map fun x => (x.1, a.eval x.2)) (post := post) (hpl i v hv) k1 k2 hsz
        rw [this]
        exact j1
    · cases hp
theorem toPV_rep {v : AV} {p : PV} {d : List Value} (hp : s.toPV v = some p) (h : AVC1 w E I v d) : RepC w E p.t p.x d := by
  cases v <;> simp only [AS.toPV] at hp <;> cases hp
  · exact h
  · simp only [AVC1, partC] at h
    obtain ⟨u, rfl, _, hu⟩ := h
    rw [AVR_lit] at hu
    rw [hu]
    rfl
theorem rowOf_spec {t : Ty} : ∀ (l : List AV) (cs : List Value) (xs : List t.T), AVCL w E I l cs → rowOf s t l = some xs → RepL (RepC w E t) xs cs
  | [], cs, xs, h, hr => by
    simp only [rowOf, Option.some.injEq] at hr
    subst hr
    exact AVCL_nil.1 h
  | v :: l, cs, xs, h, hr => by
    obtain ⟨c1, c2, e, h1, h2⟩ := AVCL_cons.1 h
    simp only [rowOf] at hr
    split at hr
    · rename_i p hp
      split at hr
      · rename_i x q hx hq
        cases hr
        cases as_eq hx
        exact ⟨c1, c2, e, toPV_rep hp h1, rowOf_spec l c2 q h2 hq⟩
      · cases hr
    · cases hr
theorem fieldsOf_spec : ∀ (t : Ty) (l : List AV) (cs : List Value) (x : t.T), AVCL w E I l cs → fieldsOf s t l = some x → RepC w E t x cs := by
  intro t
  have one : ∀ (v : AV) (cs : List Value) (x : t.T), AVCL w E I [v] cs → (match s.toPV v with | some p => p.as t | none => none) = some x → RepC w E t x cs := by
    intro v cs x h hr
    obtain ⟨c1, c2, e, h1, h2⟩ := AVCL_cons.1 h
    cases AVCL_nil.1 h2
    rw [List.append_nil] at e
    subst e
    split at hr
    · rename_i p hp
      cases as_eq hr
      exact toPV_rep hp h1
    · cases hr
  induction t with
  | pair a b iha ihb =>
    intro l cs x h hr
    match l, h, hr with
    | v :: r, h, hr =>
      obtain ⟨c1, c2, e, h1, h2⟩ := AVCL_cons.1 h
      simp only [fieldsOf] at hr
      split at hr
      · rename_i p hp
        split at hr
        · rename_i y z hy hz
          cases hr
          cases as_eq hy
          refine ⟨c1, c2, e, toPV_rep hp h1, ihb ?_ r c2 z h2 hz⟩
          intro v cs x h hr
          obtain ⟨d1, d2, e, h1, h2⟩ := AVCL_cons.1 h
          cases AVCL_nil.1 h2
          rw [List.append_nil] at e
          subst e
          split at hr
          · rename_i p hp
            cases as_eq hr
            exact toPV_rep hp h1
          · cases hr
        · cases hr
      · cases hr
    | [], h, hr => simp [fieldsOf] at hr
  | _ =>
    intro l cs x h hr
    match l, h, hr with
    | [v], h, hr => exact one v cs x h (by unfold fieldsOf at hr; exact hr)
    | [], h, hr => simp [fieldsOf] at hr
    | _ :: _ :: _, h, hr => simp [fieldsOf] at hr
theorem rep_fields : ∀ (t : Ty) (cs : List Value), RepC w E t t.dflt cs → AVCL w E I (zeroFields t) cs
  | .pair a b, cs, ⟨c1, c2, e, h1, h2⟩ => AVCL_cons.2 ⟨c1, c2, e, h1, rep_fields b c2 h2⟩
  | .unit, cs, h => AVCL_nil.2 h
  | .int k, cs, h => AVCL_cons.2 ⟨cs, [], by simp, h, AVCL_nil.2 rfl⟩
  | .bool, cs, h => AVCL_cons.2 ⟨cs, [], by simp, h, AVCL_nil.2 rfl⟩
  | .str, cs, h => AVCL_cons.2 ⟨cs, [], by simp, h, AVCL_nil.2 rfl⟩
  | .st t, cs, h => AVCL_cons.2 ⟨cs, [], by simp, h, AVCL_nil.2 rfl⟩
  | .arr n t, cs, h => AVCL_cons.2 ⟨cs, [], by simp, h, AVCL_nil.2 rfl⟩
  | .sl b t, cs, h => AVCL_cons.2 ⟨cs, [], by simp, h, AVCL_nil.2 rfl⟩
theorem rep_row {t : Ty} : ∀ (m : Nat) (cs : List Value), RepL (RepC w E t) (List.replicate m t.dflt) cs → AVCL w E I (repL (.pv t t.dflt) m) cs
  | 0, cs, h => AVCL_nil.2 h
  | m + 1, cs, ⟨c1, c2, e, h1, h2⟩ => AVCL_cons.2 ⟨c1, c2, e, h1, rep_row m c2 h2⟩
theorem repL_place {t : Ty} : ∀ (m i : Nat) (v : AV), nth (repL (.pv t t.dflt) m) i = some v → cszL ((repL (.pv t t.dflt) m).take i) = i * t.size ∧ v.csz = t.size
  | m + 1, 0, v, h => by simp only [repL, nth, Option.some.injEq] at h; subst h; simp [cszL, AV.csz]
  | m + 1, i + 1, v, h => by
    obtain ⟨k1, k2⟩ := repL_place m i v (by simpa [repL, nth] using h)
    refine ⟨?_, k2⟩
    simp only [repL, List.take_succ_cons, cszL, k1, AV.csz, Nat.succ_mul]
    exact Nat.add_comm _ _
  | 0, i, v, h => by cases h
end
end Go.Xr
namespace Go.Xr
open Go
section
variable {F : Fence} {n : Nat} {P : Program} {K : Kit} {o : Oper} {a : Act} {w w' : World} {Qx : Exit → Act → World → Prop} {u : Value}
variable {b : Base} {us : List (Array Value)} {c c' : Cx} {s s' : AS} {Q : Ex → AS → Prop} {T : TypeId} {call : Oper → AV → List AV → AS → Tree}
variable {E : Bool → Nat → Prop} {I : Nat → Option BI}
def placesOf (P : Program) (fs : List Field) : Option (List (Nat × Nat)) := fs.mapM (fun f => (P.info? f.type).map fun i => (f.offset, i.size))
theorem placesOf_cons {f : Field} {fs : List Field} {i : TypeInfo} {r : List (Nat × Nat)} (hi : P.info? f.type = some i) (hr : placesOf P fs = some r) : placesOf P (f :: fs) = some ((f.offset, i.size) :: r) := by
  unfold placesOf at *
  simp [List.mapM_cons, hi, hr]
theorem places_pure : ∀ (t : Ty) (fs : List Field) (off : Nat), tyB P t (.inr (fs, off)) = true → ∃ r, placesOf P fs = some r ∧ ∀ i v, nth (zeroFields t) i = some v → r[i]? = some (off + cszL ((zeroFields t).take i), v.csz) := by
  intro t
  have single : ∀ {fs : List Field} {off : Nat} {t : Ty}, (∀ T, (∃ R : TypeId → Bool, R T = true ∧ (∀ T, R T = true → tyB P t (.inl T) = true) ∧ oneB P (.inr (fs, off)) R = true) → True) → True := fun _ => trivial
  have base : ∀ (fs : List Field) (off : Nat), zeroFields t = [.pv t t.dflt] → (∃ f, fs = [f] ∧ f.offset = off ∧ tyB P t (.inl f.type) = true) → ∃ r, placesOf P fs = some r ∧ ∀ i v, nth (zeroFields t) i = some v → r[i]? = some (off + cszL ((zeroFields t).take i), v.csz) := by
    intro fs off hz ⟨f, hf, ho, hty⟩
    obtain ⟨i, hi, hsz, _⟩ := tyB_size hty
    subst hf
    refine ⟨_, placesOf_cons hi (show placesOf P [] = some [] from rfl), ?_⟩
    intro k v hk
    rw [hz] at hk ⊢
    match k, hk with
    | 0, hk =>
      simp only [nth, Option.some.injEq] at hk
      subst hk
      simp [cszL, ho, AV.csz, hsz]
    | k + 1, hk => cases hk
  have one : ∀ {R : TypeId → Bool} {fs : List Field} {off : Nat}, oneB P (.inr (fs, off)) R = true → ∃ f, fs = [f] ∧ f.offset = off ∧ R f.type = true := by
    intro R fs off hR
    match fs, hR with
    | [f], hR =>
      simp only [oneB, Bool.and_eq_true, Bool.not_eq_true'] at hR
      exact ⟨f, rfl, Nat.eq_of_beq_eq_true hR.1.1, hR.2⟩
  induction t with
  | pair x y ihx ihy =>
    intro fs off hT
    match fs, hT with
    | f :: fs, hT =>
      simp only [tyB, Bool.and_eq_true, Bool.not_eq_true'] at hT
      obtain ⟨⟨⟨ho, hn⟩, hta⟩, htb⟩ := hT
      have ho := Nat.eq_of_beq_eq_true ho
      obtain ⟨i, hi, hsz, _⟩ := tyB_size hta
      have by' : ∀ (fs : List Field) (off : Nat), zeroFields y = [.pv y y.dflt] → (∃ f, fs = [f] ∧ f.offset = off ∧ tyB P y (.inl f.type) = true) → ∃ r, placesOf P fs = some r ∧ ∀ i v, nth (zeroFields y) i = some v → r[i]? = some (off + cszL ((zeroFields y).take i), v.csz) := by
        intro fs off hz ⟨f, hf, ho, hty⟩
        obtain ⟨i, hi, hsz, _⟩ := tyB_size hty
        subst hf
        refine ⟨_, placesOf_cons hi (show placesOf P [] = some [] from rfl), ?_⟩
        intro k v hk
        rw [hz] at hk ⊢
        match k, hk with
        | 0, hk =>
          simp only [nth, Option.some.injEq] at hk
          subst hk
          simp [cszL, ho, AV.csz, hsz]
        | k + 1, hk => cases hk
      obtain ⟨r, h1, h2⟩ := ihy by' fs _ htb
      refine ⟨_, placesOf_cons hi h1, ?_⟩
      intro k v hk
      match k, hk with
      | 0, hk =>
        simp only [zeroFields, nth, Option.some.injEq] at hk
        subst hk
        simp [cszL, ho, AV.csz, hsz]
      | k + 1, hk =>
        have := h2 k v (by simpa [zeroFields, nth] using hk)
        simp only [List.getElem?_cons_succ, this, zeroFields, List.take_succ_cons, cszL, AV.csz]
        congr 2
        exact Nat.add_assoc _ _ _
  | unit =>
    intro fs off hT
    match fs, hT with
    | [], _ => exact ⟨[], rfl, fun i v h => by cases h⟩
  | int k => intro fs off hT; obtain ⟨f, e1, e2, e3⟩ := one hT; exact base fs off rfl ⟨f, e1, e2, e3⟩
  | bool => intro fs off hT; obtain ⟨f, e1, e2, e3⟩ := one hT; exact base fs off rfl ⟨f, e1, e2, e3⟩
  | str => intro fs off hT; obtain ⟨f, e1, e2, e3⟩ := one hT; exact base fs off rfl ⟨f, e1, e2, e3⟩
  | st t ih => intro fs off hT; obtain ⟨f, e1, e2, e3⟩ := one hT; exact base fs off rfl ⟨f, e1, e2, e3⟩
  | arr m t ih => intro fs off hT; obtain ⟨f, e1, e2, e3⟩ := one hT; exact base fs off rfl ⟨f, e1, e2, e3⟩
  | sl x t ih => intro fs off hT; obtain ⟨f, e1, e2, e3⟩ := one hT; exact base fs off rfl ⟨f, e1, e2, e3⟩
theorem zeroA_csz {site : Nat} : (K.zeroA site T).csz = K.sz1 T := by
  unfold Kit.zeroA Kit.sz1
  cases K.td T with
  | slice e => simp only; split <;> rfl
  | _ => rfl
theorem places_struct : ∀ (fields : List Field) (fs : List TypeId) (site off : Nat), fieldsB P K fields fs off = true → ∃ r, placesOf P fields = some r ∧ ∀ i v, nth (K.zerosA site fs) i = some v → r[i]? = some (off + cszL ((K.zerosA site fs).take i), v.csz)
  | [], [], site, off, _ => ⟨[], rfl, fun i v h => by cases h⟩
  | f :: r, T :: q, site, off, h => by
    simp only [fieldsB, Bool.and_eq_true] at h
    obtain ⟨⟨⟨⟨h1, h2⟩, h3⟩, h4⟩, h5⟩ := h
    have h1 := Nat.eq_of_beq_eq_true h1
    split at h4
    · rename_i i hi
      have h4 := Nat.eq_of_beq_eq_true h4
      have h2 := Nat.eq_of_beq_eq_true h2
      rw [← h2] at hi
      obtain ⟨rs, k1, k2⟩ := places_struct r q (Nat.add site 10) _ h5
      refine ⟨_, placesOf_cons hi k1, ?_⟩
      intro k v hk
      match k, hk with
      | 0, hk =>
        simp only [Kit.zerosA, nth, Option.some.injEq] at hk
        subst hk
        simp [cszL, h1, zeroA_csz, h4]
      | k + 1, hk =>
        have := k2 k v (by simpa [Kit.zerosA, nth] using hk)
        simp only [List.getElem?_cons_succ, this, Kit.zerosA, List.take_succ_cons, cszL, zeroA_csz]
        congr 2
        exact Nat.add_assoc _ _ _
    · cases h4
  | [], _ :: _, _, _, h => by simp [fieldsB] at h
  | _ :: _, [], _, _, h => by simp [fieldsB] at h
theorem built_struct {fields : Array Field} {it : TypeInfo} {z : Value} {r : List (Nat × Nat)} {ps : List (Nat × Value)} (hu : P.underlying T = some (.struct fields)) (hi : P.info? T = some it) (hz : it.zero = some z) (hr : placesOf P fields.toList = some r) :
    P.built T ps = Instr.fill (fun i => r[i]?) z.cells ps := by
  unfold placesOf at hr
  unfold Program.built
  simp only [hi, hu, hz, hr]
  congr 1
  funext i
  simp
theorem parts_map {ps : Array (Nat × Operand)} : (ps.map fun x => (x.1, a.eval x.2)).toList = ps.toList.map fun x => (x.1, a.eval x.2) := by simp
theorem build_sound (hF : HF F) (hK : KitOK P K) (h : St c us s a) (hfr : Fr b c s) {ps : Array (Nat × Operand)} (ho : o.op = .build T ps) (hs : (buildT K s o T ps.toList).sat Q) : o.wpIn F n P a c.w (Abs b us Q) Qx := by
  have hd : ∀ c, o.op ≠ .defer c := by intro c; rw [ho]; simp
  have he : ∀ {cells w1}, P.built T (ps.toList.map fun x => (x.1, a.eval x.2)) = some cells → (execOp a.eval o).run P w1 = .ok (.value (.agg cells)) w1 := by
    intro cells w1 hb
    have := run_build (P := P) w1 T (ps.map fun x => (x.1, a.eval x.2)) cells (by rw [parts_map]; exact hb)
    simp only [execOp, ho, Sem.run_bind, this, Result.andThen_ok, Sem.run_pure]
  unfold buildT at hs
  split at hs
  · rename_i t ht
    split at hs
    · rename_i l hl
      split at hs
      · rename_i x hx
        obtain ⟨hT, _⟩ := td_pure hK ht
        obtain ⟨fs, hu, hr, _⟩ := tyB_st hT
        obtain ⟨it, z, hi, _, _, _, hz, hzb, _⟩ := infoB_spec (tyB_info hT)
        obtain ⟨c1, e, k⟩ := zeroB_spec (w := c.w) (E := c.E) _ _ _ hzb
        rw [List.append_nil] at e
        obtain ⟨r, hr1, hr2⟩ := places_pure t fs.toList 0 hr
        have hzc : AVCL c.w c.E (c.I s) (zeroFields t) z.cells.toList := by rw [e]; exact rep_fields t _ k
        obtain ⟨cs', f1, f2⟩ := fill_spec (place := fun i => r[i]?) h ps.toList _ l _ hzc hl (fun i v hv => by rw [hr2 i v hv, Nat.zero_add])
        have hb : P.built T (ps.toList.map fun x => (x.1, a.eval x.2)) = some cs'.toArray := by rw [built_struct hu hi hz hr1]; simpa using f1
        have hrep := fieldsOf_spec (s := s) t l cs' x f2 hx
        exact val_one hF hd h hfr hs (he hb) (by simp only [AVR]; exact ⟨cs', hrep, rfl⟩)
      · exact hs.elim
    · exact hs.elim
  · rename_i m t ht
    split at hs
    · rename_i l hl
      split at hs
      · rename_i x hx
        obtain ⟨hT, _⟩ := td_pure hK ht
        obtain ⟨e0, hu, hr, _⟩ := tyB_arr hT
        obtain ⟨it, z, hi, _, _, _, hz, hzb, _⟩ := infoB_spec (tyB_info hT)
        obtain ⟨c1, e, k⟩ := zeroB_spec (w := c.w) (E := c.E) _ _ _ hzb
        rw [List.append_nil] at e
        obtain ⟨ie, hie, hsz, _⟩ := tyB_size hr
        have hzc : AVCL c.w c.E (c.I s) (repL (.pv t t.dflt) m) z.cells.toList := by rw [e]; exact rep_row m _ k.2
        obtain ⟨cs', f1, f2⟩ := fill_spec (place := fun i => some (i * ie.size, ie.size)) h ps.toList _ l _ hzc hl (fun i v hv => by obtain ⟨q1, q2⟩ := repL_place m i v hv; rw [q1, q2, hsz])
        have hb : P.built T (ps.toList.map fun x => (x.1, a.eval x.2)) = some cs'.toArray := by
          unfold Program.built
          simp only [hi, hu, hz, hie]
          simpa using f1
        have hrep := rowOf_spec (s := s) l cs' x f2 hx
        have hlen : List.length x = m := by
          have h1 := RepL.len (RepC.len t) _ _ hrep
          have : ∀ (l : List AV) (xs : List t.T), rowOf s t l = some xs → xs.length = l.length := by
            intro l
            induction l with
            | nil => intro xs h; simp only [rowOf, Option.some.injEq] at h; subst h; rfl
            | cons v r ih =>
              intro xs h
              simp only [rowOf] at h
              split at h
              · split at h
                · rename_i q hq
                  cases h
                  simp [ih _ hq]
                · cases h
              · cases h
          rw [this l x hx]
          have : ∀ (ps : List (Nat × Operand)) (l l' : List AV), partsL s l ps = some l' → l'.length = l.length := by
            intro ps
            induction ps with
            | nil => intro l l' h; simp only [partsL, Option.some.injEq] at h; rw [h]
            | cons y r ih =>
              intro l l' h
              obtain ⟨i, y⟩ := y
              simp only [partsL] at h
              split at h
              · rename_i v hv
                cases hf : AV.fits v (asP v (s.ev y)) with
                | true => rw [hf] at h; rw [ih _ _ h]; simp
                | false => rw [hf] at h; cases h
              · cases h
          rw [this _ _ _ hl]
          have : ∀ (z : AV) (m : Nat), (repL z m).length = m := by
            intro z m
            induction m with
            | zero => rfl
            | succ m ih => simp [repL, ih]
          exact this _ _
        exact val_one hF hd h hfr hs (he hb) (by simp only [AVR]; exact ⟨cs', ⟨hlen, hrep⟩, rfl⟩)
      · exact hs.elim
    · exact hs.elim
  · rename_i fs ht
    dsimp only at hs
    split at hs
    · rename_i l hl
      obtain ⟨fields, it, hu, hfb, hi, _, z, hz, hzb⟩ := td_struct hK ht
      obtain ⟨c', hw, k1, k2, k3⟩ := zerosS_spec fs (siteT s o) z.toList hzb h hfr
      obtain ⟨r, hr1, hr2⟩ := places_struct fields.toList fs (siteT s o) 0 hfb
      obtain ⟨cs', f1, f2⟩ := fill_spec (place := fun i => r[i]?) k1 ps.toList _ l _ k3 hl (fun i v hv => by rw [hr2 i v hv, Nat.zero_add])
      have hb : P.built T (ps.toList.map fun x => (x.1, a.eval x.2)) = some cs'.toArray := by rw [built_struct hu hi hz hr1]; simpa [Value.cells] using f1
      refine mem_done (c' := c') hF hd hs ?_ k1 k2 (u := .agg cs'.toArray) (by simp only [AVR]; exact ⟨cs', rfl, f2⟩)
      rw [he hb, hw]
    · exact hs.elim
  · exact hs.elim
end
end Go.Xr
namespace Go.Xr
open Go
section
variable {w w' : World} {u : Value} {E : Bool → Nat → Prop} {I : Nat → Option BI}
def Put (cs d cs' : List Value) (o : Nat) : Prop := ∃ pre c1 post, cs = pre ++ c1 ++ post ∧ pre.length = o ∧ c1.length = d.length ∧ cs' = pre ++ d ++ post
theorem Put.all {cs d : List Value} (h : cs.length = d.length) : Put cs d d 0 := ⟨[], cs, [], by simp, rfl, h, by simp⟩
theorem Put.left {c1 c2 d c1' : List Value} {o : Nat} (h : Put c1 d c1' o) : Put (c1 ++ c2) d (c1' ++ c2) o := by
  obtain ⟨pre, x, post, rfl, h1, h2, rfl⟩ := h
  exact ⟨pre, x, post ++ c2, by simp, h1, h2, by simp⟩
theorem Put.right {c1 c2 d c2' : List Value} {o : Nat} (h : Put c2 d c2' o) : Put (c1 ++ c2) d (c1 ++ c2') (c1.length + o) := by
  obtain ⟨pre, x, post, rfl, h1, h2, rfl⟩ := h
  exact ⟨c1 ++ pre, x, post, by simp, by simp [h1], h2, by simp⟩
theorem Put.len {cs d cs' : List Value} {o : Nat} (h : Put cs d cs' o) : cs'.length = cs.length ∧ o + d.length ≤ cs.length := by
  obtain ⟨pre, x, post, rfl, h1, h2, rfl⟩ := h
  simp [h2]
  omega
theorem Put.trans {cs d cs' e e' : List Value} {o o' : Nat} (h : Put cs e' cs' o) (k : Put e d e' o') (hs : Sub e cs o) : Put cs d cs' (o + o') := by
  obtain ⟨pre, x, post, rfl, h1, h2, rfl⟩ := h
  obtain ⟨pre', x', post', rfl, k1, k2, rfl⟩ := k
  obtain ⟨p, q, e, e2⟩ := hs
  have hl : pre.length = p.length := by rw [h1, e2]
  have : x = pre' ++ x' ++ post' := by
    simp only [List.append_assoc] at e
    have e3 := List.append_inj e hl
    have e4 := List.append_inj (s₁ := x) (t₁ := post) (s₂ := pre' ++ (x' ++ post')) (t₂ := q) (by simpa using e3.2) (by simp at h2 ⊢; omega)
    simpa using e4.1
  subst this
  exact ⟨pre ++ pre', x', post' ++ post, by simp, by simp [h1, k1], k2, by simp⟩
theorem RepL.put {α : Type} {R : α → List Value → Prop} {sz : Nat} (hR : ∀ x cs, R x cs → cs.length = sz) : ∀ (xs : List α) (cs : List Value) (i : Nat) (y : α) (d : List Value), i < xs.length → RepL R xs cs → R y d →
    ∃ cs', Put cs d cs' (i * sz) ∧ RepL R (xs.set i y) cs'
  | x :: xs, cs, 0, y, d, _, ⟨c1, c2, e, h1, h2⟩, hy => by
    refine ⟨d ++ c2, ?_, d, c2, rfl, hy, h2⟩
    rw [e, Nat.zero_mul]
    exact (Put.all (by rw [hR _ _ h1, hR _ _ hy])).left
  | x :: xs, cs, i + 1, y, d, hi, ⟨c1, c2, e, h1, h2⟩, hy => by
    obtain ⟨cs', k1, k2⟩ := RepL.put hR xs c2 i y d (by simpa using hi) h2 hy
    refine ⟨c1 ++ cs', ?_, c1, cs', rfl, h1, k2⟩
    rw [e, Nat.succ_mul, Nat.add_comm]
    have := k1.right (c1 := c1)
    rwa [hR _ _ h1] at this
theorem setT_spec : ∀ (t : Ty) (x : t.T) (n : Option Nat) (p : List Stp) (v : PV) (cs d : List Value) (x' : t.T) (o : Nat), RepC w E t x cs → RepC w E v.t v.x d → setT t x n p v = some x' → offT t n p = some o →
    ∃ cs', Put cs d cs' o ∧ RepC w E t x' cs' := by
  intro t x n p v
  induction t, x, n, p, v using setT.induct with
  | case1 a b p v x ih =>
    rintro cs d x' o ⟨c1, c2, e, h1, h2⟩ hv hs ho
    simp only [setT, Option.map_eq_some_iff] at hs
    obtain ⟨y, hs, rfl⟩ := hs
    obtain ⟨c', k1, k2⟩ := ih c1 d y o h1 hv hs (by simpa only [offT] using ho)
    exact ⟨c' ++ c2, by rw [e]; exact k1.left, c', c2, rfl, k2, h2⟩
  | case2 a b n p v x ih =>
    rintro cs d x' o ⟨c1, c2, e, h1, h2⟩ hv hs ho
    simp only [setT, Option.map_eq_some_iff] at hs
    obtain ⟨y, hs, rfl⟩ := hs
    simp only [offT, Option.map_eq_some_iff] at ho
    obtain ⟨o', ho, rfl⟩ := ho
    obtain ⟨c', k1, k2⟩ := ih c2 d y o' h2 hv hs ho
    refine ⟨c1 ++ c', ?_, c1, c', rfl, h1, k2⟩
    rw [e, ← RepC.len a _ _ h1]
    exact k1.right
  | case3 t v x =>
    intro cs d x' o h hv hs ho
    have hs : v.as t = some x' := by simpa only [setT] using hs
    have ho : 0 = o := by rw [offT_nil] at ho; simpa using ho
    subst ho
    cases as_eq hs
    exact ⟨d, Put.all (by rw [RepC.len t _ _ h, RepC.len t _ _ hv]), hv⟩
  | case4 t v x h1 =>
    intro cs d x' o h hv hs ho
    have hp : ∀ a b, t = .pair a b → False := fun a b e => by subst e; exact h1 a b x rfl HEq.rfl
    have hs : v.as t = some x' := by
      cases t <;> first | exact (hp _ _ rfl).elim | exact hs
    have ho : 0 = o := by
      cases t <;> first | exact (hp _ _ rfl).elim | (simp only [offT, Option.some.injEq] at ho; exact ho)
    subst ho
    cases as_eq hs
    exact ⟨d, Put.all (by rw [RepC.len t _ _ h, RepC.len t _ _ hv]), hv⟩
  | case5 a n p v x ih =>
    intro cs d x' o h hv hs ho
    simp only [setT, offT] at hs ho
    exact ih cs d x' o h hv hs ho
  | case6 a n p v x ih =>
    intro cs d x' o h hv hs ho
    simp only [setT, offT] at hs ho
    exact ih cs d x' o h hv hs ho
  | case7 m a i p v x ih =>
    rintro cs d x' o ⟨hl, h⟩ hv hs ho
    simp only [setT, Option.map_eq_some_iff] at hs
    obtain ⟨y, hs, rfl⟩ := hs
    simp only [offT] at ho
    split at ho
    · rename_i hi
      simp only [Option.map_eq_some_iff] at ho
      obtain ⟨o', ho2, rfl⟩ := ho
      have hlt : Int.toNat i < List.length x := by rw [hl]; exact toNat_lt' hi
      obtain ⟨c1, j1, j2⟩ := RepL.sub (RepC.len a) x cs (Int.toNat i) a.dflt hlt h
      obtain ⟨c1', k1, k2⟩ := ih c1 d y o' j2 hv hs ho2
      obtain ⟨cs', g1, g2⟩ := RepL.put (RepC.len a) x cs (Int.toNat i) y c1' hlt h k2
      exact ⟨cs', g1.trans k1 j1, by simp only [pSet, List.length_set]; exact hl, g2⟩
    · cases ho
  | case8 m a i p v x ih =>
    rintro cs d x' o ⟨hl, h⟩ hv hs ho
    simp only [setT, Option.map_eq_some_iff] at hs
    obtain ⟨y, hs, rfl⟩ := hs
    simp only [offT] at ho
    split at ho
    · rename_i hi
      simp only [Option.map_eq_some_iff] at ho
      obtain ⟨o', ho2, rfl⟩ := ho
      have hlt : Int.toNat i < List.length x := by rw [hl]; exact toNat_lt' hi
      obtain ⟨c1, j1, j2⟩ := RepL.sub (RepC.len a) x cs (Int.toNat i) a.dflt hlt h
      obtain ⟨c1', k1, k2⟩ := ih c1 d y o' j2 hv hs ho2
      obtain ⟨cs', g1, g2⟩ := RepL.put (RepC.len a) x cs (Int.toNat i) y c1' hlt h k2
      exact ⟨cs', g1.trans k1 j1, by simp only [pSet, List.length_set]; exact hl, g2⟩
    · cases ho
  | case9 t n p v h1 h2 x h3 h4 h5 h6 h7 h8 =>
    intro cs d x' o h hv hs ho
    rw [setT.eq_9 _ _ _ _ _ h3 h4 h1 h2 h5 h6 h7 h8] at hs
    cases hs
theorem getT_ty : ∀ (t : Ty) (x y : t.T) (n : Option Nat) (p : List Stp) (u : Ty) (z : u.T), getT t x n p = .pv u z → ∃ z', getT t y n p = .pv u z' := by
  intro t x y n p
  induction t, x, n, p using getT.induct with
  | case1 a b p x ih => intro u z h; simp only [getT] at h ⊢; exact ih (pFst y) u z h
  | case2 a b n p x ih => intro u z h; simp only [getT] at h ⊢; exact ih (pSnd y) u z h
  | case3 t x => intro u z h; simp only [getT] at h ⊢; cases h; exact ⟨y, rfl⟩
  | case4 t x h1 =>
    have hp : ∀ a b, t = .pair a b → False := fun a b e => by subst e; exact h1 a b x rfl HEq.rfl
    intro u z h
    cases t <;> first | exact (hp _ _ rfl).elim | (cases h; exact ⟨y, rfl⟩)
  | case5 a n p x ih => intro u z h; simp only [getT] at h ⊢; exact ih y u z h
  | case6 a n p x ih => intro u z h; simp only [getT] at h ⊢; exact ih y u z h
  | case7 m a i p x ih => intro u z h; simp only [getT] at h ⊢; exact ih _ u z h
  | case8 m a i p x ih => intro u z h; simp only [getT] at h ⊢; exact ih _ u z h
  | case9 t n p h1 h2 x h3 h4 h5 h6 h7 h8 =>
    intro u z h
    rw [getT.eq_9 _ _ _ _ h3 h4 h1 h2 h5 h6 h7 h8] at h
    cases h
def SameOff (v v' : AV) : Prop := ∀ q, offA q v = offA q v' ∧ arrA q v = arrA q v'
theorem SameOff.pv {t : Ty} {x y : t.T} : SameOff (.pv t x) (.pv t y) := by
  intro q
  refine ⟨by rw [offA_pv, offA_pv], ?_⟩
  unfold arrA
  rw [getP_pv, getP_pv]
  rcases getT_or t x none q with e | ⟨u, z, e⟩
  · rcases getT_or t y none q with e' | ⟨u', z', e'⟩
    · rw [e, e']
    · obtain ⟨z'', e2⟩ := getT_ty t y x none q u' z' e'
      rw [e] at e2
      cases e2
  · obtain ⟨z', e2⟩ := getT_ty t x y none q u z e
    rw [e, e2]
    cases u <;> rfl
theorem offA_one {v : AV} (h1 : ∀ t x, v = .pv t x → t = .bool) (h2 : ∀ fs, v ≠ .agg fs) : ∀ q, offA q v = (match q with | [] => some 0 | _ => none) ∧ arrA q v = none := by
  intro q
  cases q with
  | nil =>
    refine ⟨by simp [offA], arrA_none ?_⟩
    intro n t x e
    simp only [AV.getP] at e
    have := h1 _ _ e
    cases this
  | cons st r =>
    by_cases hv : ∃ t x, v = .pv t x
    · obtain ⟨t, x, rfl⟩ := hv
      cases h1 t x rfl
      refine ⟨by cases st <;> rfl, arrA_none ?_⟩
      intro n t' x' e
      cases st <;> simp [AV.getP, getT] at e
    · refine ⟨?_, arrA_none ?_⟩
      · cases v <;> first | exact (hv ⟨_, _, rfl⟩).elim | exact (h2 _ rfl).elim | (cases st <;> rfl)
      · intro n t x e
        cases v <;> first | exact (hv ⟨_, _, rfl⟩).elim | exact (h2 _ rfl).elim | (cases st <;> simp [AV.getP] at e)
theorem SameOff.one {v v' : AV} (h1 : ∀ t x, v = .pv t x → t = .bool) (h2 : ∀ fs, v ≠ .agg fs) (h3 : ∀ t x, v' = .pv t x → t = .bool) (h4 : ∀ fs, v' ≠ .agg fs) : SameOff v v' := by
  intro q
  rw [(offA_one h1 h2 q).1, (offA_one h1 h2 q).2, (offA_one h3 h4 q).1, (offA_one h3 h4 q).2]
  exact ⟨rfl, rfl⟩
end
end Go.Xr
namespace Go.Xr
open Go
section
variable {w w' : World} {u : Value} {E : Bool → Nat → Prop} {I : Nat → Option BI}
def OneV (v : AV) : Prop := (∀ t x, v = .pv t x → t = .bool) ∧ (∀ fs, v ≠ .agg fs) ∧ v.csz = 1
def Alike1 (v u : AV) : Prop := (∃ t x y, v = .pv t x ∧ u = .pv t y) ∨ (OneV v ∧ OneV u)
theorem Alike1.csz {v u : AV} (h : Alike1 v u) : v.csz = u.csz := by
  rcases h with ⟨t, x, y, rfl, rfl⟩ | ⟨h1, h2⟩
  · rfl
  · rw [h1.2.2, h2.2.2]
theorem Alike1.same {v u : AV} (h : Alike1 v u) : SameOff v u := by
  rcases h with ⟨t, x, y, rfl, rfl⟩ | ⟨h1, h2⟩
  · exact .pv
  · exact .one h1.1 h1.2.1 h2.1 h2.2.1
theorem OneV.mk {v : AV} (h1 : ∀ t x, v ≠ .pv t x) (h2 : ∀ fs, v ≠ .agg fs) : OneV v := by
  refine ⟨fun t x e => (h1 t x e).elim, h2, ?_⟩
  cases v <;> first | rfl | exact (h1 _ _ rfl).elim
theorem oneBool {x : Bool} : OneV (.pv .bool x) := ⟨fun t y e => (by cases e; rfl), fun fs e => (by cases e), rfl⟩
theorem alike1_of {v u : AV} (h : v.alike u = true) (hv : ∀ fs, v ≠ .agg fs) : Alike1 v u := by
  have one : ∀ x : AV, (∀ t y, x ≠ .pv t y) → (∀ fs, x ≠ .agg fs) → OneV x := fun x h1 h2 => .mk h1 h2
  cases v <;> cases u <;> simp only [AV.alike] at h <;> first
    | (exact (hv _ rfl).elim)
    | (cases Ty.eqt_eq h; exact .inl ⟨_, _, _, rfl, rfl⟩)
    | (cases Ty.eqt_eq h; exact .inr ⟨oneBool, .mk (by intros; simp) (by intros; simp)⟩)
    | (cases Ty.eqt_eq h; exact .inr ⟨.mk (by intros; simp) (by intros; simp), oneBool⟩)
    | (cases h; done)
    | exact .inr ⟨.mk (by intros; simp) (by intros; simp), .mk (by intros; simp) (by intros; simp)⟩
theorem alikeL_of : ∀ (fs gs : List AV), AV.alike.alikeL fs gs = true → fs.length = gs.length ∧ ∀ k, Alike1 (nthD .undef fs k) (nthD .undef gs k)
  | [], [], _ => ⟨rfl, fun k => by cases k <;> exact .inr ⟨.mk (by intros; simp [nthD]) (by intros; simp [nthD]), .mk (by intros; simp [nthD]) (by intros; simp [nthD])⟩⟩
  | v :: r, u :: q, h => by
    have key : Alike1 v u ∧ AV.alike.alikeL r q = true := by
      cases v <;> cases u <;> simp only [AV.alike.alikeL, Bool.and_eq_true] at h <;> first
        | (cases h; done)
        | (obtain ⟨h1, h2⟩ := h; cases Ty.eqt_eq h1; exact ⟨.inl ⟨_, _, _, rfl, rfl⟩, h2⟩)
        | (obtain ⟨h1, h2⟩ := h; cases Ty.eqt_eq h1; exact ⟨.inr ⟨oneBool, .mk (by intros; simp) (by intros; simp)⟩, h2⟩)
        | (obtain ⟨h1, h2⟩ := h; cases Ty.eqt_eq h1; exact ⟨.inr ⟨.mk (by intros; simp) (by intros; simp), oneBool⟩, h2⟩)
        | exact ⟨.inr ⟨.mk (by intros; simp) (by intros; simp), .mk (by intros; simp) (by intros; simp)⟩, h⟩
    obtain ⟨h1, h2⟩ := alikeL_of r q key.2
    refine ⟨by simp [h1], fun k => ?_⟩
    cases k with
    | zero => exact key.1
    | succ k => exact h2 k
  | [], u :: _, h => by cases u <;> cases h
  | v :: r, [], h => by cases v <;> (try cases ‹NK›) <;> cases h
theorem cszL_same : ∀ (fs gs : List AV) (k : Nat), fs.length = gs.length → (∀ k, (nthD .undef fs k).csz = (nthD .undef gs k).csz) → cszL (fs.take k) = cszL (gs.take k)
  | [], [], k, _, _ => by simp
  | v :: r, u :: q, 0, _, _ => by simp
  | v :: r, u :: q, k + 1, hl, h => by
    have h0 := h 0
    have ih := cszL_same r q k (by simpa using hl) (fun k => h (k + 1))
    simp only [List.take_succ_cons, cszL, ih]
    rw [show v.csz = u.csz from h0]
  | [], _ :: _, _, hl, _ => by simp at hl
  | _ :: _, [], _, hl, _ => by simp at hl
theorem SameOff.agg {fs gs : List AV} (hl : fs.length = gs.length) (h : ∀ k, (nthD .undef fs k).csz = (nthD .undef gs k).csz ∧ SameOff (nthD .undef fs k) (nthD .undef gs k)) : SameOff (.agg fs) (.agg gs) := by
  intro q
  match q with
  | [] => exact ⟨rfl, by rw [arrA_none (fun n t x e => by simp [AV.getP] at e), arrA_none (fun n t x e => by simp [AV.getP] at e)]⟩
  | .idx i :: r => exact ⟨rfl, by rw [arrA_none (fun n t x e => by simp [AV.getP] at e), arrA_none (fun n t x e => by simp [AV.getP] at e)]⟩
  | .fld n :: r =>
    have := (h n).2 r
    refine ⟨?_, ?_⟩
    · simp only [offA, hl, this.1, cszL_same fs gs n hl fun k => (h k).1]
    · have e : ∀ fs, arrA (.fld n :: r) (.agg fs) = arrA r (nthD .undef fs n) := fun fs => by simp only [arrA, AV.getP]
      rw [e, e, this.2]
theorem alike_same {v u : AV} (h : v.alike u = true) : SameOff v u := by
  by_cases hv : ∃ fs, v = .agg fs
  · obtain ⟨fs, rfl⟩ := hv
    cases u <;> simp only [AV.alike] at h <;> first | (cases h; done) | skip
    obtain ⟨h1, h2⟩ := alikeL_of _ _ h
    exact .agg h1 fun k => ⟨(h2 k).csz, (h2 k).same⟩
  · exact (alike1_of h fun fs e => hv ⟨fs, e⟩).same
theorem cszL_all (fs gs : List AV) (hl : fs.length = gs.length) (h : ∀ k, (nthD .undef fs k).csz = (nthD .undef gs k).csz) : cszL fs = cszL gs := by
  have := cszL_same fs gs fs.length hl h
  rwa [List.take_length, hl, List.take_length] at this
theorem AVCL.length : ∀ (fs : List AV) (cs : List Value), AVCL w E I fs cs → cs.length = cszL fs
  | [], cs, h => by rw [AVCL_nil.1 h]; rfl
  | v :: r, cs, h => by
    obtain ⟨c1, c2, e, h1, h2⟩ := AVCL_cons.1 h
    rw [e, List.length_append, h1.len, AVCL.length r c2 h2]
    rfl
theorem VarC.len' {v : AV} {cs : List Value} (h : VarC w E I v cs) (hv : ∀ fs, v ≠ .agg fs) : cs.length = v.csz := by
  cases v with
  | agg fs => exact (hv _ rfl).elim
  | undef => obtain ⟨u, rfl, _⟩ := h; rfl
  | _ => exact AVC1.len h
theorem alike_len {v u : AV} {cs d : List Value} (h : v.alike u = true) (hv : VarC w E I v cs) (hu : VarC w E I u d) : cs.length = d.length := by
  by_cases hag : ∃ fs, v = .agg fs
  · obtain ⟨fs, rfl⟩ := hag
    cases u <;> simp only [AV.alike] at h <;> first | (cases h; done) | skip
    obtain ⟨h1, h2⟩ := alikeL_of _ _ h
    rw [AVCL.length _ _ hv, AVCL.length _ _ hu]
    exact cszL_all _ _ h1 fun k => (h2 k).csz
  · have h1 := alike1_of h fun fs e => hag ⟨fs, e⟩
    have hu' : ∀ fs, u ≠ .agg fs := by
      intro fs e
      subst e
      rcases h1 with ⟨t, x, y, _, e⟩ | ⟨_, h2⟩
      · cases e
      · exact h2.2.1 fs rfl
    rw [hv.len' fun fs e => hag ⟨fs, e⟩, hu.len' hu', h1.csz]
theorem setP_spec : ∀ (p : List Stp) (v u v' : AV) (cs d : List Value) (o : Nat), VarC w E I v cs → VarC w E I u d → AV.setP p v u = some v' → offA p v = some o → ∃ cs', Put cs d cs' o ∧ VarC w E I v' cs' ∧ SameOff v' v
  | [], v, u, v', cs, d, o, hv, hu, hs, ho => by
    simp only [AV.setP] at hs
    simp only [offA, Option.some.injEq] at ho
    subst ho
    cases hal : v.alike u with
    | false => rw [hal] at hs; cases hs
    | true =>
      rw [hal] at hs
      simp only [cond_true, Option.some.injEq] at hs
      subst hs
      exact ⟨d, .all (alike_len hal hv hu), hu, fun q => ⟨((alike_same hal) q).1.symm, ((alike_same hal) q).2.symm⟩⟩
  | st :: p, .pv t x, .pv t' y, v', cs, d, o, hv, hu, hs, ho => by
    simp only [AV.setP, Option.map_eq_some_iff] at hs
    obtain ⟨x', hs, rfl⟩ := hs
    obtain ⟨cs', k1, k2⟩ := setT_spec t x none (st :: p) ⟨t', y⟩ cs d x' o hv hu hs ho
    exact ⟨cs', k1, k2, .pv⟩
  | st :: p, .pv t x, .lit y, v', cs, d, o, hv, hu, hs, ho => by
    simp only [AV.setP, Option.map_eq_some_iff] at hs
    obtain ⟨x', hs, rfl⟩ := hs
    obtain ⟨z, rfl, _, hz⟩ := hu
    rw [AVR_lit] at hz
    subst hz
    obtain ⟨cs', k1, k2⟩ := setT_spec t x none (st :: p) ⟨.bool, pB y⟩ cs [.bool y] x' o hv rfl hs ho
    exact ⟨cs', k1, k2, .pv⟩
  | .fld n :: p, .agg fs, u, v', cs, d, o, hv, hu, hs, ho => by
    simp only [AV.setP, Option.map_eq_some_iff] at hs
    obtain ⟨w1, hs, rfl⟩ := hs
    simp only [offA] at ho
    split at ho
    · rename_i hn
      simp only [Option.map_eq_some_iff] at ho
      obtain ⟨o', ho2, rfl⟩ := ho
      obtain ⟨c1, j1, j2⟩ := AVCL.sub fs cs n hv hn
      obtain ⟨c1', k1, k2, k3⟩ := setP_spec p (nthD .undef fs n) u w1 c1 d o' (.of_part j2) hu hs ho2
      have hpart : ∀ gs, nthD .undef fs n ≠ .agg gs := by
        intro gs e
        rw [e] at j2
        simp only [AVC1, partC] at j2
      have hw1 : AVC1 w E I w1 c1' := by
        cases p with
        | nil =>
          simp only [AV.setP] at hs
          cases hal : (nthD .undef fs n).alike u with
          | false => rw [hal] at hs; cases hs
          | true =>
            rw [hal] at hs
            simp only [cond_true, Option.some.injEq] at hs
            subst hs
            have h1 := alike1_of hal hpart
            cases u with
            | agg gs =>
              rcases h1 with ⟨t, x, y, _, e⟩ | ⟨_, h2⟩
              · cases e
              · exact (h2.2.1 gs rfl).elim
            | undef => simp [AV.alike] at hal; cases hn2 : nthD .undef fs n <;> rw [hn2] at hal <;> simp [AV.alike] at hal
            | _ => exact k2
        | cons st r =>
          generalize nthD .undef fs n = part at *
          cases part with
          | pv t x =>
            cases u <;> simp only [AV.setP, Option.map_eq_some_iff] at hs <;> first | (cases hs; done) | (obtain ⟨z, _, rfl⟩ := hs; exact k2)
          | agg gs => exact (hpart gs rfl).elim
          | _ => cases st <;> simp [AV.setP] at hs
      obtain ⟨v0, hv0⟩ : ∃ v0, nth fs n = some v0 := by rw [nth_eq]; exact ⟨_, List.getElem?_eq_getElem hn⟩
      obtain ⟨pre, c3, post, e1, e2, e3, e4⟩ := AVCL_set fs cs c1' n v0 w1 hv hv0 hw1
      have hv0' : nthD .undef fs n = v0 := by rw [nthD_eq, hv0]; rfl
      have hcl : c1'.length = c3.length := by rw [k1.len.1, e3, ← hv0', j2.len]
      have hput : Put cs c1' (pre ++ c1' ++ post) (cszL (fs.take n)) := ⟨pre, c3, post, e1, e2, hcl.symm, rfl⟩
      refine ⟨_, hput.trans k1 j1, e4, ?_⟩
      refine .agg (by simp) fun k => ?_
      have hset : nthD .undef (fs.set n w1) k = if n = k then w1 else nthD .undef fs k := by
        rw [nthD_eq, nth_set, nthD_eq]
        split
        · rename_i e; subst e; rw [hv0]; rfl
        · rfl
      rw [hset]
      split
      · rename_i e
        subst e
        refine ⟨?_, k3⟩
        rw [← hw1.len, k1.len.1, j2.len]
      · exact ⟨rfl, fun q => ⟨rfl, rfl⟩⟩
    · cases ho
  | .idx i :: p, .agg fs, u, v', cs, d, o, hv, hu, hs, ho => by simp [offA] at ho
  | st :: p, .pv t x, .undef, v', cs, d, o, hv, hu, hs, ho | st :: p, .pv t x, .nil _, v', cs, d, o, hv, hu, hs, ho | st :: p, .pv t x, .ptr _ _, v', cs, d, o, hv, hu, hs, ho
  | st :: p, .pv t x, .fad _ _, v', cs, d, o, hv, hu, hs, ho | st :: p, .pv t x, .sl _, v', cs, d, o, hv, hu, hs, ho | st :: p, .pv t x, .slr _ _ _, v', cs, d, o, hv, hu, hs, ho
  | st :: p, .pv t x, .asl _ _ _ _, v', cs, d, o, hv, hu, hs, ho | st :: p, .pv t x, .mp _, v', cs, d, o, hv, hu, hs, ho | st :: p, .pv t x, .clo _ _, v', cs, d, o, hv, hu, hs, ho
  | st :: p, .pv t x, .yld _, v', cs, d, o, hv, hu, hs, ho | st :: p, .pv t x, .agg _, v', cs, d, o, hv, hu, hs, ho | st :: p, .pv t x, .tup _, v', cs, d, o, hv, hu, hs, ho
  | st :: p, .pv t x, .cst _, v', cs, d, o, hv, hu, hs, ho => by simp [AV.setP] at hs
  | st :: p, .undef, u, v', cs, d, o, hv, hu, hs, ho | st :: p, .lit _, u, v', cs, d, o, hv, hu, hs, ho | st :: p, .nil _, u, v', cs, d, o, hv, hu, hs, ho | st :: p, .ptr _ _, u, v', cs, d, o, hv, hu, hs, ho
  | st :: p, .fad _ _, u, v', cs, d, o, hv, hu, hs, ho | st :: p, .sl _, u, v', cs, d, o, hv, hu, hs, ho | st :: p, .slr _ _ _, u, v', cs, d, o, hv, hu, hs, ho | st :: p, .asl _ _ _ _, u, v', cs, d, o, hv, hu, hs, ho
  | st :: p, .mp _, u, v', cs, d, o, hv, hu, hs, ho | st :: p, .clo _ _, u, v', cs, d, o, hv, hu, hs, ho | st :: p, .yld _, u, v', cs, d, o, hv, hu, hs, ho | st :: p, .tup _, u, v', cs, d, o, hv, hu, hs, ho
  | st :: p, .cst _, u, v', cs, d, o, hv, hu, hs, ho => by cases st <;> simp [offA] at ho
end
end Go.Xr
namespace Go.Xr
open Go
section
variable {F : Fence} {n : Nat} {P : Program} {K : Kit} {o : Oper} {a : Act} {w w' : World} {Qx : Exit → Act → World → Prop} {u : Value}
variable {b : Base} {us : List (Array Value)} {c c' : Cx} {s s' : AS} {Q : Ex → AS → Prop} {T : TypeId} {call : Oper → AV → List AV → AS → Tree}
theorem Put.get {cs d cs' : List Value} {o : Nat} (h : Put cs d cs' o) (j : Nat) : cs'[j]? = if o ≤ j ∧ j < o + d.length then d[j - o]? else cs[j]? := by
  obtain ⟨pre, c1, post, rfl, h1, h2, rfl⟩ := h
  simp only [List.append_assoc]
  by_cases hj1 : j < o
  · rw [if_neg (by omega), List.getElem?_append_left (by omega), List.getElem?_append_left (by omega)]
  · by_cases hj2 : j < o + d.length
    · rw [if_pos (by omega), List.getElem?_append_right (by omega), List.getElem?_append_left (by omega), h1]
    · rw [if_neg (by omega), List.getElem?_append_right (by omega), List.getElem?_append_right (by omega), List.getElem?_append_right (by omega), List.getElem?_append_right (by omega), h2]
theorem setCells_put {blk base o : Nat} {T : TypeId} {lo hi : Nat} {arr : Array Value} {cs d cs' : List Value} (hb : w.heap[blk]? = some (.cells arr T (lo, hi))) (hfz : arr.size ≤ lo ∨ hi = lo) (hcs : base + cs.length ≤ arr.size) (hrd : ∀ j v, cs[j]? = some v → arr[base + j]? = some v)
    (hp : Put cs d cs' o) (h1 : ∀ v ∈ d, v.oneCell' = true) :
    (storeCells ⟨blk, base + o, none⟩ d).run P w = .ok () (w.setCells blk (base + o) d) ∧ ∃ arr' : Array Value, arr'.size = arr.size ∧ (w.setCells blk (base + o) d).heap[blk]? = some (.cells arr' T (lo, hi)) ∧ (∀ j v, cs'[j]? = some v → arr'[base + j]? = some v) ∧ (∀ k, k < base ∨ base + cs.length ≤ k → arr'[k]? = arr[k]?) ∧
      (∀ k, k ≠ blk → (w.setCells blk (base + o) d).heap[k]? = w.heap[k]?) ∧ (w.setCells blk (base + o) d).heap.size = w.heap.size ∧ (w.setCells blk (base + o) d).os = w.os ∧ (w.setCells blk (base + o) d).tape = w.tape ∧ (w.setCells blk (base + o) d).output = w.output := by
  obtain ⟨hpl1, hpl2⟩ := hp.len
  obtain ⟨arr', g1, g2, g3, g4, g5, g6, g7, g8, g9⟩ := setCells_spec blk T (lo, hi) d (base + o) w arr hb (by omega)
  have hst := run_storeCells_cells (P := P) blk (base + o) d 0 w
    (fun j hj => by
      simp only [World.cell?, hb]
      have : base + o + j < arr.size := by omega
      simp
      exact this)
    (fun j hj => by
      simp only [World.frozen?, hb]
      have : base + o + 0 + j < arr.size := by omega
      simp
      omega) h1
  refine ⟨by simpa using hst, arr', g1, g4, ?_, fun k hk => g3 k (by omega), g5, g6, g7, g8, g9⟩
  intro j v hj
  rw [hp.get j] at hj
  split at hj
  · rename_i hr
    have := g2 _ v hj
    rwa [show base + o + (j - o) = base + j by omega] at this
  · rename_i hr
    rw [g3 (base + j) (by omega)]
    exact hrd j v hj
theorem VarC.one {E : Bool → Nat → Prop} {I : Nat → Option BI} {v : AV} {cs : List Value} (h : VarC w E I v cs) : ∀ z ∈ cs, z.oneCell' = true := by
  have part : ∀ (v : AV) (cs : List Value), AVC1 w E I v cs → ∀ z ∈ cs, z.oneCell' = true := by
    intro v cs h z hz
    cases v <;> simp only [AVC1, partC] at h <;> first
      | exact RepC.one _ _ _ h z hz
      | exact h.elim
      | (obtain ⟨u, rfl, h1, _⟩ := h; simp at hz; subst hz; exact h1)
  cases v with
  | undef => obtain ⟨u, rfl, h1⟩ := h; intro z hz; simp at hz; subst hz; exact h1
  | agg fs =>
    simp only [VarC] at h
    induction fs generalizing cs with
    | nil => rw [AVCL_nil.1 h]; intro z hz; cases hz
    | cons v r ih =>
      obtain ⟨c1, c2, e, h1, h2⟩ := AVCL_cons.1 h
      intro z hz
      rw [e] at hz
      rcases List.mem_append.1 hz with hz | hz
      · exact part v c1 h1 z hz
      · exact ih h2 z hz
  | _ => exact part _ cs h
theorem run_storeVar (hK : KitOK P K) {m : Nat} {g : Bool} (hT : K.sz T = some (m, g)) {ad : Addr} {v : Value} (hl : v.cells.toList.length = m) (hst : (storeCells ad v.cells.toList).run P w = .ok () w') : (storeVar T ad v).run P w = .ok () w' := by
  obtain ⟨h1, _⟩ := sz_spec hK hT
  have : v.cells.size = m := by simpa using hl
  simp only [storeVar, Sem.run_bind, h1, Result.andThen_ok, Sem.run_ite]
  rw [if_neg (by simpa using this), hst]
theorem rv_of_ne {v : AV} (h : ∀ k, v ≠ .cst k) (s : AS) : s.rv v = v := by cases v <;> first | rfl | exact (h _ rfl).elim
theorem VarC.notcst {E : Bool → Nat → Prop} {I : Nat → Option BI} {v : AV} {cs : List Value} (h : VarC w E I v cs) : ∀ k, v ≠ .cst k := fun k e => by subst e; exact (h : False).elim
theorem storeT_sound (hF : HF F) (hK : KitOK P K) (h : St c us s a) (hfr : Fr b c s) {x y : Operand} {i : Nat} {p : List Stp} (ho : o.op = .store T x y) (hX : s.ev x = .ptr i p) {V : AV} (hy : AVR c.w c.E (c.I s) V (a.eval y)) (hk : szEq (K.sz T) V.sz = true)
    (hs : (storeT s o i p V).sat Q) : o.wpIn F n P a c.w (Abs b us Q) Qx := by
  have hd : ∀ c, o.op ≠ .defer c := by intro c; rw [ho]; simp
  have hx := h.ev x
  rw [hX] at hx
  obtain ⟨m, g, e1, e2⟩ := szEq_spec hk
  have hyv : VarC c.w c.E (c.I s) V (a.eval y).cells.toList := AVR_VarC (by rw [e2]; rfl) hy
  have hyl := hyv.len e2
  simp only [AVR, PtrAt] at hx
  have fin : ∀ {bx : Bx} {blk off : Nat} {w2 : World}, a.eval x = .pointer (some ⟨blk, off, none⟩) → (storeCells ⟨blk, off, none⟩ (a.eval y).cells.toList).run P c.w = .ok () w2 →
      ({ c with w := w2 } : Cx).I (s.putBox i bx) i = c.I s i → Step1 c { c with w := w2 } s i → BoxOK { c with w := w2 } (s.putBox i bx) i (s.rb bx) → (skipT (s.putBox i bx) o).sat Q → o.wpIn F n P a c.w (Abs b us Q) Qx := by
    intro bx blk off w2 hux hst hI g hb hs
    refine step_skip (w' := w2) hF hd ?_ ⟨{ c with w := w2 }, _, rfl, hs, (h.setBox g (.inr hI) hb).putO (by simp only [AVR]) o.dst, (hfr.setBox g).putO o.dst .undef⟩
    simp only [execOp, ho, Instr.storeAt, Instr.sureAddr, hux, Sem.run_bind, Sem.run_pure, Result.andThen_ok, run_storeVar hK e1 hyl hst]
  have stp : ∀ {blk base off : Nat} {w2 : World}, s.box i ≠ none → c.ρ i = some (blk, base) → (∀ k, k ≠ blk → w2.heap[k]? = c.w.heap[k]?) → w2.heap.size = c.w.heap.size → w2.os = c.w.os → w2.tape = c.w.tape → w2.output = c.w.output → cellsN w2.heap[blk]? = cellsN c.w.heap[blk]? → Step1 c { c with w := w2 } s i := by
    intro blk base off w2 hb hρ h1 h2 h3 h4 h5 h6
    refine ⟨rfl, rfl, fun j _ => rfl, Nat.le_of_eq h2.symm, h3, h4, h5, rfl, rfl, fun k hk => ?_, fun z hz => ?_, fun k hk => ?_⟩
    · by_cases e : k = blk
      · exact .inr ⟨hb, base, by rw [hρ, e]⟩
      · exact .inl (h1 k e)
    · have hz : c.ρ i = some z := hz
      refine ⟨?_, .inr ⟨hb, z.2, hz⟩⟩
      show z.1 < w2.heap.size
      rw [h2]
      exact (h.own i z hb hz).1
    · by_cases e : k = blk
      · rw [e]; exact h6
      · show cellsN w2.heap[k]? = _
        rw [h1 k e]
  unfold storeT at hs
  split at hs
  · rename_i v hb
    obtain ⟨blk, cs, T', h1, h2, h3⟩ := h.bx i _ hb
    have hI : c.I s i = some (.var blk (fun p => offA p (s.rv v)) (fun p => arrA p (s.rv v))) := by simp [Cx.I, boxI, hb, h1]
    simp only [hI] at hx
    obtain ⟨off, hoff, hux⟩ := hx
    split at hs
    · rename_i v' hset
      obtain ⟨cs', k1, k2, k3⟩ := setP_spec p (s.rv v) V v' cs _ off h3 hyv hset hoff
      obtain ⟨hst, arr', g1, g2, g3, _, g5, g6, g7, g8, g9⟩ := setCells_put (P := P) (base := 0) h2 (.inr rfl) (by simp) (by intro j z hj; simpa using hj) k1 hyv.one
      simp only [Nat.zero_add] at hst g2 g3 g5 g6 g7 g8 g9
      have harr : arr' = cs'.toArray := by
        apply Array.ext'
        apply List.ext_getElem?
        intro j
        cases hj : cs'[j]? with
        | some z => have := g3 j z hj; simpa using this
        | none =>
          have hle := List.getElem?_eq_none_iff.1 hj
          have e := k1.len.1
          simp at g1
          exact List.getElem?_eq_none (by simp; omega)
      have hne := k2.notcst
      refine fin (bx := .var v') hux hst ?_ (stp (base := 0) (off := off) (by rw [hb]; simp) h1 g5 g6 g7 g8 g9 (by rw [g2, h2]; simp [cellsN, g1])) ?_ hs
      · rw [hI]
        unfold Cx.I
        rw [box_put, if_pos rfl]
        show boxI _ (c.ρ i) _ (some (Bx.var v')) = _
        simp only [boxI, h1, Option.map_some]
        congr 2
        · funext q; rw [rv_of_ne hne]; exact (k3 q).1
        · funext q; rw [rv_of_ne hne]; exact (k3 q).2
      · have g : Step1 c { c with w := c.w.setCells blk off (a.eval y).cells.toList } s i := stp (base := 0) (off := off) (by rw [hb]; simp) h1 g5 g6 g7 g8 g9 (by rw [g2, h2]; simp [cellsN, g1])
        refine ⟨blk, cs', T', h1, by rw [← harr]; exact g2, ?_⟩
        rw [rv_of_ne hne]
        refine k2.mono (g.E h) ?_
        intro j hj
        by_cases e : j = i
        · left
          rw [e, hI]
          unfold Cx.I
          rw [box_put, if_pos rfl]
          show boxI _ (c.ρ i) _ (some (Bx.var v')) = _
          simp only [boxI, h1, Option.map_some]
          congr 2
          · funext q; rw [rv_of_ne hne]; exact (k3 q).1
          · funext q; rw [rv_of_ne hne]; exact (k3 q).2
        · exact .inl (g.I h j e)
    · exact hs.elim
  · rename_i t xs hb
    obtain ⟨hm, hbo⟩ := h.bx i _ hb
    have hI : c.I s i = some (.buf .sl t (List.length xs) ((c.ρ i).map fun x => (x.1, x.2, roomOf c.w x.1 x.2))) := by simp [Cx.I, boxI, hb]
    simp only [hI] at hx
    obtain ⟨k, r, off, rfl, hoff, blk, base, room, hat, hk0, hk1, hux⟩ := hx
    rcases hbo with ⟨h1, _⟩ | ⟨blk', base', arr, T', lo, hi, cs, h1, h2, h3, h4, h5, h6⟩
    · rw [h1] at hat; cases hat
    · rw [h1] at hat
      simp only [Option.map_some, Option.some.injEq, Prod.mk.injEq] at hat
      obtain ⟨rfl, rfl, rfl⟩ := hat
      have hlt : Int.toNat k < List.length xs := toNat_lt' ⟨hk0, hk1⟩
      obtain ⟨c1, j1, j2⟩ := RepL.sub (RepC.len t) xs cs (Int.toNat k) t.dflt hlt h4
      have elem : ∀ v', AV.setP r (.pv t (pGet t.dflt xs k)) V = some v' → ∃ c1', Put c1 (a.eval y).cells.toList c1' off ∧ VarC c.w c.E (c.I s) v' c1' := by
        intro v' hset
        obtain ⟨c1', q1, q2, _⟩ := setP_spec r (.pv t (pGet t.dflt xs k)) V v' c1 _ off j2 hyv hset (by rw [offA_pv]; exact hoff)
        exact ⟨c1', q1, q2⟩
      have done : ∀ (y' : t.T) (c1' : List Value), Put c1 (a.eval y).cells.toList c1' off → RepC c.w c.E t y' c1' → (skipT (s.putBox i (.buf .sl t (pSet xs k y'))) o).sat Q → o.wpIn F n P a c.w (Abs b us Q) Qx := by
        intro y' c1' q1 q2 hs
        obtain ⟨cs', g1, g2⟩ := RepL.put (RepC.len t) xs cs (Int.toNat k) y' c1' hlt h4 q2
        have hput := g1.trans q1 j1
        obtain ⟨hst, arr', f1, f2, f3, _, f5, f6, f7, f8, f9⟩ := setCells_put (P := P) h2 h3 h5 h6 hput hyv.one
        have hlen : List.length (pSet xs k y') = List.length xs := by simp [pSet]
        have g : Step1 c { c with w := c.w.setCells blk' (base' + (Int.toNat k * t.size + off)) (a.eval y).cells.toList } s i := stp (off := off) (by rw [hb]; simp) h1 f5 f6 f7 f8 f9 (by rw [f2, h2]; simp [cellsN, f1])
        refine fin (bx := .buf .sl t (pSet xs k y')) hux hst ?_ g ?_ hs
        · rw [hI]
          unfold Cx.I
          rw [box_put, if_pos rfl]
          show boxI _ (c.ρ i) _ (some (Bx.buf .sl t (pSet xs k y'))) = _
          simp only [boxI, h1, Option.map_some, hlen]
          have : roomOf (c.w.setCells blk' (base' + (Int.toNat k * t.size + off)) (a.eval y).cells.toList) blk' base' = roomOf c.w blk' base' := by simp [roomOf, f2, h2, f1]
          rw [this]
        · refine ⟨by rw [hlen]; exact hm, .inr ⟨blk', base', arr', T', lo, hi, cs', h1, f2, by rw [f1]; exact h3, RepL.mono (fun z cs hz => hz.mono (g.E h)) _ _ g2, by rw [f1, hput.len.1]; exact h5, f3⟩⟩
      have hs' := hs
      dsimp only at hs'
      split at hs'
      · rename_i t' y' hset
        split at hs'
        · rename_i e
          cases e
          obtain ⟨c1', q1, q2⟩ := elem _ hset
          exact done y' c1' q1 q2 hs'
        · exact hs'.elim
      · rename_i b' hset
        split at hs'
        · rename_i e
          cases e
          obtain ⟨c1', q1, q2⟩ := elem _ hset
          obtain ⟨z, rfl, _, hz⟩ := q2
          rw [AVR_lit] at hz
          subst hz
          exact done b' _ q1 rfl hs'
        · exact hs'.elim
      · exact hs'.elim
  · exact hs.elim
end
end Go.Xr
namespace Go.Xr
open Go
section
variable {F : Fence} {n : Nat} {P : Program} {K : Kit} {o : Oper} {a : Act} {w w' : World} {Qx : Exit → Act → World → Prop} {u : Value}
variable {b : Base} {us : List (Array Value)} {c c' : Cx} {s s' : AS} {Q : Ex → AS → Prop} {T : TypeId} {call : Oper → AV → List AV → AS → Tree}
theorem buildSlice_core (hF : HF F) (hK : KitOK P K) (h : St c us s a) (hfr : Fr b c s) {m : Nat} {ps : Array (Nat × Operand)} (ho : o.op = .buildSlice T m ps) {t : Ty} (hel : K.elem T = some t)
    (hs : (match partsL s (repL (.pv t t.dflt) m) ps.toList with
      | some l => (match rowOf s t l with
        | some xs => okT (Nat.ble (Nat.mul m t.size) 16777216) (let i := siteT s o; retT (s.newBox i (.buf .sl t xs)) o (.sl i)) | none => .fail)
      | none => .fail : Tree).sat Q) : o.wpIn F n P a c.w (Abs b us Q) Qx := by
  have hd : ∀ c, o.op ≠ .defer c := by intro c; rw [ho]; simp
  obtain ⟨e, htd, hu, hty⟩ := elem_spec hK hel
  split at hs
  · rename_i l hl
    split at hs
    · rename_i xs hxs
      replace hs := sat_ok hs; obtain ⟨hk, hs⟩ := hs
      have hk := Nat.le_of_ble_eq_true hk
      obtain ⟨i, z, hi, hz, his, hby, h0, hzs, hzr⟩ := zero_elem (w := c.w) hty
      have hcells : (madeCells z.cells (m * i.size)).toList = (List.replicate m z.cells.toList).flatten := by
        rw [his, ← hzs, made_cells z.cells (by omega)]
      have hrow : AVCL c.w c.E (c.I s) (repL (.pv t t.dflt) m) (List.replicate m z.cells.toList).flatten := rep_row m _ (RepL_same hzr.any m)
      obtain ⟨cs', f1, f2⟩ := fill_spec (place := fun j => some (j * i.size, i.size)) h ps.toList _ l _ hrow hl (fun j v hv => by obtain ⟨q1, q2⟩ := repL_place m j v hv; rw [q1, q2, his])
      have hrep := rowOf_spec (s := s) l cs' xs f2 hxs
      have hmc : madeCells z.cells (m * i.size) = (List.replicate m z.cells.toList).flatten.toArray := by apply Array.ext'; rw [hcells]
      have hr : (Instr.buildSlice T m (ps.map fun x => (x.1, a.eval x.2))).run P c.w = .ok (.slice (some ⟨c.w.heap.size, 0, none⟩) m m) { c.w with heap := c.w.heap.push (.cells cs'.toArray e (0, 0)) } := by
        have n1 : ¬ (16777216 < m * i.size) := by rw [his]; have : m * t.size ≤ 16777216 := hk; omega
        have hf : Instr.fill (fun j => some (j * i.size, i.size)) (madeCells z.cells (m * i.size)) (ps.map fun x => (x.1, a.eval x.2)).toList = some cs'.toArray := by rw [parts_map, hmc]; exact f1
        by_cases e0 : m * i.size = 0
        · rw [e0] at hf
          have hmk : madeCells z.cells 0 = #[] := by simp [madeCells, Array.range_zero']
          rw [hmk] at hf
          simp [Instr.buildSlice, underlying_of hu, run_size hi, e0, Array.range_zero', -Array.toList_map, hf, newRow, newObj]
          rfl
        · unfold madeCells at hf
          simp [Instr.buildSlice, underlying_of hu, run_size hi, e0, n1, zeroValue, typeInfo, hi, hz, -Array.toList_map, hf, newRow, newObj]
          rfl
      have hlen : List.length xs = m := by
        have h1 : ∀ (l : List AV) (xs : List t.T), rowOf s t l = some xs → xs.length = l.length := by
          intro l
          induction l with
          | nil => intro xs h; simp only [rowOf, Option.some.injEq] at h; subst h; rfl
          | cons v r ih =>
            intro xs h
            simp only [rowOf] at h
            split at h
            · split at h
              · rename_i q hq
                cases h
                simp [ih _ hq]
              · cases h
            · cases h
        rw [h1 l xs hxs]
        have : ∀ (ps : List (Nat × Operand)) (l l' : List AV), partsL s l ps = some l' → l'.length = l.length := by
          intro ps
          induction ps with
          | nil => intro l l' h; simp only [partsL, Option.some.injEq] at h; rw [h]
          | cons y r ih =>
            intro l l' h
            obtain ⟨i, y⟩ := y
            simp only [partsL] at h
            split at h
            · rename_i v hv
              cases hf : AV.fits v (asP v (s.ev y)) with
              | true => rw [hf] at h; rw [ih _ _ h]; simp
              | false => rw [hf] at h; cases h
            · cases h
        rw [this _ _ _ hl]
        have : ∀ (z : AV) (m : Nat), (repL z m).length = m := by
          intro z m
          induction m with
          | zero => rfl
          | succ m ih => simp [repL, ih]
        exact this _ _
      have hcl := RepL.len (RepC.len t) _ _ hrep
      obtain ⟨c', hw, h1, h2, h3⟩ := h.newBuf hfr (i := siteT s o) (d := c.w.drawn) (T := e) (lo := 0) (hi := 0) (xs := xs) (cs := cs') (rest := []) (cap := m)
        (by rw [hlen]; unfold maxL; have : m * 1 ≤ m * t.size := Nat.mul_le_mul_left m h0; have : m * t.size ≤ 16777216 := hk; omega) hrep (.inr rfl) (by rw [hlen]; exact Nat.le_refl _) (by
          rw [List.append_nil, hcl, hlen]
          exact Nat.le_refl _)
      rw [hlen] at h3
      refine mem_done hF hd hs ?_ h1 h2 h3
      simp only [execOp, ho, Sem.run_bind, hr, Result.andThen_ok, Sem.run_pure, hw, List.append_nil]
    · exact hs.elim
  · exact hs.elim
theorem convBytes_sound (hF : HF F) (hK : KitOK P K) (h : St c us s a) (hfr : Fr b c s) {D : TypeId} {x : Operand} (ho : o.op = .convert T D x)
    (hs : (convT K s o T D (s.ev x)).sat Q) (hno : ∃ e, K.td D = .slice e) : o.wpIn F n P a c.w (Abs b us Q) Qx := by
  have hd : ∀ c, o.op ≠ .defer c := by intro c; rw [ho]; simp
  have hx := h.ev x
  obtain ⟨e, hD⟩ := hno
  unfold convT at hs
  rw [hD] at hs
  split at hs
  · rename_i k k' y hD' _; cases hD'
  · rename_i hD'; cases hD'
  · rename_i e' xs hD' hX
    rw [hX] at hx
    split at hs
    · rename_i t hel
      replace hs := sat_ok hs; obtain ⟨hk, hs⟩ := hs
      simp only [Bool.and_eq_true] at hk
      obtain ⟨hts, hk⟩ := hk
      cases Ty.eqt_eq hk
      obtain ⟨e, htd, hu, hty⟩ := elem_spec hK hel
      obtain ⟨z, hz, hz1, hz2⟩ := AVR_str.1 hx
      have hsrc : ∃ d, P.underlying T = some d := by
        split at hts
        · rename_i ht; exact ⟨_, pure_str hK ht⟩
        · cases hts
      obtain ⟨d, hT⟩ := hsrc
      have hue := tyB_int hty
      let cap := (Question.appendCap z.size 0 e).cut (c.w.tape c.w.drawn (.appendCap z.size 0 e))
      have hcap : z.size ≤ cap := by simp [cap, Question.cut]
      let cs : List Value := z.data.toList.map fun b => .int .u8 b.toNat
      let rest : List Value := List.replicate (cap - z.size) (.int .u8 0)
      have hcl : cs.length = z.size := by simp [cs]
      have hall : (cs ++ rest).length = cap := by simp [cs, rest]; omega
      have hrep : RepL (RepC c.w c.E (.int .u8)) (z.data.toList.map fun b => (b.toNat : Int)) cs := by
        have : ∀ l : List UInt8, RepL (RepC c.w c.E (.int .u8)) (l.map fun b => (b.toNat : Int)) (l.map fun b => .int .u8 b.toNat) := by
          intro l
          induction l with
          | nil => rfl
          | cons x r ih => exact ⟨[.int .u8 x.toNat], _, rfl, ⟨rfl, u8_has x⟩, ih⟩
        exact this _
      have hll : List.length (z.data.toList.map fun b => (b.toNat : Int)) = z.size := by simp
      obtain ⟨c', hw, h1, h2, h3⟩ := h.newBuf hfr (i := siteT s o) (d := c.w.drawn + 1) (T := e) (lo := cap) (hi := cap + 1) (t := .int .u8) (xs := z.data.toList.map fun b => (b.toNat : Int)) (cs := cs) (rest := rest) (cap := cap)
        (by rw [hll]; exact hz2) hrep (.inl (by rw [hall]; exact Nat.le_refl _)) (by rw [hll]; exact hcap) (by
          rw [hall]
          show cap * 1 ≤ cap
          omega)
      rw [hll] at h3
      subst hz1
      refine mem_done hF hd hs ?_ h1 h2 h3
      have harr : z.data.map (fun b => Value.int .u8 b.toNat) ++ Array.replicate (cap - z.size) (Value.int .u8 0) = (cs ++ rest).toArray := by
        apply Array.ext'
        simp [cs, rest]
      have hconv : (Conv.stringToBytes e z).run P c.w = .ok (.slice (some ⟨c.w.heap.size, 0, none⟩) z.size cap) c'.w := by
        rw [hw]
        unfold Conv.stringToBytes
        simp only [Sem.run_bind, run_choose, Question.forced, Bool.false_eq_true, if_false, Result.andThen_ok]
        show ((newRow e (z.data.map (fun b => Value.int .u8 b.toNat) ++ Array.replicate (cap - z.size) (Value.int .u8 0))).run P { c.w with drawn := c.w.drawn + 1 }).andThen _ = _
        rw [harr]
        have hrow : (newRow e (cs ++ rest).toArray).run P { c.w with drawn := c.w.drawn + 1 } = .ok ⟨c.w.heap.size, 0, none⟩ { c.w with heap := c.w.heap.push (.cells (cs ++ rest).toArray e (0, 0)), drawn := c.w.drawn + 1 } := rfl
        rw [hrow]
        simp only [Result.andThen_ok]
        have hmk : (markStringish ⟨c.w.heap.size, 0, none⟩).run P { c.w with heap := c.w.heap.push (.cells (cs ++ rest).toArray e (0, 0)), drawn := c.w.drawn + 1 } = .ok () { c.w with heap := c.w.heap.push (.cells (cs ++ rest).toArray e (cap, cap + 1)), drawn := c.w.drawn + 1 } := by
          have hsz : ({ c.w with heap := c.w.heap.push (.cells (cs ++ rest).toArray e (0, 0)), drawn := c.w.drawn + 1 } : World).shape? c.w.heap.size = some (e, cap) := by
            simp [World.shape?]
            simpa using hall
          simp only [markStringish, Sem.run_bind, run_shape, hsz, Result.andThen_ok, run_freeze]
          congr 1
          unfold World.freeze
          rw [if_neg (by omega)]
          congr 1
          apply Array.ext
          · simp
          · intro k h1 h2
            rw [Array.getElem_modify]
            split
            · rename_i e1
              subst e1
              simp
            · rename_i e1
              simp at h1
              dsimp only at e1
              have : k < c.w.heap.size := by omega
              simp [Array.getElem_push, this]
        rw [hmk]
        rfl
      simp only [execOp, ho, hz, Sem.run_bind]
      simp only [convert, Sem.run_bind, underlying_of hT, underlying_of hu, underlying_of hue, Result.andThen_ok, hconv, Sem.run_pure]
    · exact hs.elim
  · rename_i e' i hD' hX
    rw [hX] at hx
    split at hs
    · rename_i t xs t' hb hel
      replace hs := sat_ok hs
      obtain ⟨hk, hpos, hs⟩ := hs
      simp only [Bool.and_eq_true] at hk
      obtain ⟨⟨hTD, hk1⟩, hk2⟩ := hk
      have hTD := Nat.eq_of_beq_eq_true hTD
      subst hTD
      cases Ty.eqt_eq hk1
      cases Ty.eqt_eq hk2
      obtain ⟨e2, htd, hu, hty⟩ := elem_spec hK hel
      have hue := tyB_int hty
      have hpos : 0 < List.length xs := by simpa [pLt, pI, pLen] using hpos
      obtain ⟨hm, hbx⟩ := h.bx i _ hb
      rcases hbx with ⟨h1, h2⟩ | ⟨blk, base, arr, T', lo, hi, cs, h1, h2, h3, h4, h5, h6⟩
      · omega
      · have hI : c.I s i = some (.buf .sl (.int .u8) (List.length xs) (some (blk, base, roomOf c.w blk base))) := by simp [Cx.I, boxI, hb, h1]
        simp only [AVR, SlAt, hI] at hx
        obtain ⟨cap, hx, hc1, hc2⟩ := hx
        have hlt : blk < c.w.heap.size := (Array.getElem?_eq_some_iff.1 h2).1
        obtain ⟨lo', hi', hr', hlo⟩ : ∃ lo' hi', (if lo == hi then (arr.size, arr.size + 1) else (min lo arr.size, max hi (arr.size + 1))) = (lo', hi') ∧ arr.size ≤ lo' := by
          by_cases e : lo = hi
          · subst e; exact ⟨arr.size, arr.size + 1, by simp, Nat.le_refl _⟩
          · refine ⟨min lo arr.size, max hi (arr.size + 1), by simp [e], ?_⟩
            rcases h3 with h3 | h3
            · rw [Nat.min_eq_right h3]; exact Nat.le_refl _
            · exact (e h3.symm).elim
        let w' : World := c.w.freeze { block := blk, off := arr.size } 1
        have hw1 : w'.heap[blk]? = some (.cells arr T' (lo', hi')) := by
          show (c.w.heap.modify blk _)[blk]? = _
          rw [Array.getElem?_modify, if_pos rfl, h2]
          simp only [Option.map_some, hr']
        have hw2 : ∀ k, k ≠ blk → w'.heap[k]? = c.w.heap[k]? := fun k hk => by
          show (c.w.heap.modify blk _)[k]? = _
          rw [Array.getElem?_modify, if_neg (Ne.symm hk)]
        have hw3 : w'.heap.size = c.w.heap.size := by show (c.w.heap.modify blk _).size = _; simp
        have hmk : (markStringish ⟨blk, base, none⟩).run P c.w = .ok () w' := by
          have hsh : c.w.shape? blk = some (T', arr.size) := by simp [World.shape?, h2]
          simp only [markStringish, Sem.run_bind, run_shape, hsh, Result.andThen_ok, run_freeze]
          rfl
        have g : Step1 c { c with w := w' } s i := ⟨rfl, rfl, fun j _ => rfl, by rw [hw3]; exact Nat.le_refl _, rfl, rfl, rfl, rfl, rfl, fun k hk => by
            by_cases e : k = blk
            · exact .inr ⟨by rw [hb]; simp, base, by rw [h1, e]⟩
            · exact .inl (hw2 k e), fun x hx => by
            have hx : c.ρ i = some x := hx
            rw [h1] at hx
            cases hx
            exact ⟨by rw [hw3]; exact hlt, .inr ⟨by rw [hb]; simp, base, h1⟩⟩, fun k hk => by
            by_cases e : k = blk
            · rw [e, hw1, h2]; rfl
            · rw [hw2 k e]⟩
        have hE2 : ∀ b k, c.E b k → c.E b k ∧ w'.heap[k]? = c.w.heap[k]? := fun b k hk => ⟨hk, ((g.E h) b k hk).2⟩
        have hro : roomOf w' blk base = roomOf c.w blk base := by simp [roomOf, hw1, h2]
        have hbok : BoxOK { c with w := w' } (s.putBox i (.buf .sl (.int .u8) xs)) i (.buf .sl (.int .u8) xs) :=
          ⟨hm, .inr ⟨blk, base, arr, T', lo', hi', cs, h1, hw1, .inl hlo, h4.mono (fun x cs hx => hx.mono hE2), h5, h6⟩⟩
        have hI2 : ({ c with w := w' } : Cx).I (s.putBox i (.buf .sl (.int .u8) xs)) i = some (.buf .sl (.int .u8) (List.length xs) (some (blk, base, roomOf c.w blk base))) := by
          unfold Cx.I
          rw [box_put, if_pos rfl]
          show boxI w' (c.ρ i) _ (some (.buf .sl (.int .u8) xs)) = _
          simp [boxI, h1, hro]
        refine mem_done (c' := { c with w := w' }) hF hd hs ?_ (h.setBox g (.inr (hI2.trans hI.symm)) hbok) (hfr.setBox g) (u := .slice (some ⟨blk, base, none⟩) (List.length xs) cap) ?_
        · simp only [execOp, ho, hx, convert, Sem.run_bind, underlying_of hu, Result.andThen_ok, underlying_of hue, beq_self_eq_true, hmk, Sem.run_pure]
        · simp only [AVR, SlAt, hI2]
          exact ⟨cap, rfl, hc1, hc2⟩
    · exact hs.elim
  · exact hs.elim
end
end Go.Xr
namespace Go.Xr
open Go
theorem pEqL_iff {α : Type} {f : α → α → Bool} (h : ∀ x y, f x y = true ↔ x = y) : ∀ l m : List α, pEqL f l m = true ↔ l = m
  | [], [] => by simp [pEqL]
  | [], _ :: _ => by simp [pEqL]
  | _ :: _, [] => by simp [pEqL]
  | x :: xs, y :: ys => by simp [pEqL, h, pEqL_iff h xs ys]
theorem Ty.eqb_iff : ∀ t : Ty, t.comparable = true → ∀ x y : t.T, t.eqb x y = true ↔ x = y
  | .int k, _, x, y => by simp [Ty.eqb, pEq]
  | .bool, _, x, y => by simp [Ty.eqb, pEqB]
  | .str, _, x, y => by simp [Ty.eqb, pEqS]
  | .unit, _, x, y => by simp [Ty.eqb, pB]
  | .pair a b, h, x, y => by
    simp only [Ty.comparable, Bool.and_eq_true] at h
    obtain ⟨x1, x2⟩ := x
    obtain ⟨y1, y2⟩ := y
    simp only [Ty.eqb, pAndB, Bool.and_eq_true, pFst, pSnd, Ty.eqb_iff a h.1, Ty.eqb_iff b h.2, Prod.mk.injEq]
  | .st a, h, x, y => Ty.eqb_iff a h x y
  | .arr n a, h, x, y => by
    simp only [Ty.eqb]
    exact pEqL_iff (Ty.eqb_iff a h) x y
  | .sl _ _, h, _, _ => by simp [Ty.comparable] at h
section
variable {F : Fence} {n : Nat} {P : Program} {K : Kit} {o : Oper} {a : Act} {w w' : World} {Qx : Exit → Act → World → Prop} {u : Value}
variable {b : Base} {us : List (Array Value)} {c c' : Cx} {s s' : AS} {Q : Ex → AS → Prop} {T : TypeId}
def Plain : Value → Prop | .int _ _ | .bool _ | .string _ => True | _ => False
theorem RepL_plain {α : Type} {R : α → List Value → Prop} (hR : ∀ x cs, R x cs → ∀ v ∈ cs, Plain v) : ∀ (xs : List α) (cs : List Value), RepL R xs cs → ∀ v ∈ cs, Plain v
  | [], cs, h, v, hv => by rw [show cs = [] from h] at hv; cases hv
  | x :: xs, _, ⟨c1, c2, rfl, h1, h2⟩, v, hv => by
    rcases List.mem_append.1 hv with h | h
    · exact hR x c1 h1 v h
    · exact RepL_plain hR xs c2 h2 v h
theorem RepC_plain {E : Bool → Nat → Prop} : ∀ (t : Ty), t.comparable = true → ∀ (x : t.T) (cs : List Value), RepC w E t x cs → ∀ v ∈ cs, Plain v
  | .int k, _, x, cs, h, v, hv => by rw [h.1] at hv; simp at hv; subst hv; trivial
  | .bool, _, x, cs, h, v, hv => by rw [show cs = _ from h] at hv; simp at hv; subst hv; trivial
  | .str, _, x, cs, ⟨s, h, _⟩, v, hv => by rw [h] at hv; simp at hv; subst hv; trivial
  | .unit, _, x, cs, h, v, hv => by rw [show cs = _ from h] at hv; cases hv
  | .pair a b, hc, x, _, ⟨c1, c2, rfl, h1, h2⟩, v, hv => by
    simp only [Ty.comparable, Bool.and_eq_true] at hc
    rcases List.mem_append.1 hv with h | h
    · exact RepC_plain a hc.1 _ c1 h1 v h
    · exact RepC_plain b hc.2 _ c2 h2 v h
  | .st a, hc, x, cs, h, v, hv => RepC_plain a hc x cs h v hv
  | .arr n a, hc, x, cs, ⟨_, h⟩, v, hv => RepL_plain (RepC_plain a hc) x cs h v hv
  | .sl _ _, hc, _, _, _, _, _ => by simp [Ty.comparable] at hc
theorem RepL_same2 {α : Type} {R1 R2 : α → List Value → Prop} (hR : ∀ x c d, R1 x c → R2 x d → c = d) : ∀ (xs : List α) (cs ds : List Value), RepL R1 xs cs → RepL R2 xs ds → cs = ds
  | [], cs, ds, h, k => by rw [show cs = [] from h, show ds = [] from k]
  | x :: xs, _, _, ⟨c1, c2, rfl, h1, h2⟩, ⟨d1, d2, rfl, k1, k2⟩ => by rw [hR x c1 d1 h1 k1, RepL_same2 hR xs c2 d2 h2 k2]
theorem RepC_free {w1 w2 : World} {E1 E2 : Bool → Nat → Prop} : ∀ (t : Ty), t.comparable = true → ∀ (x : t.T) (cs : List Value), RepC w1 E1 t x cs → RepC w2 E2 t x cs
  | .int k, _, x, cs, h => h
  | .bool, _, x, cs, h => h
  | .str, _, x, cs, h => h
  | .unit, _, x, cs, h => h
  | .pair a b, hc, x, _, ⟨c1, c2, e, h1, h2⟩ => by
    simp only [Ty.comparable, Bool.and_eq_true] at hc
    exact ⟨c1, c2, e, RepC_free a hc.1 _ c1 h1, RepC_free b hc.2 _ c2 h2⟩
  | .st a, hc, x, cs, h => RepC_free a hc x cs h
  | .arr n a, hc, x, cs, ⟨e, h⟩ => ⟨e, RepL.mono (RepC_free a hc) x cs h⟩
  | .sl _ _, hc, _, _, _ => by simp [Ty.comparable] at hc
theorem RepC_same2 {w1 w2 : World} {E1 E2 : Bool → Nat → Prop} : ∀ (t : Ty), t.comparable = true → ∀ (x : t.T) (cs ds : List Value), RepC w1 E1 t x cs → RepC w2 E2 t x ds → cs = ds
  | .int k, _, x, cs, ds, h, k' => by rw [h.1, k'.1]
  | .bool, _, x, cs, ds, h, k => by rw [show cs = _ from h, show ds = _ from k]
  | .str, _, x, cs, ds, ⟨s1, h, h2, _⟩, ⟨s2, k, k2, _⟩ => by
    have hi : Function.Injective (fun b : UInt8 => (b.toNat : Int)) := fun a b hab => UInt8.toNat_inj.1 (Int.ofNat_inj.1 hab)
    have : s1 = s2 := by
      rw [h2] at k2
      have := (List.map_inj_right (f := fun b : UInt8 => (b.toNat : Int)) (fun a b hab => hi hab)).1 k2
      cases s1; cases s2
      simp at this
      rw [this]
    rw [h, k, this]
  | .unit, _, x, cs, ds, h, k => by rw [show cs = _ from h, show ds = _ from k]
  | .pair a b, hc, x, _, _, ⟨c1, c2, rfl, h1, h2⟩, ⟨d1, d2, rfl, k1, k2⟩ => by
    simp only [Ty.comparable, Bool.and_eq_true] at hc
    rw [RepC_same2 a hc.1 _ c1 d1 h1 k1, RepC_same2 b hc.2 _ c2 d2 h2 k2]
  | .st a, hc, x, cs, ds, h, k => RepC_same2 a hc x cs ds h k
  | .arr n a, hc, x, cs, ds, ⟨_, h⟩, ⟨_, k⟩ => RepL_same2 (fun x c d => RepC_same2 a hc x c d) x cs ds h k
  | .sl _ _, hc, _, _, _, _, _ => by simp [Ty.comparable] at hc
theorem sameBits_one {m : Nat} {v : Value} (h : Plain v) : Instr.sameBits m v v = true := by
  cases v <;> first | exact h.elim | (cases m <;> simp [Instr.sameBits, MapKept.bytes_beq])
theorem sameBits_key {E : Bool → Nat → Prop} {t : Ty} (hc : t.comparable = true) {x : t.T} {cs : List Value} (h : RepC w E t x cs) (hz : t.isAgg = false → ∃ v, cs = [v]) : Instr.sameBits 10000 (valOf t cs) (valOf t cs) = true := by
  unfold valOf
  cases ha : t.isAgg with
  | true =>
    simp only [if_true]
    show Instr.sameBits (9999 + 1) _ _ = true
    simp only [Instr.sameBits, beq_self_eq_true, Bool.true_and, List.all_eq_true]
    intro p hp
    obtain ⟨i, hi, e⟩ := List.mem_iff_getElem.1 hp
    simp at e hi
    obtain rfl := e.symm
    exact sameBits_one (RepC_plain t hc x cs h _ (List.getElem_mem _))
  | false =>
    obtain ⟨v, rfl⟩ := hz ha
    simp only [Bool.false_eq_true, if_false, List.getD_cons_zero]
    exact sameBits_one (RepC_plain t hc x _ h v (by simp))
theorem chk_rounds {α : Type} {R1 : α → List Value → Prop} {e : TypeId} {sz d : Nat} {em : Bool} {cs : List Value}
    (hR : ∀ x c1 off, R1 x c1 → (∃ pre post, cs = pre ++ c1 ++ post ∧ pre.length = off) → ∀ w, (do Instr.checkKey em d e (← part e cs.toArray off) : Sem Unit).run P w = .ok () w) (hl : ∀ x c, R1 x c → c.length = sz) :
    ∀ (xs : List α) (c : List Value) (pre : List Value) (k : Nat), cs = pre ++ c → pre.length = k * sz → RepL R1 xs c → ∀ w,
      (forIn (List.range' k xs.length) PUnit.unit (fun i (_ : PUnit.{1}) => do Instr.checkKey em d e (← part e cs.toArray (i * sz)); pure (ForInStep.yield PUnit.unit)) : Sem PUnit.{1}).run P w = .ok PUnit.unit w
  | [], c, pre, k, e1, e2, h, w => by simp
  | x :: xs, c, pre, k, e1, e2, ⟨c1, c2, e3, h1, h2⟩, w => by
    have hh := hR x c1 (k * sz) h1 ⟨pre, c2, by rw [e1, e3]; simp, e2⟩ w
    have ih := chk_rounds hR hl xs c2 (pre ++ c1) (k + 1) (by rw [e1, e3]; simp) (by rw [List.length_append, e2, hl x c1 h1, Nat.succ_mul]) h2 w
    simp only [List.length_cons, List.range'_succ, List.forIn_cons, Sem.run_bind] at hh ⊢
    cases hp : Sem.run P (part e cs.toArray (k * sz)) w with
    | ok v w1 =>
      rw [hp] at hh
      simp only [Result.andThen_ok] at hh ⊢
      rw [hh]
      simp only [Result.andThen_ok, Sem.run_pure]
      exact ih
    | halt z w1 => rw [hp] at hh; simp at hh
mutual
theorem chk_one {E : Bool → Nat → Prop} {em : Bool} {w1 : World} : ∀ (t : Ty) (T : TypeId) (x : t.T) (cs : List Value) (d : Nat), tyB P t (.inl T) = true → t.comparable = true → t.deep ≤ d → RepC w1 E t x cs →
    ∀ w, (Instr.checkKey em d T (valOf t cs)).run P w = .ok () w
  | .int k, T, x, cs, d + 1, hT, _, _, h1, w => by
    rw [h1.1]
    simp [valOf, Ty.isAgg, Instr.checkKey, underlying_of (tyB_int hT)]
  | .bool, T, x, cs, d + 1, hT, _, _, h1, w => by
    rw [show cs = _ from h1]
    simp [valOf, Ty.isAgg, Instr.checkKey, underlying_of (tyB_bool hT)]
  | .str, T, x, cs, d + 1, hT, _, _, h1, w => by
    obtain ⟨s1, rfl, hx, _⟩ := h1
    simp [valOf, Ty.isAgg, Instr.checkKey, underlying_of (tyB_str hT)]
  | .st a, T, x, cs, d + 1, hT, hc, hd, h1, w => by
    obtain ⟨fs, hu, hr, hs, hg⟩ := tyB_st hT
    simp only [valOf, Ty.isAgg, if_true, Instr.checkKey, Sem.run_bind, underlying_of hu, Result.andThen_ok]
    rw [← Array.forIn_toList]
    have := chk_row (em := em) a fs.toList 0 x cs cs d hr (by simpa [Ty.comparable] using hc) (by simp [Ty.deep] at hd; omega) h1 ⟨[], [], by simp, rfl⟩ w
    rw [this]
    simp
  | .arr n a, T, x, cs, d + 1, hT, hc, hd, h1, w => by
    obtain ⟨e, hu, hr, hg⟩ := tyB_arr hT
    obtain ⟨l1, r1⟩ := h1
    have key := chk_rounds (P := P) (R1 := RepC w1 E a) (e := e) (sz := a.size) (d := d) (em := em) (cs := cs)
      (fun x c1 off q1 p1 w => by
        simp only [Sem.run_bind, run_part_at hr p1 (RepC.len a _ _ q1), Result.andThen_ok]
        exact chk_one a e x c1 d hr (by simpa [Ty.comparable] using hc) (by simp [Ty.deep] at hd; omega) q1 w) (RepC.len a)
      x cs [] 0 (by simp) (by simp) r1 w
    simp only [valOf, Ty.isAgg, if_true, Instr.checkKey, Sem.run_bind, underlying_of hu, Result.andThen_ok]
    simp only [Std.Legacy.Range.forIn_eq_forIn_range', Std.Legacy.Range.size, Nat.sub_zero, Nat.add_one_sub_one, Nat.div_one]
    rw [l1] at key
    have hsz : ∀ (l : List Nat) w, (forIn l PUnit.unit (fun (i : Nat) (r : PUnit.{1}) => (do
        let __do_lift ← sizeOf e
        let __do_lift ← part e cs.toArray (i * __do_lift)
        Instr.checkKey em d e __do_lift
        pure (ForInStep.yield PUnit.unit) : Sem (ForInStep PUnit.{1}))) : Sem PUnit.{1}).run P w = (forIn l PUnit.unit (fun i (_ : PUnit.{1}) => do Instr.checkKey em d e (← part e cs.toArray (i * a.size)); pure (ForInStep.yield PUnit.unit)) : Sem PUnit.{1}).run P w := by
      intro l
      induction l with
      | nil => intro w; rfl
      | cons i l ih =>
        intro w
        simp only [List.forIn_cons, Sem.run_bind, info_size hr, Result.andThen_ok]
        congr 1
        funext r w'
        cases r with
        | done r => rfl
        | yield r => exact ih w'
    rw [hsz, key]
    simp
  | .unit, T, _, _, _, hT, _, _, _, _ => by simp [tyB] at hT
  | .pair _ _, T, _, _, _, hT, _, _, _, _ => by simp [tyB] at hT
  | .sl _ _, T, _, _, _, hT, hc, _, _, _ => by simp [Ty.comparable] at hc
  | .int _, _, _, _, 0, _, _, hd, _, _ | .bool, _, _, _, 0, _, _, hd, _, _ | .str, _, _, _, 0, _, _, hd, _, _ => by simp [Ty.deep] at hd
  | .st _, _, _, _, 0, _, _, hd, _, _ | .arr _ _, _, _, _, 0, _, _, hd, _, _ => by simp [Ty.deep] at hd
termination_by t => (SizeOf.sizeOf t, 0)
theorem chk_row {E : Bool → Nat → Prop} {em : Bool} {w1 : World} : ∀ (t : Ty) (fs : List Field) (off : Nat) (x : t.T) (cs xs : List Value) (d : Nat), tyB P t (.inr (fs, off)) = true → t.comparable = true → t.deep ≤ d → RepC w1 E t x cs →
    (∃ pre post, xs = pre ++ cs ++ post ∧ pre.length = off) →
    ∀ w, (forIn fs PUnit.unit (fun f (_ : PUnit.{1}) => do
      if f.name ≠ "_" then Instr.checkKey em d f.type (← part f.type xs.toArray f.offset)
      pure (ForInStep.yield PUnit.unit)) : Sem PUnit.{1}).run P w = .ok PUnit.unit w := by
  intro t fs off x cs xs d hT hc hd h1 hx w
  have single : ∀ f, fs = [f] → f.offset = off → (f.name == "_") = false → tyB P t (.inl f.type) = true → (forIn fs PUnit.unit (fun f (_ : PUnit.{1}) => do
      if f.name ≠ "_" then Instr.checkKey em d f.type (← part f.type xs.toArray f.offset)
      pure (ForInStep.yield PUnit.unit)) : Sem PUnit.{1}).run P w = .ok PUnit.unit w := by
    intro f hf ho hn hty
    have q := chk_one (em := em) t f.type x cs d hty hc hd h1 w
    subst hf
    have hn' : f.name ≠ "_" := by simpa using hn
    simp only [List.forIn_cons, List.forIn_nil, if_pos hn', Sem.run_bind, ho, run_part_at hty hx (RepC.len t _ _ h1), Result.andThen_ok, q, Sem.run_pure]
  have one : ∀ R, oneB P (.inr (fs, off)) R = true → ∃ f, fs = [f] ∧ f.offset = off ∧ (f.name == "_") = false ∧ R f.type = true := by
    intro R hR
    match fs, hR with
    | [f], hR =>
      simp only [oneB, Bool.and_eq_true, Bool.not_eq_true'] at hR
      exact ⟨f, rfl, Nat.eq_of_beq_eq_true hR.1.1, hR.1.2, hR.2⟩
  match t, x, hT, hc, hd, h1, single with
  | .int k, x, hT, hc, hd, h1, single => obtain ⟨f, a1, a2, a3, a4⟩ := one _ hT; exact single f a1 a2 a3 a4
  | .bool, x, hT, hc, hd, h1, single => obtain ⟨f, a1, a2, a3, a4⟩ := one _ hT; exact single f a1 a2 a3 a4
  | .str, x, hT, hc, hd, h1, single => obtain ⟨f, a1, a2, a3, a4⟩ := one _ hT; exact single f a1 a2 a3 a4
  | .st a, x, hT, hc, hd, h1, single => obtain ⟨f, a1, a2, a3, a4⟩ := one _ hT; exact single f a1 a2 a3 a4
  | .arr n a, x, hT, hc, hd, h1, single => obtain ⟨f, a1, a2, a3, a4⟩ := one _ hT; exact single f a1 a2 a3 a4
  | .sl b a, x, hT, hc, hd, h1, single => simp [Ty.comparable] at hc
  | .unit, x, hT, hc, hd, h1, single =>
    match fs, hT with
    | [], _ => simp
  | .pair a b, x, hT, hc, hd, h1, single =>
    match fs, hT with
    | f :: fs, hT =>
      simp only [tyB, Bool.and_eq_true, Bool.not_eq_true'] at hT
      obtain ⟨⟨⟨ho, hn⟩, hta⟩, htb⟩ := hT
      have ho := Nat.eq_of_beq_eq_true ho
      have hn' : f.name ≠ "_" := by simpa using hn
      obtain ⟨ca, cb, rfl, ra, rb⟩ := h1
      obtain ⟨pre, post, rfl, hp⟩ := hx
      simp only [Ty.comparable, Bool.and_eq_true] at hc
      simp only [Ty.deep] at hd
      have q := chk_one (em := em) a f.type (pFst x) ca d hta hc.1 (by omega) ra w
      have ih := chk_row (em := em) b fs (Nat.add off a.size) (pSnd x) cb (pre ++ (ca ++ cb) ++ post) d htb hc.2 (by omega) rb
        ⟨pre ++ ca, post, by simp, by rw [List.length_append, hp, RepC.len a _ _ ra]; rfl⟩ w
      have p1 := run_part_at (P := P) (w := w) hta (xs := pre ++ (ca ++ cb) ++ post) (c1 := ca) (off := off) ⟨pre, cb ++ post, by simp, hp⟩ (RepC.len a _ _ ra)
      simp only [List.append_assoc] at ih p1 ⊢
      simp only [List.forIn_cons, if_pos hn', Sem.run_bind, ho, p1, Result.andThen_ok, q, Sem.run_pure]
      exact ih
termination_by t => (SizeOf.sizeOf t, 1)
end
end
end Go.Xr
namespace Go.Xr
open Go
section
variable {F : Fence} {n : Nat} {P : Program} {K : Kit} {o : Oper} {a : Act} {w w' : World} {Qx : Exit → Act → World → Prop} {u : Value}
variable {b : Base} {us : List (Array Value)} {c c' : Cx} {s s' : AS} {Q : Ex → AS → Prop} {T : TypeId}
theorem isV_valOf {t : Ty} {cs : List Value} {v : Value} (h : IsV t.isAgg cs v) : v = valOf t cs := by
  unfold IsV at h
  unfold valOf
  cases ha : t.isAgg with
  | true => rw [ha] at h; simpa using h
  | false => rw [ha] at h; simp at h; simp [h]
def FindR {α β : Type} (eq : α → α → Bool) (x : α) (ps : List (α × β)) (es : List MapEntry) (r : Option (Nat × Value)) : Prop :=
  (r = none ∧ ∀ p ∈ ps, eq x p.1 = false) ∨ ∃ pre p post epre e epost, ps = pre ++ p :: post ∧ es = epre ++ e :: epost ∧ pre.length = epre.length ∧ r = some (epre.length, e.val) ∧ eq x p.1 = true ∧ ∀ q ∈ pre, eq x q.1 = false
theorem FindR.cons {α β : Type} {eq : α → α → Bool} {x : α} {p : α × β} {ps : List (α × β)} {e : MapEntry} {es : List MapEntry} {r : Option (Nat × Value)} (hp : eq x p.1 = false) (h : FindR eq x ps es r) : FindR eq x (p :: ps) (e :: es) (r.map fun z => (z.1 + 1, z.2)) := by
  rcases h with ⟨rfl, h⟩ | ⟨pre, q, post, epre, e', epost, rfl, rfl, hl, rfl, hq, hpre⟩
  · refine .inl ⟨rfl, fun q hq => ?_⟩
    rcases List.mem_cons.1 hq with rfl | hq
    · exact hp
    · exact h q hq
  · refine .inr ⟨p :: pre, q, post, e :: epre, e', epost, rfl, rfl, by simp [hl], rfl, hq, fun z hz => ?_⟩
    rcases List.mem_cons.1 hz with rfl | hz
    · exact hp
    · exact hpre z hz
theorem FindR.here {α β : Type} {eq : α → α → Bool} {x : α} {p : α × β} {ps : List (α × β)} {e : MapEntry} {es : List MapEntry} (hp : eq x p.1 = true) : FindR eq x (p :: ps) (e :: es) (some (0, e.val)) :=
  .inr ⟨[], p, ps, [], e, es, rfl, rfl, rfl, rfl, hp, fun q hq => by cases hq⟩
theorem asking_spec {E : Bool → Nat → Prop} {tk tv : Ty} {kt : TypeId} {w1 : World} {x : tk.T} {cs : List Value} (hT : tyB P tk (.inl kt) = true) (hc : tk.comparable = true) (hd : tk.deep ≤ 10000) (hx : RepC w1 E tk x cs) {w2 : World} {E2 : Bool → Nat → Prop} :
    ∀ (ps : List (tk.T × tv.T)) (es : List MapEntry) (i : Nat), EntL w2 E2 tk tv ps es → ∃ r, FindR tk.eqb x ps es r ∧ ∀ w, (Instr.findAsking kt (valOf tk cs) es i).run P w = .ok (r.map fun z => (z.1 + i, z.2)) w
  | [], es, i, h => by
    rw [show es = [] from h]
    exact ⟨none, .inl ⟨rfl, by simp⟩, fun w => by simp [Instr.findAsking]⟩
  | p :: ps, es, i, ⟨e, r, e1, ⟨ck, h1, h2⟩, h3, h4⟩ => by
    subst e1
    have hq := eq_one (P := P) tk kt x p.1 cs ck 10000 hT hc hd hx (RepC_free (w2 := w2) (E2 := E) tk hc _ _ h1)
    cases hb : tk.eqb x p.1 with
    | true =>
      refine ⟨_, FindR.here hb, fun w => ?_⟩
      have hqw := hq w
      rw [hb] at hqw
      simp only [Instr.findAsking, Op.equal, Op.maxDepth, isV_valOf h2, Sem.run_bind, hqw, Result.andThen_ok, if_true, Sem.run_pure, Option.map_some, Nat.zero_add]
    | false =>
      obtain ⟨r', k1, k2⟩ := asking_spec hT hc hd hx ps r (i + 1) h4
      refine ⟨_, k1.cons hb, fun w => ?_⟩
      have hqw := hq w
      rw [hb] at hqw
      simp only [Instr.findAsking, Op.equal, Op.maxDepth, isV_valOf h2, Sem.run_bind, hqw, Result.andThen_ok, Bool.false_eq_true, if_false, k2]
      cases r' <;> simp [Nat.add_assoc, Nat.add_comm 1 i]
theorem now_spec {tk tv : Ty} {d : TypeDesc} {x : tk.T} {u : Value} (hs : ∀ (y : tk.T) (cs : List Value) {w2 : World} {E2 : Bool → Nat → Prop} (v : Value), RepC w2 E2 tk y cs → IsV tk.isAgg cs v → Instr.sameNow d u v = some (tk.eqb x y)) {w2 : World} {E2 : Bool → Nat → Prop} :
    ∀ (ps : List (tk.T × tv.T)) (es : List MapEntry) (i : Nat), EntL w2 E2 tk tv ps es → ∃ r, FindR tk.eqb x ps es r ∧ Instr.findNow d u es i = some (r.map fun z => (z.1 + i, z.2))
  | [], es, i, h => by
    rw [show es = [] from h]
    exact ⟨none, .inl ⟨rfl, by simp⟩, by simp [Instr.findNow]⟩
  | p :: ps, es, i, ⟨e, r, e1, ⟨ck, h1, h2⟩, h3, h4⟩ => by
    subst e1
    have hq := hs p.1 ck _ h1 h2
    cases hb : tk.eqb x p.1 with
    | true =>
      refine ⟨_, FindR.here hb, ?_⟩
      rw [hb] at hq
      simp [Instr.findNow, hq]
    | false =>
      obtain ⟨r', k1, k2⟩ := now_spec hs ps r (i + 1) h4
      refine ⟨_, k1.cons hb, ?_⟩
      rw [hb] at hq
      simp only [Instr.findNow, hq, k2]
      cases r' <;> simp [Nat.add_assoc, Nat.add_comm 1 i]
theorem findKey_spec {E : Bool → Nat → Prop} {tk tv : Ty} {kt : TypeId} {w1 : World} {x : tk.T} {cs : List Value} (hT : tyB P tk (.inl kt) = true) (hc : tk.comparable = true) (hd : tk.deep ≤ 10000) (hx : RepC w1 E tk x cs) {w2 : World} {E2 : Bool → Nat → Prop}
    {ps : List (tk.T × tv.T)} {es : List MapEntry} (h : EntL w2 E2 tk tv ps es) : ∃ r, FindR tk.eqb x ps es r ∧ ∀ w, (Instr.findKey kt (valOf tk cs) es).run P w = .ok r w := by
  have now : ∀ {d : TypeDesc}, P.underlying kt = some d → (∀ (y : tk.T) (cs' : List Value) {w2 : World} {E2 : Bool → Nat → Prop} (v : Value), RepC w2 E2 tk y cs' → IsV tk.isAgg cs' v → Instr.sameNow d (valOf tk cs) v = some (tk.eqb x y)) → ∃ r, FindR tk.eqb x ps es r ∧ ∀ w, (Instr.findKey kt (valOf tk cs) es).run P w = .ok r w := by
    intro d hu hs
    obtain ⟨r, h1, h2⟩ := now_spec hs ps es 0 h
    refine ⟨r, h1, fun w => ?_⟩
    simp only [Instr.findKey, Sem.run_bind, underlying_of hu, Result.andThen_ok, h2, Sem.run_pure]
    cases r <;> simp
  have ask : ∀ {d : TypeDesc}, P.underlying kt = some d → (∀ u v, Instr.sameNow d u v = none) → ∃ r, FindR tk.eqb x ps es r ∧ ∀ w, (Instr.findKey kt (valOf tk cs) es).run P w = .ok r w := by
    intro d hu hs
    obtain ⟨r, h1, h2⟩ := asking_spec hT hc hd hx ps es 0 h
    refine ⟨r, h1, fun w => ?_⟩
    cases ps with
    | nil =>
      rw [show es = [] from h] at h1 ⊢
      rcases h1 with ⟨rfl, _⟩ | ⟨pre, p, post, epre, e, epost, hh, _⟩
      · simp [Instr.findKey, underlying_of hu, Instr.findNow]
      · simp at hh
    | cons p ps =>
      obtain ⟨e, r', rfl, _⟩ := h
      simp only [Instr.findKey, Sem.run_bind, underlying_of hu, Result.andThen_ok, Instr.findNow, hs, h2 w]
      cases r <;> simp
  cases tk with
  | int k =>
    refine now (tyB_int hT) fun y cs' w2 E2 v hy hv => ?_
    have hx1 := hx.1
    have hy1 := hy.1
    rw [isV_valOf hv, hx1, hy1]
    simp [valOf, Ty.isAgg, Instr.sameNow, Ty.eqb, pEq]
    rfl
  | bool =>
    refine now (tyB_bool hT) fun y cs' w2 E2 v hy hv => ?_
    rw [isV_valOf hv, show cs = _ from hx, show cs' = _ from hy]
    simp [valOf, Ty.isAgg, Instr.sameNow, Ty.eqb, pEqB]
  | str =>
    refine now (tyB_str hT) fun y cs' w2 E2 v hy hv => ?_
    obtain ⟨s1, rfl, hx1, _⟩ := hx
    obtain ⟨s2, rfl, hy1, _⟩ := hy
    rw [isV_valOf hv]
    simp only [valOf, Ty.isAgg, Bool.false_eq_true, if_false, List.getD_cons_zero, Instr.sameNow, Ty.eqb, Option.some.injEq]
    have := str_eq hx1 hy1
    rw [show pEqS x y = decide (x = y) from rfl, ← this]
    rw [Bool.eq_iff_iff, MapKept.bytes_beq]
    simp only [beq_iff_eq]
    constructor
    · intro e; rw [e]
    · intro e
      have hi : Function.Injective (fun b : UInt8 => (b.toNat : Int)) := fun a b hab => UInt8.toNat_inj.1 (Int.ofNat_inj.1 hab)
      have e2 : decide (x = y) = true := by rw [← this]; simp [e]
      have e3 := of_decide_eq_true e2
      rw [hx1, hy1] at e3
      have e4 := (List.map_inj_right (f := fun b : UInt8 => (b.toNat : Int)) (fun a b hab => hi hab)).1 e3
      cases s1; cases s2
      simp at e4
      rw [e4]
  | unit => simp [tyB] at hT
  | pair a b => simp [tyB] at hT
  | st a => obtain ⟨fs, hu, _⟩ := tyB_st hT; exact ask hu fun u v => by cases u <;> cases v <;> rfl
  | arr k a => obtain ⟨e, hu, _⟩ := tyB_arr hT; exact ask hu fun u v => by cases u <;> cases v <;> rfl
  | sl b a => simp [Ty.comparable] at hc
theorem pMHas_none {α β : Type} {eq : α → α → Bool} {x : α} : ∀ {ps : List (α × β)}, (∀ p ∈ ps, eq x p.1 = false) → pMHas eq ps x = false
  | [], _ => rfl
  | p :: ps, h => by simp [pMHas, h p (by simp), pMHas_none (ps := ps) fun q hq => h q (by simp [hq])]
theorem pMGet_none {α β : Type} {eq : α → α → Bool} {x : α} {d : β} : ∀ {ps : List (α × β)}, (∀ p ∈ ps, eq x p.1 = false) → pMGet eq d ps x = d
  | [], _ => rfl
  | p :: ps, h => by simp [pMGet, h p (by simp), pMGet_none (ps := ps) fun q hq => h q (by simp [hq])]
theorem pMPut_none {α β : Type} {eq : α → α → Bool} {x : α} {v : β} : ∀ {ps : List (α × β)}, (∀ p ∈ ps, eq x p.1 = false) → pMPut eq ps x v = ps ++ [(x, v)]
  | [], _ => rfl
  | p :: ps, h => by simp [pMPut, h p (by simp), pMPut_none (ps := ps) fun q hq => h q (by simp [hq])]
theorem pMDel_none {α β : Type} {eq : α → α → Bool} {x : α} : ∀ {ps : List (α × β)}, (∀ p ∈ ps, eq x p.1 = false) → pMDel eq ps x = ps
  | [], _ => rfl
  | p :: ps, h => by simp [pMDel, h p (by simp), pMDel_none (ps := ps) fun q hq => h q (by simp [hq])]
theorem pM_some {α β : Type} {eq : α → α → Bool} {x : α} {p : α × β} {post : List (α × β)} (hp : eq x p.1 = true) : ∀ {pre : List (α × β)}, (∀ q ∈ pre, eq x q.1 = false) →
    pMHas eq (pre ++ p :: post) x = true ∧ (∀ d, pMGet eq d (pre ++ p :: post) x = p.2) ∧ (∀ v, pMPut eq (pre ++ p :: post) x v = pre ++ (p.1, v) :: post) ∧ pMDel eq (pre ++ p :: post) x = pre ++ post
  | [], _ => by simp [pMHas, pMGet, pMPut, pMDel, hp]
  | q :: pre, h => by
    obtain ⟨h1, h2, h3, h4⟩ := pM_some (post := post) hp (pre := pre) fun z hz => h z (by simp [hz])
    simp [pMHas, pMGet, pMPut, pMDel, h q (by simp), h1, h2, h3, h4]
theorem EntL_append {E : Bool → Nat → Prop} {k v : Ty} : ∀ (ps qs : List (k.T × v.T)) (es : List MapEntry), EntL w E k v (ps ++ qs) es ↔ ∃ e1 e2, es = e1 ++ e2 ∧ EntL w E k v ps e1 ∧ EntL w E k v qs e2
  | [], qs, es => ⟨fun h => ⟨[], es, rfl, rfl, h⟩, fun ⟨e1, e2, h, h1, h2⟩ => by rw [show e1 = [] from h1] at h; simp at h; rw [h]; exact h2⟩
  | p :: ps, qs, es => by
    constructor
    · rintro ⟨e, r, rfl, h1, h2, h3⟩
      obtain ⟨e1, e2, rfl, k1, k2⟩ := (EntL_append ps qs r).1 h3
      exact ⟨e :: e1, e2, rfl, ⟨e, e1, rfl, h1, h2, k1⟩, k2⟩
    · rintro ⟨e1, e2, rfl, ⟨e, r, rfl, h1, h2, h3⟩, k2⟩
      exact ⟨e, r ++ e2, rfl, h1, h2, (EntL_append ps qs (r ++ e2)).2 ⟨r, e2, rfl, h3, k2⟩⟩
theorem EntL_len {E : Bool → Nat → Prop} {k v : Ty} : ∀ (ps : List (k.T × v.T)) (es : List MapEntry), EntL w E k v ps es → es.length = ps.length
  | [], es, h => by rw [show es = [] from h]; rfl
  | p :: ps, _, ⟨e, r, rfl, _, _, h⟩ => by simp [EntL_len ps r h]
theorem EntL_split {E : Bool → Nat → Prop} {k v : Ty} {pre post : List (k.T × v.T)} {p : k.T × v.T} {epre epost : List MapEntry} {e : MapEntry} (hl : pre.length = epre.length) (h : EntL w E k v (pre ++ p :: post) (epre ++ e :: epost)) :
    EntL w E k v pre epre ∧ (∃ cs, RepC w E k p.1 cs ∧ IsV k.isAgg cs e.key) ∧ (∃ cs, RepC w E v p.2 cs ∧ IsV v.isAgg cs e.val) ∧ EntL w E k v post epost := by
  obtain ⟨e1, e2, he, h1, h2⟩ := (EntL_append _ _ _).1 h
  obtain ⟨h3, h4⟩ := List.append_inj he (by rw [EntL_len _ _ h1, hl])
  subst h3 h4
  obtain ⟨e', r, he2, k1, k2, k3⟩ := h2
  simp only [List.cons.injEq] at he2
  obtain ⟨rfl, rfl⟩ := he2
  exact ⟨h1, k1, k2, k3⟩
end
end Go.Xr
namespace Go.Xr
open Go
section
variable {F : Fence} {n : Nat} {P : Program} {K : Kit} {o : Oper} {a : Act} {w w' : World} {Qx : Exit → Act → World → Prop} {u : Value}
variable {b : Base} {us : List (Array Value)} {c c' : Cx} {s s' : AS} {Q : Ex → AS → Prop} {T : TypeId}
theorem kv_spec (hK : KitOK P K) {tk tv : Ty} (h : K.kv T = some (tk, tv)) : ∃ kt vt, P.underlying T = some (.map kt vt) ∧ tyB P tk (.inl kt) = true ∧ tyB P tv (.inl vt) = true ∧ tk.comparable = true ∧ tk.deep ≤ 10000 := by
  unfold Kit.kv at h
  split at h
  · rename_i k v ht
    split at h
    · rename_i x y hx hy
      split at h
      · rename_i hc
        cases h
        have := hK.td T
        unfold tdB at this
        rw [ht] at this
        simp only [Bool.and_eq_true] at this
        obtain ⟨h1, _⟩ := this
        split at h1
        · rename_i k' e' hu
          simp only [Bool.and_eq_true] at h1
          have e1 := Nat.eq_of_beq_eq_true h1.1
          have e2 := Nat.eq_of_beq_eq_true h1.2
          subst e1 e2
          exact ⟨_, _, hu, (td_pure hK hx).1, (td_pure hK hy).1, hc, (td_pure hK hx).2⟩
        · cases h1
      · cases h
    · cases h
  · cases h
theorem mpl_spec {i : Nat} {l : MPL} (h : s.mpl i = some l) : s.box i = some (.buf .mp (.pair l.k l.v) l.xs) := by
  unfold AS.mpl at h
  split at h
  · rename_i k v xs hb; cases h; exact hb
  · cases h
theorem mp_open (h : St c us s a) {i : Nat} {tk tv : Ty} {xs : PL (PP tk.T tv.T)} (hb : s.box i = some (.buf .mp (.pair tk tv) xs)) : ∃ blk es clock, c.ρ i = some (blk, 0) ∧ c.w.heap[blk]? = some (.map es clock) ∧ EntL c.w c.E tk tv xs es.toList ∧
    List.Pairwise (fun p q : tk.T × tv.T => p.1 ≠ q.1) xs ∧ MapKept.Stamped es clock ∧ ∀ u, AVR c.w c.E (c.I s) (.mp i) u → u = .map (some blk) := by
  obtain ⟨blk, h1, es, clock, h2, h3, h4, h5⟩ := h.bx i _ hb
  have hI : c.I s i = some (.buf .mp (.pair tk tv) 0 (some (blk, 0, 0))) := by unfold Cx.I; rw [hb, h1]; rfl
  exact ⟨blk, es, clock, h1, h2, h3, h4, h5, fun u hu => by simpa only [AVR, MpAt, hI] using hu⟩
theorem St.setMap (h : St c us s a) (hfr : Fr b c s) {i : Nat} {tk tv : Ty} {xs ys : PL (PP tk.T tv.T)} {blk : Nat} {es es' : Array MapEntry} {cl cl' : Nat} (hb : s.box i = some (.buf .mp (.pair tk tv) xs)) (hρ : c.ρ i = some (blk, 0)) (hheap : c.w.heap[blk]? = some (.map es cl))
    (hE : EntL c.w c.E tk tv ys es'.toList) (hp : List.Pairwise (fun p q : tk.T × tv.T => p.1 ≠ q.1) ys) (hst : MapKept.Stamped es' cl') :
    St { c with w := c.w.putObj blk (.map es' cl') } us (s.putBox i (.buf .mp (.pair tk tv) ys)) a ∧ Fr b { c with w := c.w.putObj blk (.map es' cl') } (s.putBox i (.buf .mp (.pair tk tv) ys)) := by
  have hlt : blk < c.w.heap.size := (Array.getElem?_eq_some_iff.1 hheap).1
  have g : Step1 c { c with w := c.w.putObj blk (.map es' cl') } s i := ⟨rfl, rfl, fun j _ => rfl, by rw [World.putObj_size]; exact Nat.le_refl _, rfl, rfl, rfl, rfl, rfl, fun k hk => by
      by_cases e : k = blk
      · exact .inr ⟨by rw [hb]; simp, 0, by rw [hρ, e]⟩
      · exact .inl (World.putObj_heap_other e), fun x hx => by
      have hx : c.ρ i = some x := hx
      rw [hρ] at hx
      cases hx
      exact ⟨by rw [World.putObj_size]; exact hlt, .inr ⟨by rw [hb]; simp, 0, hρ⟩⟩, fun k hk => by
      by_cases e : k = blk
      · rw [e, World.putObj_heap_same hlt, hheap]; rfl
      · rw [World.putObj_heap_other e]⟩
  have hE2 : ∀ b k, c.E b k → c.E b k ∧ (c.w.putObj blk (.map es' cl')).heap[k]? = c.w.heap[k]? := fun b k hk => ⟨hk, ((g.E h) b k hk).2⟩
  refine ⟨h.setBox g (.inr ?_) ⟨blk, hρ, es', cl', World.putObj_heap_same hlt, EntL.mono hE2 _ _ hE, hp, hst⟩, hfr.setBox g⟩
  unfold Cx.I
  rw [box_put, if_pos rfl, hb]
  rfl
theorem run_getMap {r : Nat} {es : Array MapEntry} {cl : Nat} (h : w.heap[r]? = some (.map es cl)) : (getObj r).run P w = .ok (.map es cl) w := by simp [getObj, Sem.run, h]
theorem run_setMap {r : Nat} {es : Array MapEntry} {cl : Nat} (o : Obj) (h : w.heap[r]? = some (.map es cl)) : (setObj r o).run P w = .ok () (w.putObj r o) := by simp [setObj, Sem.run, h, World.putObj]
theorem lookup_sound (hF : HF F) (hK : KitOK P K) (h : St c us s a) (hfr : Fr b c s) {m i : Operand} {comma : Bool} (ho : o.op = .lookup T m i comma) (hs : (lookupT K s o T (s.ev m) (s.ev i) comma).sat Q) : o.wpIn F n P a c.w (Abs b us Q) Qx := by
  have hd : ∀ c, o.op ≠ .defer c := by intro c; rw [ho]; simp
  have hm := h.ev m
  have hi := h.ev i
  have he : execOp a.eval o = (do let v ← Instr.lookup T (a.eval m) (a.eval i) comma; pure (.value v)) := by simp only [execOp, ho]
  generalize s.ev m = M at *
  generalize s.ev i = I at *
  unfold lookupT at hs
  split at hs
  · rename_i b0 tk tv p hkv hp
    obtain ⟨kt, vt, hu, hT, hV, hc, hdp⟩ := kv_spec hK hkv
    split at hs
    · rename_i l k hl hk
      split at hs
      · rename_i hlt
        obtain ⟨lk, lv, xs⟩ := l
        obtain ⟨e1, e2⟩ := hlt
        dsimp only at e1 e2
        subst e1 e2
        have hbx : s.box b0 = some (.buf .mp (.pair lk lv) xs) := mpl_spec hl
        obtain ⟨blk, es, clock, hρ, hheap, hE, hpw, hst, hmu⟩ := mp_open h hbx
        cases as_eq hk
        obtain ⟨cs, hcs, hui⟩ := AVR_valOf hT (toPV_AVR hp hi)
        obtain ⟨r, hr, hrun⟩ := findKey_spec hT hc hdp hcs hE
        have hchk := chk_one (P := P) (em := es.isEmpty) lk kt k cs 10000 hT hc hdp hcs c.w
        have hpre : ∀ {y : Value × Bool}, (match r with | some (_, v) => (pure (v, true) : Sem (Value × Bool)) | none => do pure (← zeroValue vt, false)).run P c.w = .ok y c.w →
            (execOp a.eval o).run P c.w = .ok (.value (if comma then .tuple #[y.1, .bool y.2] else y.1)) c.w := by
          intro y hy
          rw [he, hmu _ hm, hui]
          simp only [Instr.lookup, Sem.run_bind, underlying_of hu, Result.andThen_ok, run_getMap hheap, Sem.run_pure, hchk, hrun]
          cases r with
          | none =>
            simp only [Sem.run_bind, Sem.run_pure] at hy ⊢
            cases hz : (zeroValue vt).run P c.w with
            | ok z w1 => rw [hz] at hy; simp only [Result.andThen_ok, Result.ok.injEq] at hy ⊢; obtain ⟨rfl, rfl⟩ := hy; simp
            | halt z w1 => rw [hz] at hy; simp at hy
          | some z =>
            simp only [Sem.run_pure, Result.ok.injEq] at hy ⊢
            obtain ⟨rfl, _⟩ := hy
            rfl
        have fin : ∀ {y : Value × Bool}, (match r with | some (_, v) => (pure (v, true) : Sem (Value × Bool)) | none => do pure (← zeroValue vt, false)).run P c.w = .ok y c.w →
            AVR c.w c.E (c.I s) (.pv lv (pMGet lk.eqb lv.dflt xs k)) y.1 → y.2 = pMHas lk.eqb xs k → o.wpIn F n P a c.w (Abs b us Q) Qx := by
          intro y hy hv hb
          have hex := hpre hy
          cases comma with
          | true =>
            refine val_one hF hd h hfr hs hex ?_
            simp only [AVR, if_true]
            exact ⟨[y.1, .bool y.2], rfl, AVRL_cons.2 ⟨_, _, rfl, hv, AVRL_cons.2 ⟨_, _, rfl, AVR_bool.2 (by rw [hb]), AVRL_nil.2 rfl⟩⟩⟩
          | false => exact val_one hF hd h hfr hs hex hv
        rcases hr with ⟨rfl, hno⟩ | ⟨pre, q, post, epre, e, epost, rfl, he2, hlen, rfl, hq, hpre2⟩
        · obtain ⟨ii, z, hii, hsz, _, _, hz, hzb, hz1, hz2⟩ := infoB_spec (tyB_info hV)
          obtain ⟨c1, e3, k3⟩ := zeroB_spec (w := c.w) (E := c.E) lv _ _ hzb
          rw [List.append_nil] at e3
          rw [← e3] at k3
          refine fin (y := (z, false)) ?_ ?_ (pMHas_none hno).symm
          · simp [zeroValue, typeInfo, hii, hz]
          · rw [pMGet_none hno]
            simp only [AVR]
            refine ⟨_, k3, ?_⟩
            unfold IsV
            cases ha : lv.isAgg with
            | true => obtain ⟨cs', rfl⟩ := hz1 ha; simp [Value.cells]
            | false => simp [hz2 ha]
        · obtain ⟨m1, m2, m3, m4⟩ := pM_some (post := post) hq hpre2
          rw [he2] at hE
          obtain ⟨_, _, ⟨cv, v1, v2⟩, _⟩ := EntL_split hlen hE
          refine fin (y := (e.val, true)) rfl ?_ m1.symm
          rw [m2]
          simp only [AVR]
          exact ⟨cv, v1, v2⟩
      · exact hs.elim
    · exact hs.elim
  · exact hs.elim
theorem modify_mid {α : Type} (f : α → α) : ∀ (l : List α) (x : α) (r : List α), (l ++ x :: r).modify l.length f = l ++ f x :: r
  | [], x, r => rfl
  | y :: l, x, r => by
    have := modify_mid f l x r
    simp only [List.cons_append, List.length_cons, List.modify_succ_cons, this]
theorem wrap_pairwise {α β : Type} {pre post : List (α × β)} {p : α × β} {v : β} (h : List.Pairwise (fun p q : α × β => p.1 ≠ q.1) (pre ++ p :: post)) : List.Pairwise (fun p q : α × β => p.1 ≠ q.1) (pre ++ (p.1, v) :: post) := by
  rw [List.pairwise_append] at h ⊢
  obtain ⟨h1, h2, h3⟩ := h
  rw [List.pairwise_cons] at h2 ⊢
  refine ⟨h1, h2, fun x hx y hy => ?_⟩
  rcases List.mem_cons.1 hy with rfl | hy
  · exact h3 x hx p (by simp)
  · exact h3 x hx y (by simp [hy])
theorem key_ne {E : Bool → Nat → Prop} {tk tv : Ty} (hc : tk.comparable = true) {T : TypeId} (hT : tyB P tk (.inl T) = true) {x : tk.T} {cs : List Value} {w1 : World} {E1 : Bool → Nat → Prop} (hx : RepC w1 E1 tk x cs) (hd : tk.deep ≤ 10000) :
    ∀ (ps : List (tk.T × tv.T)) (es : List MapEntry), EntL w E tk tv ps es → (∀ p ∈ ps, tk.eqb x p.1 = false) → ∀ e ∈ es, e.key ≠ valOf tk cs
  | [], es, h, _, e, he => by rw [show es = [] from h] at he; cases he
  | p :: ps, _, ⟨e1, r, rfl, ⟨ck, h1, h2⟩, h3, h4⟩, hno, e, he => by
    rcases List.mem_cons.1 he with rfl | he
    · intro heq
      have hq := eq_one (P := P) tk T x p.1 cs ck 10000 hT hc hd hx (RepC_free (w2 := w1) (E2 := E1) tk hc _ _ h1)
      have hq2 := eq_one (P := P) tk T x x cs cs 10000 hT hc hd hx hx
      rw [hno p (by simp)] at hq
      rw [(tk.eqb_iff hc x x).2 rfl] at hq2
      rw [isV_valOf h2] at heq
      have a1 := hq w1
      have a2 := hq2 w1
      rw [heq, a2] at a1
      cases a1
    · exact key_ne hc hT hx hd ps r h4 (fun q hq => hno q (by simp [hq])) e he
theorem mapSet_sound (hF : HF F) (hK : KitOK P K) (h : St c us s a) (hfr : Fr b c s) {m i v : Operand} (ho : o.op = .mapUpdate T m i v) (hs : (mapSetT K s o T (s.ev m) (s.ev i) (s.ev v)).sat Q) : o.wpIn F n P a c.w (Abs b us Q) Qx := by
  have hd : ∀ c, o.op ≠ .defer c := by intro c; rw [ho]; simp
  have hm := h.ev m
  have hi := h.ev i
  have hv := h.ev v
  have he : execOp a.eval o = (do Instr.mapUpdate T (a.eval m) (a.eval i) (a.eval v); pure .skip) := by simp only [execOp, ho]
  generalize s.ev m = M at *
  generalize s.ev i = I at *
  generalize s.ev v = V at *
  unfold mapSetT at hs
  split at hs
  · rename_i b0 tk tv p q hkv hp hq
    obtain ⟨kt, vt, hu, hT, hV, hc, hdp⟩ := kv_spec hK hkv
    split at hs
    · rename_i l k y hl hk hy
      split at hs
      · rename_i hlt
        obtain ⟨lk, lv, xs⟩ := l
        obtain ⟨e1, e2⟩ := hlt
        dsimp only at e1 e2
        subst e1 e2
        have hbx : s.box b0 = some (.buf .mp (.pair lk lv) xs) := mpl_spec hl
        obtain ⟨blk, es, clock, hρ, hheap, hE, hpw, hst, hmu⟩ := mp_open h hbx
        cases as_eq hk
        cases as_eq hy
        obtain ⟨cs, hcs, hui⟩ := AVR_valOf hT (toPV_AVR hp hi)
        have hvv := toPV_AVR hq hv
        simp only [AVR] at hvv
        obtain ⟨r, hr, hrun⟩ := findKey_spec hT hc hdp hcs hE
        have hchk := chk_one (P := P) (em := false) lk kt k cs 10000 hT hc hdp hcs c.w
        have hkey : ∃ cs, RepC c.w c.E lk k cs ∧ IsV lk.isAgg cs (a.eval i) := by
          have := toPV_AVR hp hi
          simpa only [AVR] using this
        have fin : ∀ {es' : Array MapEntry} {cl' : Nat}, (Instr.mapUpdate T (.map (some blk)) (a.eval i) (a.eval v)).run P c.w = .ok () (c.w.putObj blk (.map es' cl')) → EntL c.w c.E lk lv (pMPut lk.eqb xs k y) es'.toList →
            List.Pairwise (fun p q : lk.T × lv.T => p.1 ≠ q.1) (pMPut lk.eqb xs k y) → MapKept.Stamped es' cl' → o.wpIn F n P a c.w (Abs b us Q) Qx := by
          intro es' cl' q1 q2 q3 q4
          obtain ⟨h1, h2⟩ := h.setMap hfr hbx hρ hheap q2 q3 q4
          have hs' : (skipT (s.putBox b0 (.buf .mp (.pair lk lv) (pMPut lk.eqb xs k y))) o).sat Q := hs
          rw [skipT_eq] at hs'
          refine step_skip hF hd (w' := c.w.putObj blk (.map es' cl')) ?_ ⟨_, _, rfl, hs', h1.putO (by simp only [AVR]) o.dst, h2.putO o.dst _⟩
          rw [he, hmu _ hm]
          simp only [Sem.run_bind, q1, Result.andThen_ok, Sem.run_pure]
        rcases hr with ⟨rfl, hno⟩ | ⟨pre, q', post, epre, e, epost, rfl, he2, hlen, rfl, hq', hpre2⟩
        · refine fin (es' := es.push { key := a.eval i, val := a.eval v, born := clock }) (cl' := clock + 1) ?_ ?_ ?_ ?_
          · rw [hui]
            simp only [Instr.mapUpdate, Sem.run_bind, underlying_of hu, Result.andThen_ok, run_getMap hheap, hchk, hrun, run_setMap _ hheap]
          · rw [pMPut_none hno, Array.toList_push]
            exact (EntL_append _ _ _).2 ⟨_, _, rfl, hE, ⟨_, _, rfl, hkey, hvv, rfl⟩⟩
          · rw [pMPut_none hno, List.pairwise_append]
            refine ⟨hpw, by simp, fun x hx z hz => ?_⟩
            simp only [List.mem_singleton] at hz
            subst hz
            intro e
            have := hno x hx
            rw [e, (lk.eqb_iff hc k k).2 rfl] at this
            cases this
          · refine MapKept.stamped_push hst fun x hx => ?_
            rw [hui]
            exact key_ne hc hT hcs hdp xs _ hE hno x hx
        · obtain ⟨_, _, m3, _⟩ := pM_some (post := post) hq' hpre2
          rw [he2] at hE
          obtain ⟨g1, ⟨ck, k1, k2⟩, g3, g4⟩ := EntL_split hlen hE
          have hkk : k = q'.1 := (lk.eqb_iff hc _ _).1 hq'
          have hek : e.key = a.eval i := by
            rw [isV_valOf k2, hui]
            rw [hkk] at hcs
            rw [RepC_same2 lk hc _ _ _ k1 hcs]
          have hget : es[epre.length]? = some e := by rw [← Array.getElem?_toList, he2]; simp
          have hstay : (Instr.keyThatStays (((es[epre.length]?).map (·.key)).getD (a.eval i)) (a.eval i)).run P c.w = .ok (a.eval i) c.w := by
            rw [hget]
            simp only [Option.map_some, Option.getD_some, hek]
            have hsb : Instr.sameBits 10000 (a.eval i) (a.eval i) = true := by rw [hui]; exact sameBits_key hc hcs (fun hg => Ty.one_of hT hg (RepC.len _ _ _ hcs))
            simp [Instr.keyThatStays, hsb]
          have hmod : (es.modify epre.length fun e => { e with key := a.eval i, val := a.eval v }).toList = epre ++ { e with key := a.eval i, val := a.eval v } :: epost := by
            rw [Array.toList_modify, he2]
            exact modify_mid _ _ _ _
          refine fin (es' := es.modify epre.length fun e => { e with key := a.eval i, val := a.eval v }) (cl' := clock) ?_ ?_ ?_ ?_
          · have hrun' := hrun c.w
            rw [← hui] at hrun' hchk
            simp only [Instr.mapUpdate, Sem.run_bind, underlying_of hu, Result.andThen_ok, run_getMap hheap, hchk, hrun', hstay, run_setMap _ hheap]
          · rw [m3, hmod]
            refine (EntL_append _ _ _).2 ⟨_, _, rfl, g1, ⟨_, _, rfl, ?_, hvv, g4⟩⟩
            rw [← hkk]
            exact hkey
          · rw [m3]
            exact wrap_pairwise hpw
          · refine MapKept.stamped_modify hst _ _ (fun _ _ => rfl) fun e' _ he' => ?_
            rw [hget] at he'
            cases he'
            exact hek.symm
      · exact hs.elim
    · exact hs.elim
  · exact hs.elim
theorem mapDel_sound (hF : HF F) (hK : KitOK P K) (h : St c us s a) (hfr : Fr b c s) {cl : Call} {m i : Operand} {Ts : List TypeId} (ho : o.op = .call cl) (hcl : cl.callee = .builtin .delete) (hTs : cl.argTypes.toList = T :: Ts) (hA : cl.args = #[m, i]) (hs : (mapDelT K s o T (s.ev m) (s.ev i)).sat Q) : o.wpIn F n P a c.w (Abs b us Q) Qx := by
  have hd : ∀ c, o.op ≠ .defer c := by intro c; rw [ho]; simp
  have hm := h.ev m
  have hi := h.ev i
  obtain ⟨cs0, he⟩ := builtin_run (P := P) (w := c.w) (a := a) ho hcl
  have hT0 : cl.argTypes[0]? = some T := by rw [← Array.getElem?_toList, hTs]; rfl
  generalize s.ev m = M at *
  generalize s.ev i = I at *
  unfold mapDelT at hs
  split at hs
  · rename_i b0 tk tv p hkv hp
    obtain ⟨kt, vt, hu, hT, hV, hc, hdp⟩ := kv_spec hK hkv
    split at hs
    · rename_i l k hl hk
      split at hs
      · rename_i hlt
        obtain ⟨lk, lv, xs⟩ := l
        obtain ⟨e1, e2⟩ := hlt
        dsimp only at e1 e2
        subst e1 e2
        have hbx : s.box b0 = some (.buf .mp (.pair lk lv) xs) := mpl_spec hl
        obtain ⟨blk, es, clock, hρ, hheap, hE, hpw, hst, hmu⟩ := mp_open h hbx
        cases as_eq hk
        obtain ⟨cs, hcs, hui⟩ := AVR_valOf hT (toPV_AVR hp hi)
        obtain ⟨r, hr, hrun⟩ := findKey_spec hT hc hdp hcs hE
        have hchk := chk_one (P := P) (em := es.isEmpty) lk kt k cs 10000 hT hc hdp hcs c.w
        have fin : ∀ {es' : Array MapEntry}, (Builtin.delete_ cl.argTypes o.type #[.map (some blk), a.eval i]).run P c.w = .ok (.tuple #[]) (c.w.putObj blk (.map es' clock)) → EntL c.w c.E lk lv (pMDel lk.eqb xs k) es'.toList →
            List.Pairwise (fun p q : lk.T × lv.T => p.1 ≠ q.1) (pMDel lk.eqb xs k) → MapKept.Stamped es' clock → o.wpIn F n P a c.w (Abs b us Q) Qx := by
          intro es' q1 q2 q3 q4
          obtain ⟨h1, h2⟩ := h.setMap hfr hbx hρ hheap q2 q3 q4
          refine mem_done (c' := { c with w := c.w.putObj blk (.map es' clock) }) hF hd hs ?_ h1 h2 (u := .tuple #[]) (by simp only [AVR]; exact ⟨[], rfl, AVRL_nil.2 rfl⟩)
          rw [he, hA]
          simp only [builtin, Array.map_push, List.map_toArray, List.map_cons, List.map_nil, hmu _ hm, Sem.run_bind, q1, Result.andThen_ok, Sem.run_pure]
        rcases hr with ⟨rfl, hno⟩ | ⟨pre, q', post, epre, e, epost, rfl, he2, hlen, rfl, hq', hpre2⟩
        · refine fin (es' := es) ?_ (by rw [pMDel_none hno]; exact hE) (by rw [pMDel_none hno]; exact hpw) hst
          rw [hui]
          simp [Builtin.delete_, hT0, underlying_of hu, run_getMap hheap, hchk, hrun, run_setMap _ hheap]
        · obtain ⟨_, _, _, m4⟩ := pM_some (post := post) hq' hpre2
          rw [he2] at hE
          obtain ⟨g1, _, _, g4⟩ := EntL_split hlen hE
          have hsz : epre.length < es.size := by rw [← Array.length_toList, he2]; simp
          have her : (es.eraseIdxIfInBounds epre.length).toList = epre ++ epost := by
            rw [Array.eraseIdxIfInBounds, dif_pos hsz, Array.toList_eraseIdx, he2]
            simp [List.eraseIdx_append_of_length_le]
          refine fin (es' := es.eraseIdxIfInBounds epre.length) ?_ ?_ ?_ (MapKept.stamped_erase hst _)
          · rw [hui]
            simp [Builtin.delete_, hT0, underlying_of hu, run_getMap hheap, hchk, hrun, run_setMap _ hheap]
          · rw [m4, her]
            exact (EntL_append _ _ _).2 ⟨_, _, rfl, g1, g4⟩
          · rw [m4]
            rw [List.pairwise_append] at hpw ⊢
            obtain ⟨p1, p2, p3⟩ := hpw
            exact ⟨p1, (List.pairwise_cons.1 p2).2, fun x hx y hy => p3 x hx y (by simp [hy])⟩
      · exact hs.elim
    · exact hs.elim
  · exact hs.elim
theorem mapClear_sound (hF : HF F) (hK : KitOK P K) (h : St c us s a) (hfr : Fr b c s) {cl : Call} {m : Operand} (ho : o.op = .call cl) (hcl : cl.callee = .builtin .clear) (hTs : cl.argTypes = #[T]) (hA : cl.args = #[m]) (hs : (mapClearT K s o T (s.ev m)).sat Q) : o.wpIn F n P a c.w (Abs b us Q) Qx := by
  have hd : ∀ c, o.op ≠ .defer c := by intro c; rw [ho]; simp
  have hm := h.ev m
  obtain ⟨cs0, he⟩ := builtin_run (P := P) (w := c.w) (a := a) ho hcl
  generalize s.ev m = M at *
  unfold mapClearT at hs
  split at hs
  · rename_i b0 tk tv hkv
    obtain ⟨kt, vt, hu, hT, hV, hc, hdp⟩ := kv_spec hK hkv
    split at hs
    · rename_i l hl
      replace hs := sat_ok hs
      obtain ⟨hk, hs⟩ := hs
      simp only [Bool.and_eq_true] at hk
      obtain ⟨lk, lv, xs⟩ := l
      have e1 := Ty.eqt_eq hk.1
      have e2 := Ty.eqt_eq hk.2
      dsimp only at e1 e2
      subst e1 e2
      have hbx : s.box b0 = some (.buf .mp (.pair lk lv) xs) := mpl_spec hl
      obtain ⟨blk, es, clock, hρ, hheap, hE, hpw, hst, hmu⟩ := mp_open h hbx
      obtain ⟨h1, h2⟩ := h.setMap hfr (ys := []) (es' := #[]) (cl' := clock) hbx hρ hheap rfl List.Pairwise.nil (MapKept.stamped_empty _)
      refine mem_done (c' := { c with w := c.w.putObj blk (.map #[] clock) }) hF hd hs ?_ h1 h2 (u := .tuple #[]) (by simp only [AVR]; exact ⟨[], rfl, AVRL_nil.2 rfl⟩)
      rw [he, hA, hTs]
      simp [builtin, hmu _ hm, Builtin.clear_, underlying_of hu, run_getMap hheap, run_setMap _ hheap]
    · exact hs.elim
  · exact hs.elim
theorem lenMap_sound (hF : HF F) (hK : KitOK P K) (h : St c us s a) (hfr : Fr b c s) {cl : Call} {x : Operand} {i : Nat} (ho : o.op = .call cl) (hcl : cl.callee = .builtin .len) (hTs : cl.argTypes = #[T]) (hA : cl.args = #[x]) (hX : s.ev x = .mp i) (hs : (lenMapT K s o T i).sat Q) : o.wpIn F n P a c.w (Abs b us Q) Qx := by
  have hd : ∀ c, o.op ≠ .defer c := by intro c; rw [ho]; simp
  have hm := h.ev x
  rw [hX] at hm
  obtain ⟨cs0, he⟩ := builtin_run (P := P) (w := c.w) (a := a) ho hcl
  unfold lenMapT at hs
  split at hs
  · rename_i l tk tv hl hkv
    obtain ⟨kt, vt, hu, hT, hV, hc, hdp⟩ := kv_spec hK hkv
    replace hs := sat_ok hs
    obtain ⟨hk, hroom, hs⟩ := hs
    simp only [Bool.and_eq_true] at hk
    obtain ⟨lk, lv, xs⟩ := l
    have e1 := Ty.eqt_eq hk.1
    have e2 := Ty.eqt_eq hk.2
    dsimp only at e1 e2
    subst e1 e2
    have hbx : s.box i = some (.buf .mp (.pair lk lv) xs) := mpl_spec hl
    obtain ⟨blk, es, clock, hρ, hheap, hE, hpw, hst, hmu⟩ := mp_open h hbx
    have hlen := EntL_len _ _ hE
    have hlen : es.size = List.length xs := by simpa using hlen
    have hr : (List.length xs : Int) ≤ 4294967296 := by simpa [pRoom, pLen] using hroom
    refine val_one hF hd h hfr hs (u := .int .i64 (List.length xs)) ?_ (AVR_int.2 ⟨rfl, ?_⟩)
    · rw [he, hA, hTs]
      simp [builtin, hmu _ hm, Builtin.len_, underlying_of hu, run_getMap hheap, goInt, hlen]
    · constructor
      · simp [pLen, IntKind.min, IntKind.signed, IntKind.bits]
      · simp [pLen, IntKind.max, IntKind.signed, IntKind.bits]
        omega
  · exact hs.elim
theorem makeMap_sound (hF : HF F) (hK : KitOK P K) (h : St c us s a) (hfr : Fr b c s) (ho : o.op = .makeMap T none) (hs : (match K.kv T with | some (tk, tv) => let i := siteT s o; retT (s.newBox i (.buf .mp (.pair tk tv) pNil)) o (.mp i) | none => .fail : Tree).sat Q) : o.wpIn F n P a c.w (Abs b us Q) Qx := by
  have hd : ∀ c, o.op ≠ .defer c := by intro c; rw [ho]; simp
  split at hs
  · rename_i tk tv hkv
    dsimp only at hs
    generalize siteT s o = i at hs
    have g : Step1 c (c.push i (.map #[] 0) c.w.drawn) s i := step_push
    have hρ : (c.push i (.map #[] 0) c.w.drawn).ρ i = some (c.w.heap.size, 0) := by simp [Cx.push]
    have hb : BoxOK (c.push i (.map #[] 0) c.w.drawn) (s.newBox i (.buf .mp (.pair tk tv) pNil)) i (.buf .mp (.pair tk tv) pNil) :=
      ⟨c.w.heap.size, hρ, #[], 0, by rw [Cx.push_heap, if_pos rfl], rfl, List.Pairwise.nil, MapKept.stamped_empty _⟩
    have hI : (c.push i (.map #[] 0) c.w.drawn).I (s.newBox i (.buf .mp (.pair tk tv) pNil)) i = some (.buf .mp (.pair tk tv) 0 (some (c.w.heap.size, 0, 0))) := by
      unfold Cx.I
      rw [box_new, if_pos rfl, hρ]
      rfl
    refine mem_done (c' := c.push i (.map #[] 0) c.w.drawn) hF hd hs ?_ (h.newBox g hb) (hfr.newBox g) (u := .map (some c.w.heap.size)) (by simp only [AVR, MpAt, hI])
    simp [execOp, ho, Instr.makeMap]
    rfl
  · exact hs.elim
theorem slice0_sound (hF : HF F) (hK : KitOK P K) (h : St c us s a) (hfr : Fr b c s) {x : Operand} {k1 k2 : IntKind} (ho : o.op = .slice T x none (some (.const (.int k1 0))) (some (.const (.int k2 0)))) (hs : (slice0T K s o T (s.ev x)).sat Q) : o.wpIn F n P a c.w (Abs b us Q) Qx := by
  have hd : ∀ c, o.op ≠ .defer c := by intro c; rw [ho]; simp
  have hx := h.ev x
  unfold slice0T at hs
  split at hs
  · rename_i t hel
    obtain ⟨e, htd, hu, hty⟩ := elem_spec hK hel
    have done : ∀ {ad : Option Addr} {m cap : Nat}, a.eval x = .slice ad m cap → (retT (s.newBox (siteT s o) (.buf .sl t pNil)) o (.sl (siteT s o))).sat Q → o.wpIn F n P a c.w (Abs b us Q) Qx := by
      intro ad m cap hu2 hs
      obtain ⟨c', hw, h1, h2, h3, _⟩ := h.nilBuf hfr (i := siteT s o) (t := t) ad
      refine mem_done hF hd hs ?_ h1 h2 h3
      rw [hw]
      have hz : ∀ k, a.eval (.const (.int k 0)) = .int k 0 := fun _ => rfl
      simp [execOp, ho, hu2, hz, Instr.sliceAt, Instr.slice, underlying_of hu, Instr.sliceBounds, Instr.sliceBound, info_size hty, asInt, asIntOf]
    split at hs
    · rename_i hX
      rw [hX] at hx
      simp only [AVR] at hx
      exact done hx hs
    · split at hs
      · rename_i l hl
        obtain ⟨hk, hs⟩ := sat_ok hs
        simp only [Bool.and_eq_true] at hk
        obtain ⟨hm, hsp⟩ := list_spec h hl hx
        rcases hsp with ⟨y, hy, hy2⟩ | ⟨ad, cap, hu2, _⟩
        · exfalso
          rw [hy] at hk
          simp at hk
        · exact done hu2 hs
      · exact hs.elim
  · exact hs.elim
theorem arrayAt_sound (hF : HF F) (hK : KitOK P K) (h : St c us s a) (hfr : Fr b c s) {A : TypeId} {x : Operand} (ho : o.op = .sliceToArrayPointer A x) (hs : (arrayAtT K s o A (s.ev x)).sat Q) : o.wpIn F n P a c.w (Abs b us Q) Qx := by
  have hd : ∀ c, o.op ≠ .defer c := by intro c; rw [ho]; simp
  have hx := h.ev x
  generalize s.ev x = X at *
  unfold arrayAtT at hs
  split at hs
  · rename_i m t b' t' xs htd
    split at hs
    · rename_i ht
      cases ht
      obtain ⟨hk, hs⟩ := sat_ok hs
      obtain ⟨hle, hs⟩ := hs
      have hm0 : 0 < m := blt_of hk
      have hle : (m : Int) ≤ List.length xs := by simpa [pLe, pI, pLen] using hle
      obtain ⟨e, hu, _⟩ := tyB_arr (td_pure hK htd).1
      simp only [AVR, RepC, IsV, Ty.isAgg] at hx
      obtain ⟨cs, ⟨ad, cap, rfl, h1, h2, h3⟩, h4⟩ := hx
      simp only [Bool.false_eq_true, if_false, List.cons.injEq, and_true] at h4
      rcases h3 with h3 | ⟨blk, off, cs', rfl, hE, hR, hrd⟩
      · omega
      · refine val_one hF hd h hfr hs (u := .pointer (some ⟨blk, off, none⟩)) ?_ ?_
        · have hlt : ¬ (List.length xs < m) := by omega
          simp [execOp, ho, ← h4, Instr.arrayAt, underlying_of hu, hlt]
        · have hsplit : ∀ (l : List t.T) (cs : List Value), RepL (RepC c.w c.E t) l cs → ∀ m, m ≤ l.length → ∃ c1 c2, cs = c1 ++ c2 ∧ RepL (RepC c.w c.E t) (l.take m) c1 := by
            intro l
            induction l with
            | nil => intro cs h m hm; exact ⟨[], cs, rfl, by simp; rfl⟩
            | cons y l ih =>
              intro cs h m hm
              cases m with
              | zero => exact ⟨[], cs, rfl, rfl⟩
              | succ m =>
                obtain ⟨c1, c2, rfl, q1, q2⟩ := h
                obtain ⟨d1, d2, rfl, q3⟩ := ih c2 q2 m (by simpa using hm)
                exact ⟨c1 ++ d1, d2, by simp, c1, d1, rfl, q1, q3⟩
          obtain ⟨c1, c2, rfl, hR1⟩ := hsplit xs cs' hR m (by omega)
          rw [AVR_fad]
          refine ⟨b', blk, off, c1, rfl, hE, ⟨?_, ?_⟩, fun j v hj => hrd j v (by rw [List.getElem?_append_left (List.getElem?_eq_some_iff.1 hj).1]; exact hj)⟩
          · simp [pCut, pI, castL]; omega
          · simpa [pCut, pI, castL] using hR1
    · exact hs.elim
  · exact hs.elim
end
end Go.Xr
