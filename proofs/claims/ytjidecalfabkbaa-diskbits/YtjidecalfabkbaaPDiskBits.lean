import Derived.Test.YtjidecalfabkbaaAwake
import Derived.Test.YtjidecalfabkbaaMDiskBits
set_option linter.unusedVariables false
set_option linter.unusedSimpArgs false
set_option maxRecDepth 100000
namespace Go.Xr.Try
open Go Go.Xr
/-! a bit that is turned -/
theorem xor_toNat (a b : BitVec 8) : IntKind.u8.wrap ((a ^^^ b).toNat : Int) = ((a ^^^ b).toNat : Int) := wrap8 (by omega) (by have := (a ^^^ b).isLt; omega)
theorem xor_eq (x t : Int) : pXor .u8 x t = ((BitVec.ofInt 8 x ^^^ BitVec.ofInt 8 t).toNat : Int) := xor_toNat _ _
theorem xor_twice {x t : Int} (h0 : 0 ≤ x) (h1 : x < 256) : pXor .u8 (pXor .u8 x t) t = x := by
  rw [xor_eq x t, xor_eq]
  have e : BitVec.ofInt 8 (((BitVec.ofInt 8 x ^^^ BitVec.ofInt 8 t).toNat : Nat) : Int) = BitVec.ofInt 8 x ^^^ BitVec.ofInt 8 t := by
    rw [BitVec.ofInt_natCast, BitVec.ofNat_toNat, BitVec.setWidth_eq]
  rw [e, BitVec.xor_assoc, BitVec.xor_self, BitVec.xor_zero, BitVec.toNat_ofInt]
  omega
def flip (b : List Int) (q r : Int) : List Int := pSet b q (pXor .u8 (pGet 0 b q) (pShl .u8 1 r))
theorem flip_len (b : List Int) (q r : Int) : (flip b q r).length = b.length := by simp [flip, pSet]
theorem flip_twice {b : List Int} {q : Nat} {r : Int} (hq : q < b.length) (hb : ∀ x ∈ b, 0 ≤ x ∧ x < 256) : flip (flip b (q : Int) r) (q : Int) r = b := by
  have h1 : pGet 0 b (q : Int) = b[q] := by simp [pGet, List.getD_eq_getElem?_getD, hq]
  have h2 : pGet 0 (pSet b (q : Int) (pXor .u8 (pGet 0 b (q : Int)) (pShl .u8 1 r))) (q : Int) = pXor .u8 (pGet 0 b (q : Int)) (pShl .u8 1 r) := by
    simp [pGet, pSet, List.getD_eq_getElem?_getD, hq]
  unfold flip
  rw [h2, h1, xor_twice (hb _ (List.getElem_mem hq)).1 (hb _ (List.getElem_mem hq)).2]
  simp [pSet]
theorem sec_byte (v : Int) : ∀ x ∈ sec v, 0 ≤ x ∧ x < 256 := by
  intro x hx
  simp only [sec, List.mem_map] at hx
  obtain ⟨i, _, rfl⟩ := hx
  rw [show pWrap .u8 (pAdd .i64 (pMul .i64 v 7) (i : Int)) = IntKind.wrap .u8 (pAdd .i64 (pMul .i64 v 7) (i : Int)) from rfl, wrap8_eq]
  omega
theorem corrupt_ok {i : Int} {bit q r : Nat} {l : List (List Int)} {h : List (Int × List Int)} {fuse : Bool} {left mask writes : Int} (h0 : 0 ≤ i) (h1 : i < (l.length : Int)) (hb : bit < 256) (hq : q = bit / 8) (hr : r = bit % 8) :
    m_disk_Disk_Corrupt i (bit : Int) l h false fuse left mask writes = some (0, (pSet l i (flip (pGet zero32 l i) (q : Int) (r : Int)), ((if pMHas eqI h i then pMPut eqI h i (flip (pMGet eqI zero32 h i) (q : Int) (r : Int)) else h), (false, (fuse, (left, (mask, (writes, ())))))))) := by
  unfold m_disk_Disk_Corrupt
  rw [at_ok h0 h1]
  have e1 : pNot (pEq 0 0) = false := by decide
  have e2 : pLt (bit : Int) 0 = false := by simp [pLt]
  have e3 : pLe 256 (bit : Int) = false := by simp [pLe]; omega
  have e4 : pNot (pEq 8 0) = true := by decide
  have e5 : pRem (bit : Int) 8 = (r : Int) := by rw [show (8 : Int) = ((8 : Nat) : Int) from rfl, rem64, hr]
  have e6 : pQuo .i64 (bit : Int) 8 = (q : Int) := by rw [show (8 : Int) = ((8 : Nat) : Int) from rfl, quo64 (by omega), hq]
  have e7 : pLe 0 (r : Int) = true := by simp [pLe]
  have e8 : pIn i (pLen l) = true := by simp [pIn, pLen]; omega
  have e9 : pIn (q : Int) 32 = true := by simp [pIn]; omega
  rw [show (fun u v => pEq u v) = eqI from rfl]
  simp only [pBind, Option.bind_some, e1, e2, e3, e4, e5, e6, e7, e8, e9, Bool.false_eq_true, if_false, if_true]
  cases hm : pMHas eqI h i with
  | true => simp only [if_true, Option.bind_some]; rfl
  | false => simp only [Bool.false_eq_true, if_false, Option.bind_some]; rfl
theorem bits_first : ∀ (m i : Nat) (l : List (List Int)) (h : List (Int × List Int)) (left wr : Int), i + m = 4 → l.length = 4 → (h.map (·.1)).Nodup → (∀ k ∈ h.map (·.1), 0 ≤ k ∧ k < 4) →
      (∀ j : Nat, j < i → rdv l h (j : Int) = sec ((j : Int) + 1)) →
      ∃ h' left' wr', pIter s_DiskBits_0 ((i : Int), (l, (h, (false, (false, (left, (0, (wr, ())))))))) = some (.inr (4, (l, (h', (false, (false, (left', (0, (wr', ()))))))))) ∧ (h'.map (·.1)).Nodup ∧ (∀ k ∈ h'.map (·.1), 0 ≤ k ∧ k < 4) ∧ (∀ j : Nat, j < 4 → rdv l h' (j : Int) = sec ((j : Int) + 1))
  | 0, i, l, h, left, wr, hi, hl, hn, hk, hr => by
    have : i = 4 := by omega
    subst this
    refine ⟨h, left, wr, pIter_inr ?_, hn, hk, hr⟩
    unfold s_DiskBits_0
    have e1 : pLt ((4 : Nat) : Int) 4 = false := by decide
    simp only [e1, Bool.false_eq_true, if_false]
    rfl
  | m + 1, i, l, h, left, wr, hi, hl, hn, hk, hr => by
    have e1 : pLt (i : Int) 4 = true := by simp [pLt]; omega
    have e6 : pAdd .i64 (i : Int) 1 = ((i + 1 : Nat) : Int) := by rw [add64 (by omega) (by omega)]; omega
    have b00 : pNot (pEq 0 0) = false := by decide
    have hw := write_ok (i := (i : Int)) (b := sec ((i + 1 : Nat) : Int)) (l := l) (h := h) (fuse := false) (left := left) (mask := 0) (writes := wr) (by omega) (by omega) (sec_len _) (.inl rfl)
    have hs : s_DiskBits_0 ((i : Int), (l, (h, (false, (false, (left, (0, (wr, ())))))))) = some (.inl (((i + 1 : Nat) : Int), (l, (pMPut eqI h (i : Int) (sec ((i + 1 : Nat) : Int)), (false, (false, (pSub .i64 left 1, (0, (pAdd .i64 wr 1, ()))))))))) := by
      unfold s_DiskBits_0
      simp only [e1, e6, if_true, pBind, Option.bind_some, sector_eq, hw, b00, Bool.false_eq_true, if_false]
    rw [pIter_inl hs]
    refine bits_first m (i + 1) l _ _ _ (by omega) hl (put_nodup _ _ _ hn) ?_ ?_
    · intro x hx
      rcases (put_keys _ _ _ _).1 hx with hx | hx
      · omega
      · exact hk x hx
    · intro j hj
      rw [rdv_put]
      by_cases hjk : (j : Int) = (i : Int)
      · rw [if_pos hjk, hjk]
        rfl
      · rw [if_neg hjk]
        exact hr j (by omega)
theorem bits_read1 (k : Int) (H O : List Int) (l : List (List Int)) (left mask wr : Int) (hl : l.length = 4) (hq : ∀ j : Nat, j < 4 → l.getD j zero32 = if (j : Int) = k then H else sec ((j : Int) + 1)) :
    pIter (s_DiskBits_1 (k, ()) (O, (H, ()))) (0, (l, ([], (false, (false, (left, (mask, (wr, ())))))))) = some (.inr (4, (l, ([], (false, (false, (left, (mask, (wr, ()))))))))) := by
  refine pIter_count (F := fun j => ((j : Int), (l, ([], (false, (false, (left, (mask, (wr, ())))))))) ) (n := 4) (fun j hj => ?_) ?_ 4 0 (by omega)
  · unfold s_DiskBits_1
    have e1 : pLt (j : Int) 4 = true := by simp [pLt]; omega
    have e4 : pAdd .i64 (j : Int) 1 = ((j : Int) + 1) := add64 (by omega) (by omega)
    have hrd := read_ok (i := (j : Int)) (l := l) (h := []) (fuse := false) (left := left) (mask := mask) (writes := wr) (by omega) (by omega)
    have e6 : rdv l [] (j : Int) = if (j : Int) = k then H else sec ((j : Int) + 1) := hq j hj
    have b00 : pNot (pEq 0 0) = false := by decide
    have es : ∀ v : List Int, pNot (pEqS v v) = false := fun v => by simp [pEqS, pNot]
    rw [e6] at hrd
    by_cases hc : (j : Int) = k
    · have e5 : pEq (j : Int) k = true := by simp [pEq, hc]
      have e7 : pNot true = false := rfl
      rw [if_pos hc] at hrd
      simp only [e1, e4, e5, e7, hrd, b00, es, if_true, pBind, Option.bind_some, sector_eq, pAmb_self, Bool.false_eq_true, if_false]
      rfl
    · have e5 : pEq (j : Int) k = false := by simp [pEq, hc]
      have e7 : pNot false = true := rfl
      rw [if_neg hc] at hrd
      simp only [e1, e4, e5, e7, hrd, b00, es, if_true, pBind, Option.bind_some, sector_eq, pAmb_self, Bool.false_eq_true, if_false]
      rfl
  · unfold s_DiskBits_1
    have e1 : pLt ((4 : Nat) : Int) 4 = false := by decide
    simp only [e1, Bool.false_eq_true, if_false]
    rfl
theorem bits_read2 (k : Int) (H O : List Int) (l : List (List Int)) (left mask wr : Int) (hl : l.length = 4) (hq : ∀ j : Nat, j < 4 → l.getD j zero32 = if (j : Int) = k then O else sec ((j : Int) + 1)) :
    pIter (s_DiskBits_2 (k, ()) (O, (H, ()))) (0, (l, ([], (false, (false, (left, (mask, (wr, ())))))))) = some (.inr (4, (l, ([], (false, (false, (left, (mask, (wr, ()))))))))) := by
  refine pIter_count (F := fun j => ((j : Int), (l, ([], (false, (false, (left, (mask, (wr, ())))))))) ) (n := 4) (fun j hj => ?_) ?_ 4 0 (by omega)
  · unfold s_DiskBits_2
    have e1 : pLt (j : Int) 4 = true := by simp [pLt]; omega
    have e4 : pAdd .i64 (j : Int) 1 = ((j : Int) + 1) := add64 (by omega) (by omega)
    have hrd := read_ok (i := (j : Int)) (l := l) (h := []) (fuse := false) (left := left) (mask := mask) (writes := wr) (by omega) (by omega)
    have e6 : rdv l [] (j : Int) = if (j : Int) = k then O else sec ((j : Int) + 1) := hq j hj
    have b00 : pNot (pEq 0 0) = false := by decide
    have es : ∀ v : List Int, pNot (pEqS v v) = false := fun v => by simp [pEqS, pNot]
    rw [e6] at hrd
    by_cases hc : (j : Int) = k
    · have e5 : pEq (j : Int) k = true := by simp [pEq, hc]
      have e7 : pNot true = false := rfl
      rw [if_pos hc] at hrd
      simp only [e1, e4, e5, e7, hrd, b00, es, if_true, pBind, Option.bind_some, sector_eq, pAmb_self, Bool.false_eq_true, if_false]
      rfl
    · have e5 : pEq (j : Int) k = false := by simp [pEq, hc]
      have e7 : pNot false = true := rfl
      rw [if_neg hc] at hrd
      simp only [e1, e4, e5, e7, hrd, b00, es, if_true, pBind, Option.bind_some, sector_eq, pAmb_self, Bool.false_eq_true, if_false]
      rfl
  · unfold s_DiskBits_2
    have e1 : pLt ((4 : Nat) : Int) 4 = false := by decide
    simp only [e1, Bool.false_eq_true, if_false]
    rfl
/-- the two sectors, behind the turning of bits -/
def turned (again : Bool) (b : List Int) (q r : Int) : List Int := if again then b else flip b q r
theorem bits_turn (k bit q r : Nat) (again : Bool) (l : List (List Int)) (left mask wr : Int) (hl : l.length = 4) (hk : k < 4) (hb : bit < 256) (hq : q = bit / 8) (hr : r = bit % 8) (hs : ∀ j : Nat, j < 4 → l.getD j zero32 = sec ((j : Int) + 1)) :
    ∃ l' : List (List Int), l'.length = 4 ∧ (∀ j : Nat, j < 4 → l'.getD j zero32 = if (j : Int) = (k : Int) then turned again (sec ((k : Int) + 1)) q r else sec ((j : Int) + 1)) ∧
      ∃ l1 h1, m_disk_Disk_Corrupt (k : Int) (bit : Int) l [((k : Int), sec 50)] false false left mask wr = some (0, (l1, (h1, (false, (false, (left, (mask, (wr, ())))))))) ∧
        (if again then m_disk_Disk_Corrupt (k : Int) (bit : Int) l1 h1 false false left mask wr = some (0, (l', ([((k : Int), turned again (sec 50) q r)], (false, (false, (left, (mask, (wr, ()))))))))  else l1 = l' ∧ h1 = [((k : Int), turned again (sec 50) q r)]) := by
  have hh : ∀ b : List Int, pMHas eqI [((k : Int), b)] (k : Int) = true := fun b => by simp [pMHas, pEq]
  have hg : ∀ b : List Int, pMGet eqI zero32 [((k : Int), b)] (k : Int) = b := fun b => by simp [pMGet, pEq]
  have hp : ∀ b c : List Int, pMPut eqI [((k : Int), b)] (k : Int) c = [((k : Int), c)] := fun b c => by simp [pMPut, pEq]
  have hg2 : ∀ (l : List (List Int)), pGet zero32 l (k : Int) = l.getD k zero32 := fun l => rfl
  have c1 := corrupt_ok (i := (k : Int)) (bit := bit) (q := q) (r := r) (l := l) (h := [((k : Int), sec 50)]) (fuse := false) (left := left) (mask := mask) (writes := wr) (by omega) (by omega) hb hq hr
  rw [hh, if_pos rfl, hg, hp, hg2, hs k hk] at c1
  have hl1 : (pSet l (k : Int) (flip (sec ((k : Int) + 1)) q r)).length = 4 := by simp [pSet, hl]
  have c2 := corrupt_ok (i := (k : Int)) (bit := bit) (q := q) (r := r) (l := pSet l (k : Int) (flip (sec ((k : Int) + 1)) q r)) (h := [((k : Int), flip (sec 50) q r)]) (fuse := false) (left := left) (mask := mask) (writes := wr) (by omega) (by omega) hb hq hr
  have hg3 : (pSet l (k : Int) (flip (sec ((k : Int) + 1)) q r)).getD k zero32 = flip (sec ((k : Int) + 1)) q r := by
    have : k < l.length := by omega
    simp [pSet, List.getD_eq_getElem?_getD, this]
  rw [hh, if_pos rfl, hg, hp, hg2, hg3, flip_twice (by rw [sec_len]; omega) (sec_byte _), flip_twice (by rw [sec_len]; omega) (sec_byte _)] at c2
  have hset : ∀ (l : List (List Int)) (v : List Int) (j : Nat), l.length = 4 → j < 4 → (pSet l (k : Int) v).getD j zero32 = if (j : Int) = (k : Int) then v else l.getD j zero32 := by
    intro l v j hl hj
    by_cases hjk : j = k
    · subst hjk
      have : j < l.length := by omega
      simp [pSet, List.getD_eq_getElem?_getD, this]
    · have : ¬ (j : Int) = (k : Int) := by omega
      rw [if_neg this]
      simp [pSet, List.getD_eq_getElem?_getD, List.getElem?_set, Ne.symm hjk]
  cases again with
  | true =>
    refine ⟨_, ?_, ?_, _, _, c1, c2⟩
    · simp [pSet, hl]
    · intro j hj
      rw [hset _ _ _ hl1 hj, hset _ _ _ hl hj]
      by_cases hjk : (j : Int) = (k : Int)
      · rw [if_pos hjk, if_pos hjk]; rfl
      · rw [if_neg hjk, if_neg hjk, if_neg hjk, hs j hj]
  | false =>
    refine ⟨_, hl1, ?_, _, _, c1, rfl, rfl⟩
    intro j hj
    rw [hset _ _ _ hl hj]
    by_cases hjk : (j : Int) = (k : Int)
    · rw [if_pos hjk, if_pos hjk]; rfl
    · rw [if_neg hjk, if_neg hjk, hs j hj]
theorem lawDiskBits (a0 a1 : Int) (a2 a3 : Bool) : DiskBits_m a0 a1 a2 a3 = some true := by
  unfold DiskBits_m
  rw [awake_ok]
  simp only [pBind, Option.bind_some]
  rw [new_ok (n := 4) (by omega) (by omega)]
  have b00 : pNot (pEq 0 0) = false := by decide
  have b77 : pNot (pEq 7 7) = false := by decide
  have b11 : pNot (pEq 1 1) = false := by decide
  have b80 : pNot (pEq 8 0) = true := by decide
  have bt : pNot true = false := rfl
  have bf : pNot false = true := rfl
  have es : ∀ v : List Int, pNot (pEqS v v) = false := fun v => by simp [pEqS, pNot]
  simp only [Option.bind_some, pCase, b00, Bool.false_eq_true, if_false]
  obtain ⟨h', left', wr', hh, q2, q3, q4⟩ := bits_first 4 0 (List.replicate (4 : Int).toNat zero32) [] 0 0 (by omega) (by simp) (by simp) (by simp) (by intro j hj; omega)
  have hh' : pIter s_DiskBits_0 (0, (List.replicate (4 : Int).toNat zero32, ([], (false, (false, (0, (0, (0, ())))))))) = _ := hh
  rw [hh']
  obtain ⟨k, hk1, hk2⟩ := round_ok (x := a0) (n := 4) (by omega) (by omega)
  obtain ⟨bit, hb1, hb2⟩ := round_ok (x := a1) (n := 256) (by omega) (by omega)
  have hf := flush_ok (l := List.replicate (4 : Int).toNat zero32) (h := h') (fuse := false) (left := left') (mask := 0) (writes := wr') q2 (by simpa using q3)
  have hlen : (flushL (List.replicate (4 : Int).toNat zero32) h').length = 4 := by rw [flushL_len]; simp
  have hq : ∀ j : Nat, j < 4 → (flushL (List.replicate (4 : Int).toNat zero32) h').getD j zero32 = sec ((j : Int) + 1) := by
    intro j hj
    have := rdv_flush (l := List.replicate (4 : Int).toNat zero32) (h := h') (i := (j : Int)) (by omega) (by simp; omega)
    rw [q4 j hj] at this
    rw [← this]
    rfl
  generalize flushL (List.replicate (4 : Int).toNat zero32) h' = l1 at hf hlen hq
  have hw := write_ok (i := (k : Int)) (b := sec 50) (l := l1) (h := []) (fuse := false) (left := left') (mask := 0) (writes := wr') (by omega) (by omega) (sec_len _) (.inl rfl)
  rw [put_one] at hw
  generalize pSub .i64 left' 1 = left2 at hw
  generalize pAdd .i64 wr' 1 = wr2 at hw
  obtain ⟨l2, t1, t2, l3, h3, t3, t4⟩ := bits_turn k bit (bit / 8) (bit % 8) a2 l1 left2 0 wr2 hlen (by omega) (by omega) rfl rfl hq
  have ek : pAdd .i64 (k : Int) 1 = (k : Int) + 1 := add64 (by omega) (by omega)
  have eq : pQuo .i64 (bit : Int) 8 = ((bit / 8 : Nat) : Int) := by rw [show (8 : Int) = ((8 : Nat) : Int) from rfl, quo64 (by omega)]
  have er : pRem (bit : Int) 8 = ((bit % 8 : Nat) : Int) := by rw [show (8 : Int) = ((8 : Nat) : Int) from rfl, rem64]
  have ei : ∀ v, pIn ((bit / 8 : Nat) : Int) (pLen (sec v)) = true := fun v => by simp [pIn, pLen, sec_len]; omega
  have el : pLe 0 ((bit % 8 : Nat) : Int) = true := by simp [pLe]; omega
  simp only [Option.bind_some, hk1, hb1, hf, b00, Bool.false_eq_true, if_false, sector_eq, hw, t3, ek, eq, er, b80, ei, el, if_true]
  have hfl : ∀ v, pSet (sec v) ((bit / 8 : Nat) : Int) (pXor .u8 (pGet 0 (sec v) ((bit / 8 : Nat) : Int)) (pShl .u8 1 ((bit % 8 : Nat) : Int))) = flip (sec v) ((bit / 8 : Nat) : Int) ((bit % 8 : Nat) : Int) := fun v => rfl
  have h256 : (if pNot a2 = true then some (pSet (sec ((k : Int) + 1)) ((bit / 8 : Nat) : Int) (pXor .u8 (pGet 0 (sec ((k : Int) + 1)) ((bit / 8 : Nat) : Int)) (pShl .u8 1 ((bit % 8 : Nat) : Int))), (pSet (sec 50) ((bit / 8 : Nat) : Int) (pXor .u8 (pGet 0 (sec 50) ((bit / 8 : Nat) : Int)) (pShl .u8 1 ((bit % 8 : Nat) : Int))), ())) else some (sec ((k : Int) + 1), (sec 50, ())) : Option (List Int × (List Int × Unit))) = some (turned a2 (sec ((k : Int) + 1)) ((bit / 8 : Nat) : Int) ((bit % 8 : Nat) : Int), (turned a2 (sec 50) ((bit / 8 : Nat) : Int) ((bit % 8 : Nat) : Int), ())) := by
    cases a2 <;> rfl
  have hcor : (if a2 = true then (m_disk_Disk_Corrupt (k : Int) (bit : Int) l3 h3 false false left2 0 wr2).bind fun d250 => if pNot (pEq d250.1 0) = true then some (Sum.inl (false, ())) else some (Sum.inr (d250.2.1, (d250.2.2.1, (d250.2.2.2.1, (d250.2.2.2.2.1, (d250.2.2.2.2.2.1, (d250.2.2.2.2.2.2.1, (d250.2.2.2.2.2.2.2.1, ())))))))) else some (Sum.inr (l3, (h3, (false, (false, (left2, (0, (wr2, ())))))))) : Option ((Bool × Unit) ⊕ ((List (List Int)) × ((List (Int × (List Int))) × (Bool × (Bool × (Int × (Int × (Int × Unit))))))))) = some (.inr (l2, ([((k : Int), turned a2 (sec 50) ((bit / 8 : Nat) : Int) ((bit % 8 : Nat) : Int))], (false, (false, (left2, (0, (wr2, ())))))))) := by
    cases a2 with
    | true =>
      simp only [if_true] at t4 ⊢
      rw [t4]
      simp only [Option.bind_some, b00, Bool.false_eq_true, if_false]
    | false =>
      simp only [Bool.false_eq_true, if_false] at t4 ⊢
      rw [t4.1, t4.2]
  rw [hcor, h256]
  generalize turned a2 (sec 50) ((bit / 8 : Nat) : Int) ((bit % 8 : Nat) : Int) = H at *
  generalize turned a2 (sec ((k : Int) + 1)) ((bit / 8 : Nat) : Int) ((bit % 8 : Nat) : Int) = O at *
  have hrd := read_ok (i := (k : Int)) (l := l2) (h := [((k : Int), H)]) (fuse := false) (left := left2) (mask := 0) (writes := wr2) (by omega) (by omega)
  have hrv : rdv l2 [((k : Int), H)] (k : Int) = H := by simp [rdv, findE, pEq]
  rw [hrv] at hrd
  simp only [Option.bind_some, hrd]
  have hset : ∀ (j : Nat), j < 4 → (l2.set (k : Int).toNat H).getD j zero32 = if (j : Int) = (k : Int) then H else sec ((j : Int) + 1) := by
    intro j hj
    have hj2 := t2 j hj
    by_cases hjk : j = k
    · subst hjk
      have : j < l2.length := by omega
      simp [List.getD_eq_getElem?_getD, this]
    · have hne : ¬ (j : Int) = (k : Int) := by omega
      rw [if_neg hne] at hj2 ⊢
      rw [← hj2]
      simp [List.getD_eq_getElem?_getD, List.getElem?_set, Ne.symm hjk]
  cases a3 with
  | true =>
    have hfu := fuse_ok (a := 0) (b := 1) (l := l2) (h := [((k : Int), H)]) (fuse := false) (left := left2) (mask := 0) (writes := wr2) (by omega) (by omega)
    have hw3 := write_blown (i := (k : Int)) (b := sec 9) (l := l2) (h := [((k : Int), H)]) (mask := 1) (writes := wr2) (by omega) (by omega) (sec_len 9)
    obtain ⟨L, u1, u2, u3⟩ := up_ok (l := l2) (h := [((k : Int), H)]) (fuse := true) (left := 0) (mask := 1) (writes := wr2) (by simp) (by simp; omega)
    have hL : L = [(k : Int)] := List.perm_singleton.1 u1
    subst hL
    have hu : upF [((k : Int), H)] 1 0 [(k : Int)] l2 [] = (l2.set (k : Int).toNat H, [(k : Int)]) := by
      have h1 : keeps 1 0 = true := by decide
      have hg : pMGet eqI zero32 [((k : Int), H)] (k : Int) = H := by simp [pMGet, pEq]
      simp only [upF, h1, if_true, hg, List.nil_append]
    rw [hu] at u3
    have hb := bits_read1 (k : Int) H O (l2.set (k : Int).toNat H) 0 1 wr2 (by simp [t1]) hset
    have ep : pNot (pEq (pLen [(k : Int)]) 1) = false := by simp [pNot, pEq, pLen]
    simp only [if_true, Option.bind_some, b00, es, Bool.false_eq_true, if_false, hfu, hw3, b77, u3, ep, hb]
  | false =>
    have hfu := fuse_ok (a := 0) (b := 0) (l := l2) (h := [((k : Int), H)]) (fuse := false) (left := left2) (mask := 0) (writes := wr2) (by omega) (by omega)
    have hw3 := write_blown (i := (k : Int)) (b := sec 9) (l := l2) (h := [((k : Int), H)]) (mask := 0) (writes := wr2) (by omega) (by omega) (sec_len 9)
    obtain ⟨L, u1, u2, u3⟩ := up_ok (l := l2) (h := [((k : Int), H)]) (fuse := true) (left := 0) (mask := 0) (writes := wr2) (by simp) (by simp; omega)
    have hL : L = [(k : Int)] := List.perm_singleton.1 u1
    subst hL
    have hu : upF [((k : Int), H)] 0 0 [(k : Int)] l2 [] = (l2, []) := by
      have h1 : keeps 0 0 = false := by decide
      simp only [upF, h1, Bool.false_eq_true, if_false]
    rw [hu] at u3
    have hb := bits_read2 (k : Int) H O l2 0 0 wr2 t1 t2
    have ep : pNot (pEq (pLen ([] : List Int)) 0) = false := rfl
    simp only [Option.bind_some, b00, es, Bool.false_eq_true, if_false, hfu, hw3, b77, u3, ep, hb]
end Go.Xr.Try
