import Derived.Test.YtkooincefcodcaaLz5
set_option linter.unusedVariables false
set_option linter.unusedSimpArgs false
set_option maxRecDepth 100000
namespace Go.Xr.Try
open Go Go.Xr

/-! ### what was packed is unpacked -/
/-- bytes that begin with these bits -/
def Holds (c L : List Int) : Prop := L.length ≤ 8 * c.length ∧ ∀ j, j < L.length → bitv c j = L.getD j 0
theorem holds_packs {L : List Int} (h : Bits L) : Holds (packs L) L := ⟨by rw [packs_len]; omega, fun j hj => bitv_packs h hj⟩
theorem holds_more {L : List Int} (h : Bits L) (x : Int) : Holds (packs L ++ [x]) L := by
  refine ⟨by simp [packs_len]; omega, fun j hj => ?_⟩
  rw [← bitv_packs h hj]
  unfold bitv
  rw [List.getD_eq_getElem?_getD, List.getD_eq_getElem?_getD, List.getElem?_append_left (by rw [packs_len]; omega)]
theorem read_val {c L Pre Post : List Int} {v : Int} {k : Nat} (h : Holds c L) (e : L = Pre ++ (bitsL v k ++ Post)) (h0 : 0 ≤ v) (h1 : v < 2 ^ k) : gN c Pre.length k = v.toNat ∧ Pre.length + k ≤ 8 * c.length := by
  have hl : Pre.length + k ≤ L.length := by rw [e]; simp [bitsL_len]
  have hg := getAcc_val (b := c) (v := v) k Pre.length 0 fun t ht => by
    rw [h.2 _ (by omega), e, List.getD_eq_getElem?_getD, List.getD_eq_getElem?_getD, List.getElem?_append_right (by omega), List.getElem?_append_left (by rw [bitsL_len]; omega)]
    rw [show Pre.length + t - Pre.length = t by omega]
  refine ⟨?_, by have := h.1; omega⟩
  unfold gN
  rw [hg, Int.emod_eq_of_lt h0 h1]
  simp
theorem take_snoc {b : List Int} {i : Nat} (h : i < b.length) : b.take i ++ [b.getD i 0] = b.take (i + 1) := by
  rw [List.take_add_one, List.getElem?_eq_getElem h, List.getD_eq_getElem?_getD, List.getElem?_eq_getElem h]
  rfl
theorem copy_take {b : List Int} {d : Nat} (hd : 1 ≤ d) : ∀ (n i : Nat), i + n ≤ b.length → d ≤ i → (∀ x, x < n → b.getD (i + x) 0 = b.getD (i - d + x) 0) → copyN n d (b.take i) = b.take (i + n)
  | 0, i, _, _, _ => rfl
  | n + 1, i, h, hi, hs => by
    have hl : (b.take i).length = i := by simp; omega
    have h0 := hs 0 (by omega)
    simp only [Nat.add_zero] at h0
    have hg : (b.take i).getD ((b.take i).length - d) 0 = b.getD i 0 := by
      rw [hl, h0, List.getD_eq_getElem?_getD, List.getD_eq_getElem?_getD, List.getElem?_take, if_pos (by omega)]
    rw [copyN, hg, take_snoc (by omega), copy_take hd n (i + 1) (by omega) (by omega) fun x hx => ?_]
    · congr 1; omega
    · have := hs (x + 1) (by omega)
      rw [show i + 1 + x = i + (x + 1) by omega, show i + 1 - d + x = i - d + (x + 1) by omega]
      exact this
theorem piece_tok {b c L Pre Post : List Int} {i : Nat} (hb : Bytes b) (hlen : b.length ≤ 65535) (hi : i < b.length) (h : Holds c L) (e : L = Pre ++ (tok b i ++ Post)) :
    piece c b.length Pre.length (b.take i) = some ((Pre ++ tok b i).length, b.take (i + adv b i)) := by
  have hl : (b.take i).length = i := by simp; omega
  unfold tok at e ⊢
  unfold adv piece
  by_cases hn : (bestAt b i).2 = 0
  · rw [if_pos hn] at e ⊢
    have hg := hb.get i
    obtain ⟨r1, r2⟩ := read_val (Pre := Pre) (Post := bitsL (b.getD i 0) 8 ++ Post) (v := 0) (k := 1) h (by rw [e]; simp) (by omega) (by decide)
    obtain ⟨r3, r4⟩ := read_val (Pre := Pre ++ bitsL 0 1) (Post := Post) (v := b.getD i 0) (k := 8) h (by rw [e]; simp) (by omega) (by omega)
    have hl1 : (Pre ++ bitsL 0 1).length = Pre.length + 1 := by simp [bitsL_len]
    rw [hl1] at r3 r4
    rw [if_neg (by omega), if_pos (by rw [r1]; rfl), if_neg (by omega), r3, if_pos hn]
    have e1 : (((b.getD i 0).toNat : Nat) : Int) = b.getD i 0 := by omega
    rw [e1, take_snoc hi]
    congr 2
    simp [bitsL_len]
  · rw [if_neg hn] at e ⊢
    obtain ⟨b1, b2, b3, b4, b5, b6, b7⟩ := best_prop hn
    obtain ⟨r1, r2⟩ := read_val (Pre := Pre) (Post := bitsL (((bestAt b i).1 - 1 : Nat) : Int) 12 ++ (bitsL (((bestAt b i).2 - 3 : Nat) : Int) 8 ++ Post)) (v := 1) (k := 1) h (by rw [e]; simp) (by omega) (by decide)
    obtain ⟨r3, r4⟩ := read_val (Pre := Pre ++ bitsL 1 1) (Post := bitsL (((bestAt b i).2 - 3 : Nat) : Int) 8 ++ Post) (v := (((bestAt b i).1 - 1 : Nat) : Int)) (k := 12) h (by rw [e]; simp) (by omega) (by omega)
    obtain ⟨r5, r6⟩ := read_val (Pre := Pre ++ bitsL 1 1 ++ bitsL (((bestAt b i).1 - 1 : Nat) : Int) 12) (Post := Post) (v := (((bestAt b i).2 - 3 : Nat) : Int)) (k := 8) h (by rw [e]; simp) (by omega) (by omega)
    have hl1 : (Pre ++ bitsL 1 1).length = Pre.length + 1 := by simp [bitsL_len]
    have hl2 : (Pre ++ bitsL 1 1 ++ bitsL (((bestAt b i).1 - 1 : Nat) : Int) 12).length = Pre.length + 13 := by simp [bitsL_len]
    rw [hl1] at r3 r4
    rw [hl2] at r5 r6
    simp only [Int.toNat_natCast] at r3 r5
    rw [if_neg (by omega), if_neg (by rw [r1]; decide), if_neg (by omega), r3, r5, if_neg (by rw [hl]; omega), if_neg (by rw [hl]; omega), if_neg hn]
    rw [show (bestAt b i).2 - 3 + 3 = (bestAt b i).2 by omega, show (bestAt b i).1 - 1 + 1 = (bestAt b i).1 by omega]
    rw [copy_take b1 _ i b6 b3 b7]
    congr 2
    simp [bitsL_len]
theorem unp_from {b c L : List Int} (hb : Bytes b) (hlen : b.length ≤ 65535) (h : Holds c L) : ∀ (g i f : Nat) (Pre : List Int), L = Pre ++ bitsFrom b g i → i ≤ b.length → b.length ≤ i + g → b.length < i + f →
    unp c b.length f Pre.length (b.take i) = some (L.length, b) := by
  intro g
  induction g with
  | zero =>
    intro i f Pre e hi hg hf
    have : i = b.length := by omega
    subst this
    obtain ⟨f', rfl⟩ : ∃ f', f = f' + 1 := ⟨f - 1, by omega⟩
    rw [unp, if_neg (by simp)]
    simp [e, bitsFrom]
  | succ g ih =>
    intro i f Pre e hi hg hf
    obtain ⟨f', rfl⟩ : ∃ f', f = f' + 1 := ⟨f - 1, by omega⟩
    by_cases hlt : i < b.length
    · rw [bitsFrom, if_pos hlt] at e
      have ha := adv_spec hlt
      have hp := piece_tok hb hlen hlt h e
      rw [unp, if_pos (by simp; omega), hp]
      exact ih (i + adv b i) f' (Pre ++ tok b i) (by rw [e]; simp) ha.2.1 (by omega) (by omega)
    · have : i = b.length := by omega
      subst this
      rw [bitsFrom, if_neg (by omega)] at e
      rw [unp, if_neg (by simp)]
      simp [e]
theorem unpack_holds {b c : List Int} (hb : Bytes b) (hlen : b.length ≤ 65535) (h : Holds c (allBits b)) : ¬ 8 * c.length < 16 ∧ gN c 0 16 = b.length ∧ unp c b.length (b.length + 1) 16 [] = some ((allBits b).length, b) := by
  obtain ⟨r1, r2⟩ := read_val (Pre := []) (Post := bitsFrom b b.length 0) (v := (b.length : Int)) (k := 16) h rfl (by omega) (by omega)
  simp only [Int.toNat_natCast, List.length_nil, Nat.zero_add] at r1 r2
  have h2 := unp_from hb hlen h b.length 0 (b.length + 1) (bitsL (b.length : Int) 16) rfl (by omega) (by omega) (by omega)
  rw [bitsL_len] at h2
  exact ⟨by omega, r1, h2⟩
theorem unpack_pack {b : List Int} (hb : Bytes b) (hlen : b.length ≤ 65535) : unpackV (packs (allBits b)) = (0, b) := by
  obtain ⟨h1, h2, h3⟩ := unpack_holds hb hlen (holds_packs (allBits_bits b))
  unfold unpackV
  rw [if_neg h1, h2, h3]
  simp only [rest_packs (allBits_bits b), if_true]
theorem unpack_more {b : List Int} (hb : Bytes b) (hlen : b.length ≤ 65535) (x : Int) : unpackV (packs (allBits b) ++ [x]) = (3, []) := by
  obtain ⟨h1, h2, h3⟩ := unpack_holds hb hlen (holds_more (allBits_bits b) x)
  unfold unpackV
  rw [if_neg h1, h2, h3]
  have hr : restv (packs (allBits b) ++ [x]) (allBits b).length = 3 := by
    unfold restv
    rw [if_pos (by simp [packs_len]; omega)]
  simp only [hr]
  rfl
/-! ### cut off -/
def Begins (c' c : List Int) : Prop := c'.length ≤ c.length ∧ ∀ j, j < 8 * c'.length → bitv c' j = bitv c j
theorem begins_take (c : List Int) (n : Nat) : Begins (c.take n) c := by
  refine ⟨by simp; omega, fun j hj => ?_⟩
  unfold bitv
  have hj : j / 8 < n := by simp at hj; omega
  rw [List.getD_eq_getElem?_getD, List.getD_eq_getElem?_getD, List.getElem?_take, if_pos hj]
theorem getAcc_begins {c' c : List Int} (h : Begins c' c) : ∀ (k p : Nat) (acc : Int), p + k ≤ 8 * c'.length → getAcc c' p k acc = getAcc c p k acc
  | 0, _, _, _ => rfl
  | k + 1, p, acc, hp => by
    simp only [getAcc]
    rw [h.2 p (by omega), getAcc_begins h k (p + 1) _ (by omega)]
theorem gN_begins {c' c : List Int} (h : Begins c' c) {p k : Nat} (hp : p + k ≤ 8 * c'.length) : gN c' p k = gN c p k := by
  unfold gN; rw [getAcc_begins h k p 0 hp]
theorem piece_begins {c' c : List Int} (h : Begins c' c) {s p : Nat} {o : List Int} {q : Nat} {o' : List Int} (e : piece c' s p o = some (q, o')) : piece c s p o = some (q, o') ∧ q ≤ 8 * c'.length := by
  have hl := h.1
  unfold piece at e ⊢
  by_cases c1 : 8 * c'.length < p + 1
  · rw [if_pos c1] at e; cases e
  rw [if_neg c1, gN_begins h (by omega)] at e
  rw [if_neg (by omega)]
  by_cases c2 : gN c p 1 = 0
  · rw [if_pos c2] at e ⊢
    by_cases c3 : 8 * c'.length < p + 9
    · rw [if_pos c3] at e; cases e
    rw [if_neg c3, gN_begins h (by omega)] at e
    rw [if_neg (by omega), e]
    refine ⟨rfl, ?_⟩
    injection e with e; injection e with e1 e2; omega
  · rw [if_neg c2] at e ⊢
    by_cases c3 : 8 * c'.length < p + 21
    · rw [if_pos c3] at e; cases e
    rw [if_neg c3, gN_begins h (by omega), gN_begins h (by omega)] at e
    rw [if_neg (by omega), e]
    refine ⟨rfl, ?_⟩
    split at e
    · cases e
    · split at e
      · cases e
      · injection e with e; injection e with e1 e2; omega
theorem unp_begins {c' c : List Int} (h : Begins c' c) {s : Nat} : ∀ (f p : Nat) (o : List Int) (q : Nat) (o' : List Int), p ≤ 8 * c'.length → unp c' s f p o = some (q, o') → unp c s f p o = some (q, o') ∧ q ≤ 8 * c'.length
  | 0, p, o, q, o', hp, e => by
    unfold unp at e ⊢
    refine ⟨e, ?_⟩
    injection e with e; injection e with e1 e2; omega
  | f + 1, p, o, q, o', hp, e => by
    rw [unp] at e ⊢
    by_cases hc : o.length < s
    · rw [if_pos hc] at e ⊢
      cases hpc : piece c' s p o with
      | none => rw [hpc] at e; cases e
      | some r =>
        obtain ⟨q1, o1⟩ := r
        rw [hpc] at e
        obtain ⟨k1, k2⟩ := piece_begins h hpc
        rw [k1]
        exact unp_begins h f q1 o1 q o' k2 e
    · rw [if_neg hc] at e ⊢
      refine ⟨e, ?_⟩
      injection e with e; injection e with e1 e2; omega
theorem unpack_less {b : List Int} (hb : Bytes b) (hlen : b.length ≤ 65535) {n : Nat} (hn : n < (packs (allBits b)).length) : unpackV ((packs (allBits b)).take n) = (3, []) := by
  obtain ⟨h1, h2, h3⟩ := unpack_holds hb hlen (holds_packs (allBits_bits b))
  have hbg := begins_take (packs (allBits b)) n
  have hl : ((packs (allBits b)).take n).length = n := by simp; omega
  have hpl := packs_len (allBits b)
  unfold unpackV
  by_cases c : 8 * ((packs (allBits b)).take n).length < 16
  · rw [if_pos c]
  · rw [if_neg c, gN_begins hbg (by omega), h2]
    cases hu : unp ((packs (allBits b)).take n) b.length (b.length + 1) 16 [] with
    | none => rfl
    | some r =>
      obtain ⟨q, o⟩ := r
      obtain ⟨k1, k2⟩ := unp_begins hbg _ _ _ _ _ (by omega) hu
      rw [h3] at k1
      injection k1 with k1; injection k1 with k1 k1'
      omega
/-! ### the head -/
theorem head_bits {c : List Int} (hc : Bytes c) : gN c 0 16 = (c.getD 0 0 * 256 + c.getD 1 0).toNat := by
  have h0 := hc.get 0
  have h1 := hc.get 1
  have hg := getAcc_val (b := c) (v := c.getD 0 0 * 256 + c.getD 1 0) 16 0 0 fun t ht => by
    have ht : t = 0 ∨ t = 1 ∨ t = 2 ∨ t = 3 ∨ t = 4 ∨ t = 5 ∨ t = 6 ∨ t = 7 ∨ t = 8 ∨ t = 9 ∨ t = 10 ∨ t = 11 ∨ t = 12 ∨ t = 13 ∨ t = 14 ∨ t = 15 := by omega
    rw [Nat.zero_add]
    rcases ht with rfl | rfl | rfl | rfl | rfl | rfl | rfl | rfl | rfl | rfl | rfl | rfl | rfl | rfl | rfl | rfl
    · show c.getD 0 0 / 2 ^ 7 % 2 = (c.getD 0 0 * 256 + c.getD 1 0) / 2 ^ 15 % 2
      omega
    · show c.getD 0 0 / 2 ^ 6 % 2 = (c.getD 0 0 * 256 + c.getD 1 0) / 2 ^ 14 % 2
      omega
    · show c.getD 0 0 / 2 ^ 5 % 2 = (c.getD 0 0 * 256 + c.getD 1 0) / 2 ^ 13 % 2
      omega
    · show c.getD 0 0 / 2 ^ 4 % 2 = (c.getD 0 0 * 256 + c.getD 1 0) / 2 ^ 12 % 2
      omega
    · show c.getD 0 0 / 2 ^ 3 % 2 = (c.getD 0 0 * 256 + c.getD 1 0) / 2 ^ 11 % 2
      omega
    · show c.getD 0 0 / 2 ^ 2 % 2 = (c.getD 0 0 * 256 + c.getD 1 0) / 2 ^ 10 % 2
      omega
    · show c.getD 0 0 / 2 ^ 1 % 2 = (c.getD 0 0 * 256 + c.getD 1 0) / 2 ^ 9 % 2
      omega
    · show c.getD 0 0 / 2 ^ 0 % 2 = (c.getD 0 0 * 256 + c.getD 1 0) / 2 ^ 8 % 2
      omega
    · show c.getD 1 0 / 2 ^ 7 % 2 = (c.getD 0 0 * 256 + c.getD 1 0) / 2 ^ 7 % 2
      omega
    · show c.getD 1 0 / 2 ^ 6 % 2 = (c.getD 0 0 * 256 + c.getD 1 0) / 2 ^ 6 % 2
      omega
    · show c.getD 1 0 / 2 ^ 5 % 2 = (c.getD 0 0 * 256 + c.getD 1 0) / 2 ^ 5 % 2
      omega
    · show c.getD 1 0 / 2 ^ 4 % 2 = (c.getD 0 0 * 256 + c.getD 1 0) / 2 ^ 4 % 2
      omega
    · show c.getD 1 0 / 2 ^ 3 % 2 = (c.getD 0 0 * 256 + c.getD 1 0) / 2 ^ 3 % 2
      omega
    · show c.getD 1 0 / 2 ^ 2 % 2 = (c.getD 0 0 * 256 + c.getD 1 0) / 2 ^ 2 % 2
      omega
    · show c.getD 1 0 / 2 ^ 1 % 2 = (c.getD 0 0 * 256 + c.getD 1 0) / 2 ^ 1 % 2
      omega
    · show c.getD 1 0 / 2 ^ 0 % 2 = (c.getD 0 0 * 256 + c.getD 1 0) / 2 ^ 0 % 2
      omega
  unfold gN
  rw [hg, Int.emod_eq_of_lt (by omega) (by omega)]
  simp
abbrev hd (c : List Int) : Int := pOr .i64 (pShl .i64 (pWrap .i64 (pGet 0 c 0)) 8) (pWrap .i64 (pGet 0 c 1))
theorem head_val {c : List Int} (hc : Bytes c) : hd c = ((gN c 0 16 : Nat) : Int) := by
  have h0 := hc.get 0
  have h1 := hc.get 1
  rw [head_bits hc]
  unfold hd
  have e0 : pWrap .i64 (pGet 0 c 0) = c.getD 0 0 := wrap64 (by simp only [pGet, Int.toNat_zero]; omega) (by simp only [pGet, Int.toNat_zero]; omega)
  have e1 : pWrap .i64 (pGet 0 c 1) = c.getD 1 0 := by
    have : pGet 0 c 1 = c.getD 1 0 := rfl
    rw [this]
    exact wrap64 (by omega) (by omega)
  rw [e0, e1]
  generalize c.getD 0 0 = x at *
  generalize c.getD 1 0 = y at *
  obtain ⟨n, rfl⟩ := Int.eq_ofNat_of_zero_le h0.1
  obtain ⟨m, rfl⟩ := Int.eq_ofNat_of_zero_le h1.1
  have hs : pShl .i64 (n : Int) 8 = ((n * 256 : Nat) : Int) := by
    simp only [pShl, IntKind.bits]
    rw [show (2 : Int) ^ min (Int.toNat 8) 64 = 256 from rfl, wrap64 (by omega) (by omega)]
    omega
  rw [hs, or_nat]
  have a1 : (((n * 256 : Nat) : Int) % 2 ^ IntKind.bits .i64).toNat = n * 256 := by simp only [IntKind.bits]; omega
  have a2 : (((m : Nat) : Int) % 2 ^ IntKind.bits .i64).toNat = m := by simp only [IntKind.bits]; omega
  rw [a1, a2]
  have key : (n * 256 ||| m) = n * 256 + m := by
    have := Nat.shiftLeft_add_eq_or_of_lt (i := 8) (b := m) (by omega) n
    rw [Nat.shiftLeft_eq] at this
    exact this.symm
  rw [key, wrap64 (by omega) (by omega)]
  omega
end Go.Xr.Try
