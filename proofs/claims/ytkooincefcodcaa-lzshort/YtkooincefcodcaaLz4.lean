import Derived.Test.YtkooincefcodcaaLz3
set_option linter.unusedVariables false
set_option linter.unusedSimpArgs false
set_option maxRecDepth 100000
namespace Go.Xr.Try
open Go Go.Xr
theorem pbind_to {α β : Type} {m : Option α} {a : α} (h : m = some a) {f : α → Option β} {r : Option β} (hf : f a = r) : pBind m f = r := by
  subst h
  exact hf
theorem piece_v6 {b out : List Int} {size p q k x e r z e3 : Int} (g1 : m_bits_Reader_Get 1 b p = some (k, (0, (b, (q, ()))))) (hk : pEq k 0 = false) (k1 : m_bits_Reader_Get 12 b q = some (z,(e3,(b,(q,()))))) (b30 : pNot (pEq e3 0) = true) (j1 : m_bits_Reader_Get 8 b q = some (x,(e,(b,(r,()))))) :
   m_lz_piece size b p out = some (.inl (false, (b, (r, (out, ([], ())))))) := by
  have b00 : pNot (pEq 0 0) = false := rfl
  unfold m_lz_piece
  rw [g1]
  simp only [pBind, Option.bind_some, b00, hk, Bool.false_eq_true, if_false]
  rw [k1]
  simp only [pBind, Option.bind_some]
  rw [j1]
  simp only [Option.bind_some]
  rw [if_pos b30]
theorem piece_v2 {b out : List Int} {size p q k x e r : Int} (g1 : m_bits_Reader_Get 1 b p = some (k, (0, (b, (q, ()))))) (hk : pEq k 0 = true) (k1 : m_bits_Reader_Get 8 b q = some (x,(e,(b,(r,()))))) (hr : pRoom (pIAdd (pLen out) (pLen [pWrap .u8 x])) = true) :
   m_lz_piece size b p out = some (.inr (pEq e 0, (b, (r, (pApp out [pWrap .u8 x], ()))))) := by
  have b00 : pNot (pEq 0 0) = false := rfl
  unfold m_lz_piece
  rw [g1]
  simp only [pBind, Option.bind_some, b00, Bool.false_eq_true, if_false]
  rw [if_pos hk]
  refine pbind_to k1 ?_
  exact if_pos hr
theorem piece_r5 {b out : List Int} {p q k x r : Int} {d : Int × (Int × (List Int × (Int × Unit)))} (h1 : pLt (pLen out) d.1 = true) (g1 : m_wainscotref1_Scan_Get_1 1 b p = some (k, (0, (b, (q, ()))))) (hk : pEq k 0 = true) (k1 : m_wainscotref1_Scan_Get_1 8 b q = some (x,(0,(b,(r,()))))) (hr : pRoom (pIAdd (pLen out) (pLen [pWrap .u8 x])) = true) :
   s_wainscotref1_Unpack_1 d (b, (p, (out, ()))) = some (.inl (b, (r, (pApp out [pWrap .u8 x], ())))) := by
  have b00 : ¬ pNot (pEq 0 0) = true := by decide
  unfold s_wainscotref1_Unpack_1
  rw [if_pos h1, g1]
  simp only [pBind, Option.bind_some]
  rw [if_neg b00, if_pos hk]
  refine pbind_to k1 ?_
  exact (if_neg b00).trans (if_pos hr)
theorem ne_zero_eq (x : Int) (h : x ≠ 0) : pEq x 0 = false := decide_eq_false h
theorem unp_step {b : List Int} (hb : Bytes b) (hl : b.length ≤ 100000) {size p : Nat} (hs : size ≤ 65535) (hp : p ≤ 8 * b.length) {out : List Int} (ho : out.length < size) {y : Int × (List Int × (Int × Unit))} :
    (piece b size p out = none ∧ s_lz_Unpack_0 ((size : Int), y) (b, ((p : Int), (out, ()))) = some (.inr (.inl (3, ([], ())))) ∧ s_wainscotref1_Unpack_1 ((size : Int), y) (b, ((p : Int), (out, ()))) = some (.inr (.inl (3, ([], ()))))) ∨
    ∃ q o, piece b size p out = some (q, o) ∧ q ≤ 8 * b.length ∧ o.length ≤ size ∧ out.length < o.length ∧
      s_lz_Unpack_0 ((size : Int), y) (b, ((p : Int), (out, ()))) = some (.inl (b, ((q : Int), (o, ())))) ∧ s_wainscotref1_Unpack_1 ((size : Int), y) (b, ((p : Int), (out, ()))) = some (.inl (b, ((q : Int), (o, ())))) := by
  have h1 : pLt (pLen out) (size : Int) = true := decide_eq_true (by simp only [pLen]; omega)
  have b30 : pNot (pEq 3 0) = true := rfl
  have b00 : pNot (pEq 0 0) = false := rfl
  have e30 : pEq 3 0 = false := rfl
  have e00 : pEq 0 0 = true := rfl
  have nf : pNot false = true := rfl
  have nt : pNot true = false := rfl
  by_cases c1 : 8 * b.length < p + 1
  · left
    obtain ⟨g1, g2⟩ := get_short hl (n := 1) (p := p) (by omega) hp c1
    have g1 : m_bits_Reader_Get 1 b (p : Int) = _ := g1
    have g2 : m_wainscotref1_Scan_Get 1 b (p : Int) = _ := g2
    refine ⟨by unfold piece; rw [if_pos c1], ?_, ?_⟩
    · unfold s_lz_Unpack_0 m_lz_piece
      simp only [h1, g1, b30, nf, pBind, Option.bind_some, pCase, if_true]
    · unfold s_wainscotref1_Unpack_1
      simp only [h1, scan_get1, g2, b30, pBind, Option.bind_some, if_true]
  obtain ⟨g1, g2⟩ := get_ok hb hl (n := 1) (p := p) (by omega) (by omega)
  have g1 : m_bits_Reader_Get 1 b (p : Int) = _ := g1
  have g2 : m_wainscotref1_Scan_Get 1 b (p : Int) = _ := g2
  rw [(gN_spec b p 1).1] at g1 g2
  by_cases c2 : gN b p 1 = 0
  · have hk : pEq ((gN b p 1 : Nat) : Int) 0 = true := decide_eq_true (by omega)
    have hp2 : piece b size p out = (if 8 * b.length < p + 9 then none else some (p + 9, out ++ [((gN b (p + 1) 8 : Nat) : Int)])) := by unfold piece; rw [if_neg c1, if_pos c2]
    by_cases c3 : 8 * b.length < p + 9
    · left
      obtain ⟨k1, k2⟩ := get_short hl (n := 8) (p := p + 1) (by omega) (by omega) (by omega)
      have k1 : m_bits_Reader_Get 8 b ((p + 1 : Nat) : Int) = _ := k1
      have k2 : m_wainscotref1_Scan_Get 8 b ((p + 1 : Nat) : Int) = _ := k2
      have hr : pRoom (pIAdd (pLen out) (pLen [pWrap .u8 0])) = true := by simp [pRoom, pIAdd, pLen]; omega
      refine ⟨by rw [hp2, if_pos c3], ?_, ?_⟩
      · have hpc := piece_v2 (size := (size : Int)) g1 hk k1 hr
        unfold s_lz_Unpack_0
        simp only [h1, hpc, e30, nf, pBind, Option.bind_some, pCase, if_true]
      · unfold s_wainscotref1_Unpack_1
        simp only [h1, scan_get1, g2, k2, b00, hk, b30, pBind, Option.bind_some, if_true, Bool.false_eq_true, if_false]
    · right
      obtain ⟨k1, k2⟩ := get_ok hb hl (n := 8) (p := p + 1) (by omega) (by omega)
      have k1 : m_bits_Reader_Get 8 b ((p + 1 : Nat) : Int) = _ := k1
      have k2 : m_wainscotref1_Scan_Get 8 b ((p + 1 : Nat) : Int) = _ := k2
      rw [(gN_spec b (p + 1) 8).1] at k1 k2
      have hlt := (gN_spec b (p + 1) 8).2
      have hw : pWrap .u8 ((gN b (p + 1) 8 : Nat) : Int) = ((gN b (p + 1) 8 : Nat) : Int) := wrap8 (by omega) (by omega)
      have hr : pRoom (pIAdd (pLen out) (pLen [((gN b (p + 1) 8 : Nat) : Int)])) = true := by simp [pRoom, pIAdd, pLen]; omega
      refine ⟨p + 9, out ++ [((gN b (p + 1) 8 : Nat) : Int)], by rw [hp2, if_neg c3], by omega, by simp; omega, by simp, ?_, ?_⟩
      · have hpc := piece_v2 (size := (size : Int)) g1 hk k1 (by rw [hw]; exact hr)
        unfold s_lz_Unpack_0
        simp only [h1, hpc, hw, e00, nt, pBind, Option.bind_some, pCase, if_true, Bool.false_eq_true, if_false]
      · have hpc := piece_r5 (d := ((size : Int), y)) h1 (by rw [scan_get1]; exact g2) hk (by rw [scan_get1]; exact k2) (by rw [hw]; exact hr)
        rw [hw] at hpc
        exact hpc
  · have hk : pEq ((gN b p 1 : Nat) : Int) 0 = false := decide_eq_false (by omega)
    have hp2 : piece b size p out = (if 8 * b.length < p + 21 then none
      else if out.length < gN b (p + 1) 12 + 1 then none
      else if size < out.length + (gN b (p + 13) 8 + 3) then none
      else some (p + 21, copyN (gN b (p + 13) 8 + 3) (gN b (p + 1) 12 + 1) out)) := by unfold piece; rw [if_neg c1, if_neg c2]
    by_cases c3 : 8 * b.length < p + 13
    · left
      obtain ⟨k1, k2⟩ := get_short hl (n := 12) (p := p + 1) (by omega) (by omega) (by omega)
      have k1 : m_bits_Reader_Get 12 b ((p + 1 : Nat) : Int) = _ := k1
      have k2 : m_wainscotref1_Scan_Get 12 b ((p + 1 : Nat) : Int) = _ := k2
      obtain ⟨x, e, q, j1, j2⟩ : ∃ x e q, m_bits_Reader_Get 8 b ((p + 1 : Nat) : Int) = some (x, (e, (b, (q, ())))) ∧ m_wainscotref1_Scan_Get 8 b ((p + 1 : Nat) : Int) = some (x, (e, (b, (q, ())))) := by
        by_cases c4 : 8 * b.length < p + 9
        · exact ⟨_, _, _, get_short hl (n := 8) (p := p + 1) (by omega) (by omega) (by omega)⟩
        · exact ⟨_, _, _, get_ok hb hl (n := 8) (p := p + 1) (by omega) (by omega)⟩
      refine ⟨by rw [hp2, if_pos (by omega)], ?_, ?_⟩
      · have hpc := piece_v6 (size := (size : Int)) (out := out) g1 hk k1 b30 j1
        unfold s_lz_Unpack_0
        simp only [h1, hpc, nf, pBind, Option.bind_some, pCase, if_true]
      · unfold s_wainscotref1_Unpack_1
        simp only [h1, scan_get1, g2, k2, j2, b00, hk, b30, pBind, Option.bind_some, if_true, Bool.false_eq_true, if_false]
    obtain ⟨k1, k2⟩ := get_ok hb hl (n := 12) (p := p + 1) (by omega) (by omega)
    have k1 : m_bits_Reader_Get 12 b ((p + 1 : Nat) : Int) = _ := k1
    have k2 : m_wainscotref1_Scan_Get 12 b ((p + 1 : Nat) : Int) = _ := k2
    have e13 : p + 1 + 12 = p + 13 := by omega
    rw [(gN_spec b (p + 1) 12).1, e13] at k1 k2
    have hlt := (gN_spec b (p + 1) 12).2
    by_cases c4 : 8 * b.length < p + 21
    · left
      obtain ⟨j1, j2⟩ := get_short hl (n := 8) (p := p + 13) (by omega) (by omega) (by omega)
      have j1 : m_bits_Reader_Get 8 b ((p + 13 : Nat) : Int) = _ := j1
      have j2 : m_wainscotref1_Scan_Get 8 b ((p + 13 : Nat) : Int) = _ := j2
      refine ⟨by rw [hp2, if_pos c4], ?_, ?_⟩
      · unfold s_lz_Unpack_0 m_lz_piece
        simp only [h1, g1, k1, j1, b00, hk, b30, nf, pBind, Option.bind_some, pCase, if_true, Bool.false_eq_true, if_false]
      · unfold s_wainscotref1_Unpack_1
        simp only [h1, scan_get1, g2, k2, j2, b00, hk, b30, pBind, Option.bind_some, if_true, Bool.false_eq_true, if_false]
    obtain ⟨j1, j2⟩ := get_ok hb hl (n := 8) (p := p + 13) (by omega) (by omega)
    have j1 : m_bits_Reader_Get 8 b ((p + 13 : Nat) : Int) = _ := j1
    have j2 : m_wainscotref1_Scan_Get 8 b ((p + 13 : Nat) : Int) = _ := j2
    have e21 : p + 13 + 8 = p + 21 := by omega
    rw [(gN_spec b (p + 13) 8).1, e21] at j1 j2
    have hlt2 := (gN_spec b (p + 13) 8).2
    have d1 : pAdd .i64 ((gN b (p + 1) 12 : Nat) : Int) 1 = ((gN b (p + 1) 12 + 1 : Nat) : Int) := by rw [add64 (by omega) (by omega)]; omega
    have d2 : pAdd .i64 ((gN b (p + 13) 8 : Nat) : Int) 3 = ((gN b (p + 13) 8 + 3 : Nat) : Int) := by rw [add64 (by omega) (by omega)]; omega
    have d3 : pSub .i64 (size : Int) (pLen out) = ((size - out.length : Nat) : Int) := by simp only [pLen]; rw [sub64 (by omega) (by omega)]; omega
    have d4 : pAdd .i64 (pAdd .i64 (pLen out) ((gN b (p + 13) 8 : Nat) : Int)) 3 = ((out.length + (gN b (p + 13) 8 + 3) : Nat) : Int) := by simp only [pLen]; rw [add64 (a := (out.length : Int)) (by omega) (by omega), add64 (by omega) (by omega)]; omega
    by_cases c5 : out.length < gN b (p + 1) 12 + 1
    · left
      have f1 : pLt (pLen out) ((gN b (p + 1) 12 + 1 : Nat) : Int) = true := decide_eq_true (by simp only [pLen]; omega)
      refine ⟨by rw [hp2, if_neg c4, if_pos c5], ?_, ?_⟩
      · unfold s_lz_Unpack_0 m_lz_piece
        simp only [h1, g1, k1, j1, b00, hk, d1, f1, nf, pBind, Option.bind_some, pCase, if_true, Bool.false_eq_true, if_false]
      · unfold s_wainscotref1_Unpack_1
        simp only [h1, scan_get1, g2, k2, j2, b00, hk, d1, f1, pBind, Option.bind_some, if_true, Bool.false_eq_true, if_false]
    have f1 : pLt (pLen out) ((gN b (p + 1) 12 + 1 : Nat) : Int) = false := decide_eq_false (by simp only [pLen]; omega)
    by_cases c6 : size < out.length + (gN b (p + 13) 8 + 3)
    · left
      have f2 : pLt ((size - out.length : Nat) : Int) ((gN b (p + 13) 8 + 3 : Nat) : Int) = true := decide_eq_true (by omega)
      have f3 : pLt (size : Int) ((out.length + (gN b (p + 13) 8 + 3) : Nat) : Int) = true := decide_eq_true (by omega)
      refine ⟨by rw [hp2, if_neg c4, if_neg c5, if_pos c6], ?_, ?_⟩
      · unfold s_lz_Unpack_0 m_lz_piece
        simp only [h1, g1, k1, j1, b00, hk, d1, d2, d3, f1, f2, nf, pBind, Option.bind_some, pCase, if_true, Bool.false_eq_true, if_false]
      · unfold s_wainscotref1_Unpack_1
        simp only [h1, scan_get1, g2, k2, j2, b00, hk, d1, d4, f1, f3, pBind, Option.bind_some, if_true, Bool.false_eq_true, if_false]
    right
    have f2 : pLt ((size - out.length : Nat) : Int) ((gN b (p + 13) 8 + 3 : Nat) : Int) = false := decide_eq_false (by omega)
    have f3 : pLt (size : Int) ((out.length + (gN b (p + 13) 8 + 3) : Nat) : Int) = false := decide_eq_false (by omega)
    have l1 := fun y1 y2 => (copy_loop (D := gN b (p + 1) 12 + 1) (by omega) (by omega) (N := gN b (p + 13) 8 + 3) (by omega) (y1 := y1) (y2 := y2) (gN b (p + 13) 8 + 3) 0 out (by omega) (by omega) (by omega)).resolve_right (by omega)
    have l2 := fun y1 y2 => rcopy_loop (D := gN b (p + 1) 12 + 1) (by omega) (by omega) (N := gN b (p + 13) 8 + 3) (by omega) (by omega) (y1 := y1) (y2 := y2) (gN b (p + 13) 8 + 3) 0 out (by omega) (by omega) (by omega)
    simp only [Nat.add_sub_cancel, Int.natCast_zero] at l1 l2
    refine ⟨p + 21, copyN (gN b (p + 13) 8 + 3) (gN b (p + 1) 12 + 1) out, by rw [hp2, if_neg c4, if_neg c5, if_neg c6], by omega, by rw [copyN_len]; omega, by rw [copyN_len]; omega, ?_, ?_⟩
    · unfold s_lz_Unpack_0 m_lz_piece
      simp only [h1, g1, k1, j1, b00, hk, d1, d2, d3, f1, f2, l1, nt, pBind, Option.bind_some, pCase, if_true, Bool.false_eq_true, if_false]
    · unfold s_wainscotref1_Unpack_1
      simp only [h1, scan_get1, g2, k2, j2, b00, hk, d1, d4, f1, f3, l2, pBind, Option.bind_some, if_true, Bool.false_eq_true, if_false]
theorem unp_loop {b : List Int} (hb : Bytes b) (hl : b.length ≤ 100000) {size : Nat} (hs : size ≤ 65535) {y : Int × (List Int × (Int × Unit))} : ∀ (f p : Nat) (out : List Int), size < out.length + f → p ≤ 8 * b.length →
    (unp b size f p out = none ∧ pIter (s_lz_Unpack_0 ((size : Int), y)) (b, ((p : Int), (out, ()))) = some (.inl (3, ([], ()))) ∧ pIter (s_wainscotref1_Unpack_1 ((size : Int), y)) (b, ((p : Int), (out, ()))) = some (.inl (3, ([], ())))) ∨
    ∃ q o, unp b size f p out = some (q, o) ∧ q ≤ 8 * b.length ∧ (out.length ≤ size → o.length = size) ∧
      pIter (s_lz_Unpack_0 ((size : Int), y)) (b, ((p : Int), (out, ()))) = some (.inr (b, ((q : Int), (o, ())))) ∧ pIter (s_wainscotref1_Unpack_1 ((size : Int), y)) (b, ((p : Int), (out, ()))) = some (.inr (b, ((q : Int), (o, ()))))
  | 0, p, out, h, hp => by
    right
    have h1 : pLt (pLen out) (size : Int) = false := decide_eq_false (by simp only [pLen]; omega)
    refine ⟨p, out, rfl, hp, by omega, pIter_inr ?_, pIter_inr ?_⟩
    · unfold s_lz_Unpack_0
      simp only [h1, Bool.false_eq_true, if_false]
    · unfold s_wainscotref1_Unpack_1
      simp only [h1, Bool.false_eq_true, if_false]
  | f + 1, p, out, h, hp => by
    by_cases ho : out.length < size
    · rcases unp_step hb hl hs hp ho (y := y) with ⟨h1, h2, h3⟩ | ⟨q, o, h1, h2, h3, h4, h5, h6⟩
      · left
        refine ⟨by unfold unp; rw [if_pos ho, h1], pIter_inr h2, pIter_inr h3⟩
      · rw [pIter_inl h5, pIter_inl h6]
        have hu : unp b size (f + 1) p out = unp b size f q o := by
          rw [unp, if_pos ho, h1]
        rw [hu]
        rcases unp_loop hb hl hs (y := y) f q o (by omega) h2 with k | ⟨q', o', k1, k2, k3, k4⟩
        · exact .inl k
        · exact .inr ⟨q', o', k1, k2, fun _ => k3 h3, k4⟩
    · right
      have h1 : pLt (pLen out) (size : Int) = false := decide_eq_false (by simp only [pLen]; omega)
      refine ⟨p, out, by unfold unp; rw [if_neg ho], hp, by omega, pIter_inr ?_, pIter_inr ?_⟩
      · unfold s_lz_Unpack_0
        simp only [h1, Bool.false_eq_true, if_false]
      · unfold s_wainscotref1_Unpack_1
        simp only [h1, Bool.false_eq_true, if_false]
/-- Unpacked bytes. -/
theorem unpack_ok {b : List Int} (hb : Bytes b) (hl : b.length ≤ 100000) : m_lz_Unpack b = some ((unpackV b).1, ((unpackV b).2, ())) ∧ m_wainscotref1_Unpack b = some ((unpackV b).1, ((unpackV b).2, ())) := by
  have hr := read_ok (p := b) (by omega)
  have b30 : pNot (pEq 3 0) = true := rfl
  have b00 : pNot (pEq 0 0) = false := rfl
  unfold unpackV m_lz_Unpack m_wainscotref1_Unpack
  by_cases c : 8 * b.length < 16
  · obtain ⟨g1, g2⟩ := get_short hl (n := 16) (p := 0) (by omega) (by omega) (by omega)
    have g1 : m_bits_Reader_Get 16 b 0 = _ := g1
    have g2 : m_wainscotref1_Scan_Get 16 b 0 = _ := g2
    simp only [hr, scan_get1, g1, g2, b30, if_pos c, pBind, Option.bind_some, if_true, and_self]
  · obtain ⟨g1, g2⟩ := get_ok hb hl (n := 16) (p := 0) (by omega) (by omega)
    have g1 : m_bits_Reader_Get 16 b 0 = _ := g1
    have g2 : m_wainscotref1_Scan_Get 16 b 0 = _ := g2
    rw [(gN_spec b 0 16).1, Nat.zero_add] at g1 g2
    have hlt := (gN_spec b 0 16).2
    rcases unp_loop hb hl (size := gN b 0 16) (by omega) (y := (0, (b, (((16 : Nat) : Int), ())))) (gN b 0 16 + 1) 16 [] (by simp) (by omega) with ⟨h1, h2, h3⟩ | ⟨q, o, h1, h2, h3, h4, h5⟩
    · simp only [hr, scan_get1, g1, g2, b00, if_neg c, pBind, Option.bind_some, Bool.false_eq_true, if_false, h1, h2, h3, pCase, and_self]
    · obtain ⟨r1, r2⟩ := rest_ok hb hl (p := q) h2
      simp only [hr, scan_get1, scan_rest1, g1, g2, b00, if_neg c, pBind, Option.bind_some, Bool.false_eq_true, if_false, h1, h4, h5, pCase, r1, r2]
      by_cases hz : restv b q = 0
      · have : pNot (pEq (restv b q) 0) = false := by rw [hz]; rfl
        simp only [this, if_pos hz, Bool.false_eq_true, if_false, and_self]
      · have : pNot (pEq (restv b q) 0) = true := by simp [pNot, pEq, hz]
        simp only [this, if_neg hz, if_true, and_self]
/-- Who unpacks has as many bytes as the head says. -/
theorem unpackV_len {b : List Int} (hb : Bytes b) (hl : b.length ≤ 100000) : ((unpackV b).1 = 0 ∧ 2 ≤ b.length ∧ (unpackV b).2.length = gN b 0 16) ∨ ((unpackV b).1 = 3 ∧ (unpackV b).2 = []) := by
  unfold unpackV
  by_cases c : 8 * b.length < 16
  · rw [if_pos c]; exact .inr ⟨rfl, rfl⟩
  · rw [if_neg c]
    have hlt := (gN_spec b 0 16).2
    rcases unp_loop hb hl (size := gN b 0 16) (by omega) (y := (0, (b, (((16 : Nat) : Int), ())))) (gN b 0 16 + 1) 16 [] (by simp) (by omega) with ⟨h1, h2, h3⟩ | ⟨q, o, h1, h2, h3, h4, h5⟩
    · rw [h1]; exact .inr ⟨rfl, rfl⟩
    · rw [h1]
      simp only
      split
      · exact .inl ⟨rfl, by omega, h3 (by simp)⟩
      · exact .inr ⟨rfl, rfl⟩
end Go.Xr.Try
