import Derived.Test.YtkooincefcodcaaLz6
import Derived.Test.YtkooincefcodcaaMLzStrict
set_option linter.unusedVariables false
set_option linter.unusedSimpArgs false
set_option maxRecDepth 100000
namespace Go.Xr.Try
open Go Go.Xr
theorem pamb_to {α : Type} {x y r : Option α} (hx : x = r) (hy : y = r) : pAmb x y = r := by
  rw [hx, hy]; exact pAmb_self r
theorem xor_byte (a b : Int) : 0 ≤ pXor .u8 a b ∧ pXor .u8 a b ≤ 255 := by
  unfold pXor
  rw [wrap8_eq]
  omega
abbrev part4 (e4 : Int) (o4 a4 : List Int) : Option ((Bool × Unit) ⊕ Unit) :=
  if pEq e4 0 then if pLt (pLen a4) 2 then some (.inl (false, ())) else if pIn 0 (pLen a4) then if pLe 0 8 then if pIn 1 (pLen a4) then if pNot (pEq (pLen o4) (hd a4)) then some (.inl (false, ())) else some (.inr ()) else none else none else none else some (.inr ())
theorem part4_ok {e4 : Int} {o4 a4 : List Int} (ha : Bytes a4) (h : (e4 = 0 ∧ 2 ≤ a4.length ∧ o4.length = gN a4 0 16) ∨ (e4 = 3 ∧ o4 = [])) : part4 e4 o4 a4 = some (.inr ()) := by
  unfold part4
  rcases h with ⟨rfl, h1, h2⟩ | ⟨rfl, rfl⟩
  · refine (if_pos rfl).trans ?_
    refine (if_neg (by simp only [pLen, pLt, decide_eq_true_eq]; omega)).trans ?_
    refine (if_pos (decide_eq_true (by simp only [pLen]; omega))).trans ?_
    refine (if_pos rfl).trans ?_
    refine (if_pos (decide_eq_true (by simp only [pLen]; omega))).trans ?_
    refine if_neg ?_
    rw [head_val ha]
    have : pEq (pLen o4) ((gN a4 0 16 : Nat) : Int) = true := decide_eq_true (by simp only [pLen]; omega)
    rw [this]
    decide
  · exact if_neg (by decide)
abbrev part3 (e3 : Int) (o3 c : List Int) (e4 : Int) (o4 a4 : List Int) : Option ((Bool × Unit) ⊕ Unit) :=
  if pEq e3 0 then if pIn 0 (pLen c) then if pLe 0 8 then if pIn 1 (pLen c) then if pNot (pEq (pLen o3) (hd c)) then some (.inl (false, ())) else part4 e4 o4 a4 else none else none else none else part4 e4 o4 a4
theorem part3_ok {e3 : Int} {o3 c : List Int} {e4 : Int} {o4 a4 : List Int} (hc : Bytes c) (h3 : (e3 = 0 ∧ 2 ≤ c.length ∧ o3.length = gN c 0 16) ∨ (e3 = 3 ∧ o3 = [])) (h4 : part4 e4 o4 a4 = some (.inr ())) : part3 e3 o3 c e4 o4 a4 = some (.inr ()) := by
  unfold part3
  rcases h3 with ⟨rfl, h1, h2⟩ | ⟨rfl, rfl⟩
  · refine (if_pos rfl).trans ?_
    refine (if_pos (decide_eq_true (by simp only [pLen]; omega))).trans ?_
    refine (if_pos rfl).trans ?_
    refine (if_pos (decide_eq_true (by simp only [pLen]; omega))).trans ?_
    refine (if_neg ?_).trans h4
    rw [head_val hc]
    have : pEq (pLen o3) ((gN c 0 16 : Nat) : Int) = true := decide_eq_true (by simp only [pLen]; omega)
    rw [this]
    decide
  · exact (if_neg (by decide)).trans h4
theorem LzStrict_true {a0 : List Int} {a1 a2 a3 : Int} {a4 : List Int} (h4 : Bytes a4) : LzStrict_m a0 a1 a2 a3 a4 = some true := by
  unfold LzStrict_m
  by_cases c0 : 20 < a0.length
  · exact (if_pos (decide_eq_true (by simp only [pLen]; omega))).trans (pbind_to awake7_ok rfl)
  refine (if_neg (by simp only [pLen, pLt, decide_eq_true_eq]; omega)).trans ?_
  by_cases c1 : a1 < 0
  · exact (if_pos (decide_eq_true c1)).trans (pbind_to awake7_ok rfl)
  refine (if_neg (by simp only [pLt, decide_eq_true_eq]; omega)).trans ?_
  by_cases c2 : 600 < a1
  · exact (if_pos (decide_eq_true c2)).trans (pbind_to awake7_ok rfl)
  refine (if_neg (by simp only [pLt, decide_eq_true_eq]; omega)).trans ?_
  by_cases c3 : 200 < a4.length
  · exact (if_pos (decide_eq_true (by simp only [pLen]; omega))).trans (pbind_to awake7_ok rfl)
  refine (if_neg (by simp only [pLen, pLt, decide_eq_true_eq]; omega)).trans ?_
  obtain ⟨N, rfl⟩ := Int.eq_ofNat_of_zero_le (by omega : 0 ≤ a1)
  obtain ⟨b, hr, hl, hb⟩ := row_ok (a0 := a0) (by omega) (N := N) (by omega)
  have hrl : b.length ≤ 600 := by rcases hl with h | h <;> simp [h] <;> omega
  have hb : Bytes b := hb
  have hp := (pack_ok hb (by omega)).1
  have hal := allBits_len b
  have hpl := packs_len (allBits b)
  have hPb := packs_bytes (allBits_bits b)
  have hmore := unpack_more hb (by omega) 0
  have hless := unpack_less hb (by omega) (n := (packs (allBits b)).length - 1) (by omega)
  generalize packs (allBits b) = P at *
  have hu1 := (unpack_ok (b := P ++ [0]) (fun x hx => by
    rcases List.mem_append.1 hx with h | h
    · exact hPb x h
    · simp at h; omega) (by simp; omega)).1
  rw [hmore] at hu1
  have hu2 := (unpack_ok (b := P.take (P.length - 1)) (fun x hx => hPb x (List.mem_of_mem_take hx)) (by simp; omega)).1
  rw [hless] at hu2
  obtain ⟨k, hk1, hk2, _⟩ := round_ok (a := a2) (n := P.length) (by omega) (by omega)
  obtain ⟨j, hj1, hj2, _⟩ := round_ok (a := a3) (n := 8) (by omega) (by omega)
  have hC : Bytes (pSet (pApp [] P) (k : Int) (pXor .u8 (pGet 0 (pApp [] P) (k : Int)) (pShl .u8 1 (j : Int)))) := by
    intro x hx
    rcases List.mem_or_eq_of_mem_set hx with h | h
    · exact hPb x h
    · rw [h]; exact xor_byte _ _
  have hCl : (pSet (pApp [] P) (k : Int) (pXor .u8 (pGet 0 (pApp [] P) (k : Int)) (pShl .u8 1 (j : Int)))).length = P.length := by simp [pSet, pApp]
  have hu3 := (unpack_ok hC (by omega)).1
  have hv3 := unpackV_len hC (by omega)
  have hu4 := (unpack_ok h4 (by omega)).1
  have hv4 := unpackV_len h4 (by omega)
  refine pbind_to hr ?_
  refine pbind_to hp ?_
  refine (if_neg (show ¬ pNot (pEq 0 0) = true by decide)).trans ?_
  refine (if_neg (show ¬ pLt (pLen P) 2 = true by simp only [pLen, pLt, decide_eq_true_eq]; omega)).trans ?_
  have hrm1 : pRoom (pIAdd 0 (pLen P)) = true := decide_eq_true (by simp only [pIAdd, pLen]; omega)
  have hrm2 : pRoom (pIAdd (pLen (pApp [] P)) (pLen [(0 : Nat)])) = true := decide_eq_true (by simp only [pIAdd, pLen, pApp, List.nil_append, List.length_singleton]; omega)
  refine (if_pos hrm1).trans ?_
  refine (if_pos hrm2).trans ?_
  refine pbind_to hu1 ?_
  have hsub : pSub .i64 (pLen P) 1 = ((P.length - 1 : Nat) : Int) := by simp only [pLen]; rw [sub64 (by omega) (by omega)]; omega
  have hpart : pPart 0 (pSub .i64 (pLen P) 1) (pLen P) = true := by rw [hsub]; exact decide_eq_true (by simp only [pLen]; omega)
  have hcut : pCut P 0 (pISub (pSub .i64 (pLen P) 1) 0) = P.take (P.length - 1) := by
    rw [hsub]
    simp only [pCut, pISub, Int.toNat_zero, List.drop_zero, Int.sub_zero, Int.toNat_natCast]
  refine (if_pos hpart).trans ?_
  rw [← hcut] at hu2
  refine pbind_to hu2 ?_
  refine (if_pos hrm1).trans ?_
  have hk2 : m_wainscotalike_Round a2 (pLen (pApp [] P)) = some ((k : Int), ()) := hk2
  refine pbind_to hk2 ?_
  have hin : pIn (k : Int) (pLen (pApp [] P)) = true := decide_eq_true (by simp only [pLen, pApp, List.nil_append]; omega)
  refine (if_pos hin).trans ?_
  have hj2 : m_wainscotalike_Round a3 8 = some ((j : Int), ()) := hj2
  have hle : pLe 0 (j : Int) = true := decide_eq_true (by omega)
  have fin : ∀ e3 : Int, ∀ o3 : List Int, ((e3 = 0 ∧ 2 ≤ (pSet (pApp [] P) (k : Int) (pXor .u8 (pGet 0 (pApp [] P) (k : Int)) (pShl .u8 1 (j : Int)))).length ∧ o3.length = gN (pSet (pApp [] P) (k : Int) (pXor .u8 (pGet 0 (pApp [] P) (k : Int)) (pShl .u8 1 (j : Int)))) 0 16) ∨ (e3 = 3 ∧ o3 = [])) →
      (pBind (if pEq 3 3 then if pEq 3 3 then if pEq e3 0 then pBind (m_wainscotlaw7_awake) fun d314 => some (d314.1, ()) else if pEq e3 3 then if pEq (pLen o3) 0 then pBind (m_wainscotlaw7_awake) fun d315 => some (d315.1, ()) else some (false, ()) else some (false, ()) else some (false, ()) else some (false, ())) fun d316 => some d316.1) = some true := by
    intro e3 o3 h
    refine pbind_to (a := (true, ())) ?_ rfl
    refine (if_pos rfl).trans ((if_pos rfl).trans ?_)
    rcases h with ⟨rfl, _, _⟩ | ⟨rfl, rfl⟩
    · exact (if_pos rfl).trans (pbind_to awake7_ok rfl)
    · exact (if_neg (by decide)).trans ((if_pos rfl).trans ((if_pos rfl).trans (pbind_to awake7_ok rfl)))
  refine pamb_to ?_ ?_
  · refine pbind_to hj2 ?_
    refine (if_pos hle).trans ((if_pos hin).trans ?_)
    refine pbind_to hu3 ?_
    refine pbind_to hu4 ?_
    refine pbind_to (a := .inr ()) (part3_ok hC hv3 (part4_ok h4 hv4)) ?_
    exact fin _ _ hv3
  · refine pbind_to hj2 ?_
    refine (if_pos hle).trans ((if_pos hin).trans ?_)
    refine pbind_to hu3 ?_
    refine pbind_to hu4 ?_
    refine pbind_to (a := .inr ()) (part3_ok hC hv3 (part4_ok h4 hv4)) ?_
    exact fin _ _ hv3
end Go.Xr.Try
