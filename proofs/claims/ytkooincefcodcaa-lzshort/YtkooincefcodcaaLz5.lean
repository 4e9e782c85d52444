import Derived.Test.YtkooincefcodcaaLz4
set_option linter.unusedVariables false
set_option linter.unusedSimpArgs false
set_option maxRecDepth 100000
namespace Go.Xr.Try
open Go Go.Xr

theorem most_ok {n : Nat} (h : n ≤ 65535) : m_lz_Most (n : Int) = some (((2 + (9 * n + 7) / 8 : Nat) : Int), ()) ∧ m_wainscotref1_Most (n : Int) = some (((2 + (9 * n + 7) / 8 : Nat) : Int), ()) := by
  have h1 : pLt (n : Int) 0 = false := decide_eq_false (by omega)
  have h2 : pLt 65535 (n : Int) = false := decide_eq_false (by omega)
  have h3 : pNot (pEq 8 0) = true := rfl
  have h4 : pMul .i64 9 (n : Int) = ((9 * n : Nat) : Int) := by rw [mul64 (by omega) (by omega)]; omega
  have h5 : pAdd .i64 ((9 * n : Nat) : Int) 8 = ((9 * n + 8 : Nat) : Int) := by rw [add64 (by omega) (by omega)]; omega
  have h6 : pSub .i64 ((9 * n + 8 : Nat) : Int) 1 = ((9 * n + 7 : Nat) : Int) := by rw [sub64 (by omega) (by omega)]; omega
  have h7 : pAdd .i64 ((9 * n : Nat) : Int) 7 = ((9 * n + 7 : Nat) : Int) := by rw [add64 (by omega) (by omega)]; omega
  have h8 : pQuo .i64 ((9 * n + 7 : Nat) : Int) 8 = (((9 * n + 7) / 8 : Nat) : Int) := quo64 (b := 8) (by omega)
  have h9 : pAdd .i64 2 (((9 * n + 7) / 8 : Nat) : Int) = ((2 + (9 * n + 7) / 8 : Nat) : Int) := by rw [add64 (by omega) (by omega)]; omega
  constructor
  · unfold m_lz_Most
    simp only [h1, h2, h3, h4, h5, h6, h8, h9, Bool.false_eq_true, if_false, if_true]
  · unfold m_wainscotref1_Most
    simp only [h1, h2, h3, h4, h7, h8, h9, Bool.false_eq_true, if_false, if_true]
theorem most_both (n : Int) : ∃ x, m_lz_Most n = some (x, ()) ∧ m_wainscotref1_Most n = some (x, ()) := by
  by_cases h1 : n < 0
  · have e1 : pLt n 0 = true := decide_eq_true h1
    refine ⟨0, ?_, ?_⟩
    · unfold m_lz_Most; simp only [e1, if_true]
    · unfold m_wainscotref1_Most; simp only [e1, if_true]
  by_cases h2 : 65535 < n
  · have e1 : pLt n 0 = false := decide_eq_false h1
    have e2 : pLt 65535 n = true := decide_eq_true h2
    refine ⟨0, ?_, ?_⟩
    · unfold m_lz_Most; simp only [e1, e2, if_true, Bool.false_eq_true, if_false]
    · unfold m_wainscotref1_Most; simp only [e1, e2, if_true, Bool.false_eq_true, if_false]
  obtain ⟨m, rfl⟩ := Int.eq_ofNat_of_zero_le (by omega : 0 ≤ n)
  exact ⟨_, most_ok (by omega)⟩
theorem packs_byte {L : List Int} (h : Bits L) : Bytes (packs L) := packs_bytes h
def tenA : List Int := [97, 97, 97, 97, 97, 97, 97, 97, 97, 97]
theorem awake7_ok : m_wainscotlaw7_awake = some (true, ()) := by
  have p0 : m_lz_Pack [] = some (0, ([0, 0], ())) := by
    have h := (pack_ok (b := []) (fun x hx => by cases hx) (by decide)).1
    rw [show packs (allBits []) = [0, 0] by decide +kernel] at h
    exact h
  have p1 : m_lz_Pack [97, 97, 97, 97, 97, 97, 97, 97, 97, 97] = some (0, ([0, 10, 48, 192, 0, 24], ())) := by
    have h := (pack_ok (b := tenA) (by unfold Bytes; decide) (by decide)).1
    rw [show packs (allBits tenA) = [0, 10, 48, 192, 0, 24] by decide +kernel] at h
    exact h
  have u1 : m_lz_Unpack [0, 10, 48, 192, 0, 24] = some (0, (tenA, ())) := by
    have h := (unpack_ok (b := [0, 10, 48, 192, 0, 24]) (by unfold Bytes; decide) (by decide)).1
    rw [show unpackV [0, 10, 48, 192, 0, 24] = (0, tenA) by decide +kernel] at h
    exact h
  have u2 : m_lz_Unpack [0] = some (3, ([], ())) := by
    have h := (unpack_ok (b := [0]) (by unfold Bytes; decide) (by decide)).1
    rw [show unpackV [0] = (3, []) by decide +kernel] at h
    exact h
  have p2 : m_lz_Pack (pRep 65536 0) = some (1, ([], ())) := pack_big (by show 65535 < (List.replicate (Int.toNat 65536) (0 : Int)).length; rw [List.length_replicate]; decide)
  have m1 : m_lz_Most 144 = some (164, ()) := (most_ok (n := 144) (by omega)).1
  have m2 : m_lz_Most (-1) = some (0, ()) := by unfold m_lz_Most; rfl
  have a1 : pLt 0 (pLen [(97 : Nat), 97, 97, 97, 97, 97, 97, 97, 97, 97]) = true := by decide
  have a2 : pSize 65536 65536 = true := by decide
  have a3 : pEq 0 0 = true := rfl
  have a4 : pEqS [0, 0] [0, 0] = true := by decide
  have a5 : pEq (pLen [(0 : Int), 10, 48, 192, 0, 24]) 6 = true := by decide
  have a6 : pEqS tenA [97, 97, 97, 97, 97, 97, 97, 97, 97, 97] = true := by decide
  have a7 : pEq 3 3 = true := rfl
  have a8 : pEq 1 1 = true := rfl
  have a9 : pEq 164 164 = true := rfl
  unfold m_wainscotlaw7_awake
  simp only [p0, p1, u1, u2, p2, m1, m2, a1, a2, a3, a4, a5, a6, a7, a8, a9, pBind, Option.bind_some, if_true]
end Go.Xr.Try
