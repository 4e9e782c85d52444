import Derived.Test.YtjidecalfabkbaaDnew
import Derived.Test.YtjidecalfabkbaaX6
set_option linter.unusedVariables false
set_option linter.unusedSimpArgs false
set_option maxRecDepth 100000
namespace Go.Xr.Try
open Go Go.Xr

/-! the directory's two orders; rows below 256 sorted -/
theorem byI_swo (f : EN → Int) : Go.Sort.SWO (byI f) where
  irrefl := fun x => by simp [byI]
  trans := fun x y z h1 h2 => by simp only [byI, decide_eq_true_eq] at *; omega
  ntrans := fun x y z h1 h2 => by simp only [byI, decide_eq_false_iff_not] at *; omega
@[reducible] noncomputable def ordA : OrdM EN where
  default := Z0
  cmp := m_q18
  lt := byI startF
  val := fun a b => ⟨_, new2_eq a b, cmpV_lt _ _⟩
  swo := byI_swo _
@[reducible] noncomputable def ordB (d : Int) : OrdM EN where
  default := Z0
  cmp := fun a b => m_q19 a b d
  lt := byI (keyF d)
  val := fun a b => ⟨_, new3_eq d a b, cmpV_lt _ _⟩
  swo := byI_swo _
theorem gsortA (l : List EN) (hl : l.length < 256) : ∃ L, m_q40 l = some (L, ()) ∧ L.Perm l ∧ L.Pairwise (Ordd (byI startF)) := by
  letI := ordA
  exact gsort_eq (α := EN) l hl
theorem recN_sim {D D' X : Type} {B : (D → Option X) → D → Option X} {B' : (D' → Option X) → D' → Option X} {φ : D → D'} (h : ∀ f d, B' f (φ d) = B (fun e => f (φ e)) d) : ∀ n d, recN B' n (φ d) = recN B n d
  | 0, d => rfl
  | n + 1, d => by
    simp only [recN]
    rw [h]
    congr 1
    funext e
    exact recN_sim h n e
open Classical in
theorem pRec_sim {D D' X : Type} {B : (D → Option X) → D → Option X} {B' : (D' → Option X) → D' → Option X} {φ : D → D'} (h : ∀ f d, B' f (φ d) = B (fun e => f (φ e)) d) (d : D) : pRec B' (φ d) = pRec B d := by
  have e : (fun n => recN B' n (φ d)) = fun n => recN B n d := funext fun n => recN_sim h n d
  have key : ∀ F F' : Nat → Option X, F = F' → (if h : ∃ n, (F n).isSome then F h.choose else none) = (if h : ∃ n, (F' n).isSome then F' h.choose else none) := by
    rintro F F' rfl
    rfl
  have := key _ _ e
  unfold pRec
  exact this
theorem gsortB (d : Int) (l : List EN) (hl : l.length < 256) : ∃ L, m_q41 l d = some (L, ()) ∧ L.Perm l ∧ L.Pairwise (Ordd (byI (keyF d))) := by
  letI := ordB d
  obtain ⟨L, h1, h2, h3⟩ := gsort_eq (α := EN) l hl
  refine ⟨L, ?_, h2, h3⟩
  rw [← h1]
  unfold m_q41 gm_SortFunc
  have hs : ∀ k : Int, pRec b_slices_pdqsortCmpFunc_api_Entry_1 (0, (pLen l, (k, (l, (d, ()))))) = pRec (gb_pdqsort (default : EN) oc) (0, (pLen l, (k, (l, ())))) := fun k =>
    pRec_sim (φ := fun e : Int × (Int × (Int × (List EN × Unit))) => (e.1, (e.2.1, (e.2.2.1, (e.2.2.2.1, (d, ())))))) (fun f e => rfl) (0, (pLen l, (k, (l, ()))))
  show pBind (m_q1 (pWrap .u64 (pLen l))) _ = pBind (m_q1 (pWrap .u64 (pLen l))) _
  congr 1
  funext k
  exact congrArg (fun r => pBind r fun d279 => some (d279.1, ())) (hs k.1)
end Go.Xr.Try
