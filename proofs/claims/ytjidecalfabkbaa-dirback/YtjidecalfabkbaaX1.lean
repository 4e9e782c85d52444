import GoSem.Dispatch
import Derived.RangeFuncNested
import Derived.Laws.IdiomCopy
import Derived.Laws.MakeOwn
import Derived.Below
import Derived.MapKept
import Derived.Laws.StructEq
import Derived.Laws.Cover3
/- the executor, part 1 -/
namespace Go.Xr
open Go
abbrev PI := Int
abbrev PB := Bool
abbrev PS := List Int
abbrev PU := Unit
abbrev PL (α : Type) := List α
abbrev PP (α β : Type) := α × β
abbrev PO (α : Type) := Option α
abbrev PSum (α β : Type) := α ⊕ β
@[reducible] def pI (n : Int) : Int := n
@[reducible] def pB (b : Bool) : Bool := b
@[reducible] def pS (l : List Int) : (List Int) := l
@[reducible] def pU : Unit := ()
@[reducible] def pNil {α : Type} : List α := []
@[reducible] def pCons {α : Type} (x : α) (l : List α) : List α := x :: l
@[reducible] def pPair {α β : Type} (x : α) (y : β) : Prod α β := (x, y)
@[reducible] def pFst {α β : Type} (p : Prod α β) : α := p.1
@[reducible] def pSnd {α β : Type} (p : Prod α β) : β := p.2
@[reducible] def pInl {α β : Type} (x : α) : Sum α β := .inl x
@[reducible] def pInr {α β : Type} (x : β) : Sum α β := .inr x
@[reducible] def pBytes (s : (List Int)) : List Int := s
@[reducible] def pText (l : List Int) : (List Int) := l
@[reducible] def pOpt {α : Type} (o : Option α) : Option α := o
@[reducible] def pAdd (k : IntKind) (a b : Int) : Int := k.wrap (a + b)
@[reducible] def pSub (k : IntKind) (a b : Int) : Int := k.wrap (a - b)
@[reducible] def pMul (k : IntKind) (a b : Int) : Int := k.wrap (a * b)
@[reducible] def pQuo (k : IntKind) (a b : Int) : Int := k.wrap (Int.tdiv a b)
@[reducible] def pRem (a b : Int) : Int := Int.tmod a b
@[reducible] def pShl (k : IntKind) (a b : Int) : Int := k.wrap (a * 2 ^ (min b.toNat k.bits))
@[reducible] def pShr (k : IntKind) (a b : Int) : Int := Int.fdiv a (2 ^ (min b.toNat k.bits))
@[reducible] def pAnd (k : IntKind) (a b : Int) : Int := k.wrap ((BitVec.ofInt k.bits a &&& BitVec.ofInt k.bits b).toNat)
@[reducible] def pOr (k : IntKind) (a b : Int) : Int := k.wrap ((BitVec.ofInt k.bits a ||| BitVec.ofInt k.bits b).toNat)
@[reducible] def pXor (k : IntKind) (a b : Int) : Int := k.wrap ((BitVec.ofInt k.bits a ^^^ BitVec.ofInt k.bits b).toNat)
@[reducible] def pCom (k : IntKind) (a : Int) : Int := k.wrap ((BitVec.ofInt k.bits (if k.signed then -1 else k.max) ^^^ BitVec.ofInt k.bits a).toNat)
@[reducible] def pWrap (k : IntKind) (a : Int) : Int := k.wrap a
@[reducible] def pLt (a b : Int) : Bool := decide (a < b)
@[reducible] def pLe (a b : Int) : Bool := decide (a ≤ b)
@[reducible] def pEq (a b : Int) : Bool := decide (a = b)
@[reducible] def pNot (a : Bool) : Bool := !a
@[reducible] def pAndB (a b : Bool) : Bool := a && b
@[reducible] def pEqB (a b : Bool) : Bool := a == b
@[reducible] def pMin (a b : Int) : Int := if b < a then b else a
@[reducible] def pMax (a b : Int) : Int := if a < b then b else a
@[reducible] def pLen {α : Type} (l : List α) : Int := l.length
@[reducible] def pGet {α : Type} (d : α) (l : List α) (i : Int) : α := l.getD i.toNat d
@[reducible] def pSet {α : Type} (l : List α) (i : Int) (x : α) : List α := l.set i.toNat x
@[reducible] def pCut {α : Type} (l : List α) (lo n : Int) : List α := (l.drop lo.toNat).take n.toNat
@[reducible] def pApp {α : Type} (l m : List α) : List α := l ++ m
@[reducible] def pRep {α : Type} (n : Int) (x : α) : List α := List.replicate n.toNat x
@[reducible] def pZero {α : Type} (n : Nat) (x : α) : List α := List.replicate n x
@[reducible] def pIn (i n : Int) : Bool := decide (0 ≤ i ∧ i < n)
@[reducible] def pPart (lo hi n : Int) : Bool := decide (0 ≤ lo ∧ lo ≤ hi ∧ hi ≤ n)
@[reducible] def pRoom (n : Int) : Bool := decide (n ≤ 4294967296)
@[reducible] def pSize (n m : Int) : Bool := decide (0 ≤ n ∧ n ≤ 4294967296 ∧ n = m)
@[reducible] def isI (a n : Int) : Bool := decide (a = n)
@[reducible] def pIAdd (a b : Int) : Int := a + b
@[reducible] def pISub (a b : Int) : Int := a - b
@[reducible] def pIf {α : Type} (b : Bool) (x y : Option α) : Option α := if b then x else y
open Classical in
noncomputable def pAmb {α : Type} (x y : Option α) : Option α := if x = y then x else none
open Classical in
noncomputable def pAny {D α : Type} (p : D → Prop) (g : D → Option α) : Option α := if h : ∃ r, ∀ d, p d → g d = some r then some (Classical.choose h) else none
theorem pAny_some {D α : Type} {p : D → Prop} {g : D → Option α} {r : α} (h : pAny p g = some r) {d : D} (hd : p d) : g d = some r := by
  unfold pAny at h
  split at h
  · rename_i hh
    have := Classical.choose_spec hh d hd
    rw [this]
    exact h
  · cases h
def pFold {E D X : Type} (step : E → D → Option (Sum D X)) : List E → D → Option (Sum D X)
  | [], d => some (.inl d)
  | e :: es, d => match step e d with | some (.inl d') => pFold step es d' | some (.inr x) => some (.inr x) | none => none
@[reducible] def pPerm {E : Type} (es es' : List E) : Prop := es'.Perm es
@[reducible] def pBind {α β : Type} (m : Option α) (f : α → Option β) : Option β := m.bind f
def pEqL {α : Type} (f : α → α → Bool) : List α → List α → Bool
  | [], [] => true | x :: xs, y :: ys => f x y && pEqL f xs ys | _, _ => false
@[reducible] def pEqS (a b : (List Int)) : Bool := decide (a = b)
def pMHas {α β : Type} (eq : α → α → Bool) : List (α × β) → α → Bool
  | [], _ => false | p :: r, k => eq k p.1 || pMHas eq r k
def pMGet {α β : Type} (eq : α → α → Bool) (d : β) : List (α × β) → α → β
  | [], _ => d | p :: r, k => if eq k p.1 then p.2 else pMGet eq d r k
def pMPut {α β : Type} (eq : α → α → Bool) : List (α × β) → α → β → List (α × β)
  | [], k, v => [(k, v)] | p :: r, k, v => if eq k p.1 then (p.1, v) :: r else p :: pMPut eq r k v
def pMDel {α β : Type} (eq : α → α → Bool) : List (α × β) → α → List (α × β)
  | [], _ => [] | p :: r, k => if eq k p.1 then r else p :: pMDel eq r k
def iterN {D X : Type} (step : D → Option (Sum D X)) : Nat → D → Option X
  | 0, _ => none
  | n + 1, d => match step d with | none => none | some (.inl d') => iterN step n d' | some (.inr x) => some x
open Classical in
noncomputable def pIter {D X : Type} (step : D → Option (Sum D X)) (d : D) : Option X :=
  if h : ∃ n, (iterN step n d).isSome then iterN step h.choose d else none
def recN {D X : Type} (B : (D → Option X) → D → Option X) : Nat → D → Option X
  | 0, _ => none
  | n + 1, d => B (recN B n) d
open Classical in
noncomputable def pRec {D X : Type} (B : (D → Option X) → D → Option X) (d : D) : Option X :=
  if h : ∃ n, (recN B n d).isSome then recN B h.choose d else none
@[reducible] def pCase {A B : Type} {γ : Type} (x : Sum A B) (f : A → Option γ) (g : B → Option γ) : Option γ := match x with | .inl a => f a | .inr b => g b
end Go.Xr
namespace Go.Xr
open Go
def kidx : IntKind → Nat
  | .i8 => 0 | .i16 => 1 | .i32 => 2 | .i64 => 3 | .u8 => 4 | .u16 => 5 | .u32 => 6 | .u64 => 7
def keq (a b : IntKind) : Bool := Nat.beq (kidx a) (kidx b)
def nth {α : Type} : List α → Nat → Option α
  | [], _ => none | x :: _, 0 => some x | _ :: r, n + 1 => nth r n
def nthD {α : Type} (d : α) : List α → Nat → α
  | [], _ => d | x :: _, 0 => x | _ :: r, n + 1 => nthD d r n
def len {α : Type} : List α → Nat
  | [] => 0 | _ :: r => Nat.succ (len r)
def lookupN {α : Type} (l : List (Nat × α)) (i : Nat) : Option α :=
  match l with | [] => none | (j, b) :: r => bif Nat.beq i j then some b else lookupN r i
def setN {α : Type} (l : List (Nat × α)) (i : Nat) (b : α) : List (Nat × α) :=
  match l with
  | [] => [(i, b)]
  | (j, c) :: r => bif Nat.beq i j then (j, b) :: r else (j, c) :: setN r i b
inductive Ty where
  | int (k : IntKind) | bool | str | unit
  | pair (a b : Ty) | st (a : Ty) | arr (n : Nat) (a : Ty) | sl (bor : Bool) (a : Ty)
  deriving DecidableEq, Inhabited
def Ty.eqt : Ty → Ty → Bool
  | .int k, .int k' => keq k k' | .bool, .bool => true | .str, .str => true | .unit, .unit => true
  | .pair a b, .pair c d => a.eqt c && b.eqt d | .st a, .st b => a.eqt b | .arr n a, .arr m b => Nat.beq n m && a.eqt b
  | .sl x a, .sl y b => (x == y) && a.eqt b | _, _ => false
@[reducible] def Ty.T : Ty → Type
  | .int _ => PI | .bool => PB | .str => PS | .unit => PU
  | .pair a b => PP a.T b.T | .st a => a.T | .arr _ a => PL a.T | .sl _ a => PL a.T
def Ty.dflt : (t : Ty) → t.T
  | .int _ => pI 0 | .bool => pB false | .str => pS [] | .unit => pU
  | .pair a b => pPair a.dflt b.dflt | .st a => a.dflt | .arr n a => pZero n a.dflt | .sl _ _ => pNil
def Ty.size : Ty → Nat
  | .unit => 0 | .pair a b => Nat.add a.size b.size | .st a => a.size | .arr n a => Nat.mul n a.size | _ => 1
def Ty.isAgg : Ty → Bool
  | .st _ | .arr _ _ => true | _ => false
def Ty.eqb : (t : Ty) → t.T → t.T → PB
  | .int _, x, y => pEq x y
  | .bool, x, y => pEqB x y
  | .str, x, y => pEqS x y
  | .unit, _, _ => pB true
  | .pair a b, x, y => pAndB (a.eqb (pFst x) (pFst y)) (b.eqb (pSnd x) (pSnd y))
  | .st a, x, y => a.eqb x y
  | .arr _ a, x, y => pEqL a.eqb x y
  | .sl _ _, _, _ => pB false
def Ty.comparable : Ty → Bool
  | .sl _ _ => false | .pair a b => a.comparable && b.comparable | .st a => a.comparable | .arr _ a => a.comparable | _ => true
@[reducible] def castT {a b : Ty} (h : a = b) (x : a.T) : b.T := h ▸ x
@[reducible] def castL {a b : Ty} (h : a = b) (x : PL a.T) : PL b.T := h ▸ x
structure PV where
  t : Ty
  x : t.T
def PV.as (p : PV) (t : Ty) : Option t.T := if h : p.t = t then some (castT h p.x) else none
@[reducible] def HL : List Ty → Type
  | [] => PU | t :: ts => PP t.T (HL ts)
def HL.dflt : (ts : List Ty) → HL ts
  | [] => pU | t :: ts => pPair t.dflt (HL.dflt ts)
def HL.out : (ts : List Ty) → HL ts → List PV
  | [], _ => [] | t :: ts, d => ⟨t, pFst d⟩ :: HL.out ts (pSnd d)
def HL.mk : (ts : List Ty) → List PV → Option (HL ts)
  | [], [] => some pU | t :: ts, p :: ps => match p.as t, HL.mk ts ps with | some x, some d => some (pPair x d) | _, _ => none
  | _, _ => none
inductive Stp where | fld (n : Nat) | idx (i : PI)
inductive NK where | ptr | sl | map | fn
  deriving DecidableEq
def NK.eq : NK → NK → Bool
  | .ptr, .ptr => true | .sl, .sl => true | .map, .map => true | .fn, .fn => true | _, _ => false
inductive AV where
  | undef | pv (t : Ty) (x : t.T) | lit (b : Bool) | nil (k : NK)
  | ptr (i : Nat) (p : List Stp) | fad (t : Ty) (x : t.T)
  | sl (i : Nat) | slr (i : Nat) (off len : PI) | asl (i : Nat) (p : List Stp) (off len : PI) | mp (i : Nat)
  | clo (f : FuncId) (cs : List AV) | yld (l : Nat) | agg (fs : List AV) | tup (fs : List AV) | cst (n : Nat)
  deriving Inhabited
def loopB : Nat := 900000000
inductive BK where | sl | mp | lp (p : Nat) | it | mr
  deriving DecidableEq, Inhabited
def BK.eq : BK → BK → Bool | .sl, .sl => true | .mp, .mp => true | .lp p, .lp q => Nat.beq p q | .it, .it => true | .mr, .mr => true | _, _ => false
def BK.free : BK → Bool | .lp _ => false | .it => false | .mr => false | _ => true
theorem BK.eq_eq {a b : BK} (h : a.eq b = true) : a = b := by
  cases a with
  | sl => cases b <;> first | rfl | cases h
  | mp => cases b <;> first | rfl | cases h
  | it => cases b <;> first | rfl | cases h
  | mr => cases b <;> first | rfl | cases h
  | lp p => cases b with
    | lp q => rw [Nat.eq_of_beq_eq_true (n := p) (m := q) h]
    | _ => cases h
inductive Bx where
  | var (v : AV) | buf (kd : BK) (t : Ty) (xs : PL t.T) | cst (n : Nat)
  deriving Inhabited
structure AS where
  tm : List AV
  bx : List (Nat × Bx)
  env : List AV
  benv : List Bx
  base : Nat
  nx : Nat
  up : List (List AV)
  deriving Inhabited
inductive Ex where | normal | exit (id : Nat) | ret (vs : List AV)
inductive Tree : Type 1 where
  | leaf (e : Ex) (s : AS)
  | chk (b : PB) (k : Tree)
  | br (b : PB) (x y : Tree)
  | amb (x y : Tree)
  | bnd (D : Type) (z : D) (m : PO D) (k : D → Tree)
  | cases (A B : Type) (z : A) (z' : B) (x : PSum A B) (k : A → Tree) (k' : B → Tree)
  | any (D : Type) (z : D) (p : D → Prop) (k : D → Tree)
  | fail
@[reducible] def bndT {D : Type} (z : D) (m : PO D) (k : D → Tree) : Tree := .bnd D z m k
@[reducible] def casesT {A B : Type} (z : A) (z' : B) (x : PSum A B) (k : A → Tree) (k' : B → Tree) : Tree := .cases A B z z' x k k'
@[reducible] def anyT {D : Type} (z : D) (p : D → Prop) (k : D → Tree) : Tree := .any D z p k
def Tree.bind : Tree → (Ex → AS → Tree) → Tree
  | .leaf e s, f => f e s
  | .chk b k, f => .chk b (k.bind f)
  | .br b x y, f => .br b (x.bind f) (y.bind f)
  | .amb x y, f => .amb (x.bind f) (y.bind f)
  | .bnd D z m k, f => .bnd D z m fun d => (k d).bind f
  | .cases A B z z' x k k', f => .cases A B z z' x (fun d => (k d).bind f) (fun d => (k' d).bind f)
  | .any D z p k, f => .any D z p fun d => (k d).bind f
  | .fail, _ => .fail
noncomputable def Tree.run {α : Type} : Tree → (Ex → AS → PO α) → PO α
  | .leaf e s, f => f e s
  | .chk b k, f => pIf b (k.run f) (pOpt none)
  | .br b x y, f => pIf b (x.run f) (y.run f)
  | .amb x y, f => pAmb (x.run f) (y.run f)
  | .bnd _ _ m k, f => pBind m fun d => (k d).run f
  | .cases _ _ _ _ x k k', f => pCase x (fun d => (k d).run f) (fun d => (k' d).run f)
  | .any _ _ p k, f => pAny p fun d => (k d).run f
  | .fail, _ => pOpt none
def Tree.leaves : Tree → List (Ex × AS)
  | .leaf e s => [(e, s)] | .chk _ k => k.leaves | .br _ x y => List.append x.leaves y.leaves | .amb x y => List.append x.leaves y.leaves
  | .bnd _ z _ k => (k z).leaves | .cases _ _ z z' _ k k' => List.append (k z).leaves (k' z').leaves | .any _ z _ k => (k z).leaves | .fail => []
def Tree.seq (t : Tree) (f : AS → Tree) : Tree := t.bind fun e s => match e with | .normal => f s | e => .leaf e s
inductive TD where
  | pure (t : Ty)
  | struct (fs : List TypeId)
  | slice (e : TypeId) | ptr (e : TypeId) | map (k v : TypeId) | fn | other
structure Kit where
  td : TypeId → TD
  fn : FuncId → Option (Nat × List ResultVar × Code)
  vars : FuncId → List Nat
  pf : FuncId → Bool := fun _ => false
def Kit.sz1 (K : Kit) (T : TypeId) : Nat := match K.td T with | .pure t => t.size | _ => 1
def Kit.sz (K : Kit) (T : TypeId) : Option (Nat × Bool) :=
  match K.td T with
  | .pure t => some (t.size, t.isAgg)
  | .struct fs => some (fs.foldr (fun T n => Nat.add (K.sz1 T) n) 0, true)
  | .other => none
  | _ => some (1, false)
def AV.csz : AV → Nat
  | .pv t _ => t.size
  | _ => 1
def cszL : List AV → Nat | [] => 0 | v :: r => Nat.add v.csz (cszL r)
def AV.sz : AV → Option (Nat × Bool)
  | .undef => none | .pv t _ => some (t.size, t.isAgg) | .agg fs => some (cszL fs, true) | .tup _ => none | .cst _ => none | _ => some (1, false)
def szEq : Option (Nat × Bool) → Option (Nat × Bool) → Bool
  | some (n, a), some (m, b) => Nat.beq n m && (a == b) | _, _ => false
def AS.rv (s : AS) : AV → AV
  | .cst n => nthD .undef s.env n
  | v => v
def AS.rb (s : AS) : Bx → Bx
  | .cst n => (match nthD (.var .undef) s.benv n with | .var (.cst _) => .var .undef | b => b)
  | b => b
def inK (k : IntKind) (n : Int) : Bool := decide (k.min ≤ n) && decide (n ≤ k.max)
def AS.ev (s : AS) : Operand → AV
  | .tmp t => s.rv (nthD .undef s.tm t)
  | .const (.bool b) => .lit b
  | .const (.int k n) => bif inK k n then .pv (.int k) (pI n) else .undef
  | .const (.string b) => bif Nat.ble b.size 140737488355328 then .pv .str (pS (b.data.toList.map fun x => (x.toNat : Int))) else .undef
  | .const (.pointer none) => .nil .ptr
  | .const (.slice none 0 0) => .nil .sl
  | .const (.map none) => .nil .map
  | .const .nilFunc => .nil .fn
  | .func f => .clo f []
  | _ => .undef
def AS.box (s : AS) (i : Nat) : Option Bx := (lookupN s.bx i).map s.rb
def AS.put (s : AS) (d : Nat) (v : AV) : AS := { s with tm := s.tm.set d v }
def AS.putBox (s : AS) (i : Nat) (b : Bx) : AS := { s with bx := setN s.bx i b }
mutual
def AV.names (i : Nat) : AV → Bool
  | .ptr j _ => Nat.beq i j | .sl j => Nat.beq i j | .slr j _ _ => Nat.beq i j | .asl j _ _ _ => Nat.beq i j | .mp j => Nat.beq i j | .yld j => Nat.beq i j
  | .clo _ cs => namesL i cs | .agg fs => namesL i fs | .tup fs => namesL i fs | _ => false
def namesL (i : Nat) : List AV → Bool
  | [] => false
  | v :: r => v.names i || namesL i r
end
def AV.forget (i : Nat) : AV → AV
  | .agg fs => .agg (fs.map fun v => bif v.names i then .undef else v)
  | v => bif v.names i then .undef else v
def AV.drop (i : Nat) (v : AV) : AV := bif v.names i then v.forget i else v
def AS.kill (s : AS) (i : Nat) : AS :=
  { s with tm := s.tm.map fun v => bif (s.rv v).names i then .undef else v
           up := s.up.map fun l => l.map fun v => bif (s.rv v).names i then .undef else v
           bx := s.bx.map fun (j, b) => (j, match s.rb b with | .var v => bif (s.rv v).names i then .var ((s.rv v).forget i) else b | _ => b) }
def AS.newBox (s : AS) (i : Nat) (b : Bx) : AS := (s.kill i).putBox i b
def AS.newVar (s : AS) (i : Nat) (v : AV) : AS := s.newBox i (.var (v.drop i))
def getT : (t : Ty) → t.T → Option Nat → List Stp → AV
  | .pair a _, x, some 0, p => getT a (pFst x) none p
  | .pair _ b, x, some (n + 1), p => getT b (pSnd x) (some n) p
  | t, x, none, [] => .pv t x
  | t, x, some 0, [] => .pv t x
  | .st a, x, none, .fld n :: p => getT a x (some n) p
  | .st a, x, some 0, .fld n :: p => getT a x (some n) p
  | .arr _ a, x, none, .idx i :: p => getT a (pGet a.dflt x i) none p
  | .arr _ a, x, some 0, .idx i :: p => getT a (pGet a.dflt x i) none p
  | _, _, _, _ => .undef
def setT : (t : Ty) → t.T → Option Nat → List Stp → PV → Option t.T
  | .pair a _, x, some 0, p, v => (setT a (pFst x) none p v).map fun y => pPair y (pSnd x)
  | .pair _ b, x, some (n + 1), p, v => (setT b (pSnd x) (some n) p v).map fun y => pPair (pFst x) y
  | t, _, none, [], v => v.as t
  | t, _, some 0, [], v => v.as t
  | .st a, x, none, .fld n :: p, v => setT a x (some n) p v
  | .st a, x, some 0, .fld n :: p, v => setT a x (some n) p v
  | .arr _ a, x, none, .idx i :: p, v => (setT a (pGet a.dflt x i) none p v).map fun y => pSet x i y
  | .arr _ a, x, some 0, .idx i :: p, v => (setT a (pGet a.dflt x i) none p v).map fun y => pSet x i y
  | _, _, _, _, _ => none
def offF : Ty → Nat → Nat
  | .pair _ _, 0 => 0
  | .pair a b, n + 1 => Nat.add a.size (offF b n)
  | _, _ => 0
def AV.getP : List Stp → AV → AV
  | [], v => v
  | p :: r, .pv t x => getT t x none (p :: r)
  | .fld n :: p, .agg fs => AV.getP p (nthD .undef fs n)
  | _, _ => .undef
def AV.alike : AV → AV → Bool
  | .pv t _, .pv u _ => t.eqt u
  | .pv t _, .lit _ => t.eqt .bool
  | .lit _, .pv t _ => t.eqt .bool
  | .lit _, .lit _ => true
  | .agg fs, .agg gs => alikeL fs gs
  | .undef, .agg _ => false | .undef, .pv _ _ => false | .undef, .tup _ => false
  | .pv _ _, _ => false | .agg _, _ => false | .tup _, _ => false | .cst _, _ => false
  | _, .pv _ _ => false | _, .agg _ => false | _, .tup _ => false | _, .cst _ => false | _, .undef => false
  | _, _ => true
where alikeL : List AV → List AV → Bool
  | [], [] => true
  | .agg _ :: _, _ => false
  | .pv t _ :: r, .pv u _ :: q => t.eqt u && alikeL r q
  | .pv t _ :: r, .lit _ :: q => t.eqt .bool && alikeL r q
  | .lit _ :: r, .pv t _ :: q => t.eqt .bool && alikeL r q
  | .pv _ _ :: _, _ => false
  | _, .pv _ _ :: _ => false | _, .agg _ :: _ => false | _, .tup _ :: _ => false | _, .cst _ :: _ => false
  | _ :: r, _ :: q => alikeL r q
  | _, _ => false
def AV.setP : List Stp → AV → AV → Option AV
  | [], v, u => bif v.alike u then some u else none
  | p :: r, .pv t x, .pv t' y => (setT t x none (p :: r) ⟨t', y⟩).map (.pv t ·)
  | p :: r, .pv t x, .lit b => (setT t x none (p :: r) ⟨.bool, pB b⟩).map (.pv t ·)
  | .fld n :: p, .agg fs, u => (AV.setP p (nthD .undef fs n) u).map fun w => .agg (fs.set n w)
  | _, _, _ => none
def namedBy (vs : List AV) (l : List (Nat × Bx)) : List Nat := (l.filter fun x => vs.any fun v => v.names x.1).map (·.1)
def AS.inside (s : AS) (is : List Nat) : List AV :=
  s.bx.filterMap fun (i, b) => bif is.any (Nat.beq i) then (match s.rb b with | .var v => some (s.rv v) | _ => none) else none
def AS.reach (s : AS) : Nat → List AV → List Nat
  | 0, vs => namedBy vs s.bx
  | n + 1, vs => s.reach n (List.append vs (s.inside (namedBy vs s.bx)))
def keepL (vars : List Nat) : Nat → List AV → List AV
  | _, [] => []
  | k, v :: r => (bif vars.any (Nat.beq k) then v else .undef) :: keepL vars (Nat.succ k) r
def AS.keep (s : AS) (vars : List Nat) (vs : List AV) : AS :=
  let tm := keepL vars 0 s.tm
  let roots := List.append (List.append (tm.map s.rv) vs) (s.up.flatMap fun l => l.map s.rv)
  let is := s.reach 3 roots
  { s with tm := tm, bx := s.bx.filter fun x => is.any (Nat.beq x.1) }
end Go.Xr
namespace Go.Xr
open Go
structure RL where
  t : Ty
  xs : PL t.T
def AS.list (s : AS) : AV → Option RL
  | .pv (.sl _ t) xs => some ⟨t, xs⟩
  | .pv .str xs => some ⟨.int .u8, pBytes xs⟩
  | .sl i => match s.box i with | some (.buf .sl t xs) => some ⟨t, xs⟩ | _ => none
  | .slr i off len => match s.box i with | some (.buf .sl t xs) => some ⟨t, pCut xs off len⟩ | _ => none
  | .asl i p off len => match s.box i with
    | some (.var v) => (match AV.getP p (s.rv v) with | .pv (.arr _ t) xs => some ⟨t, pCut xs off len⟩ | _ => none)
    | _ => none
  | _ => none
def AS.toPV (_s : AS) : AV → Option PV
  | .pv t x => some ⟨t, x⟩
  | .lit b => some ⟨.bool, pB b⟩
  | _ => none
section
variable (s : AS) (o : Oper)
def skipT : Tree := .leaf .normal (match o.dst with | some d => s.put d .undef | none => s)
def skipG : Tree := .leaf .normal (match o.dst with | some d => s.put d (.tup []) | none => s)
def retT (v : AV) : Tree := .leaf .normal (match o.dst with | some d => s.put d v | none => s)
def siteT : Nat := Nat.add (Nat.mul s.base 1000) (match o.dst with | some d => d | none => 0)
end
def deadT : Tree := .fail
def okT (b : Bool) (t : Tree) : Tree := match b with | true => t | false => .fail
def boolV (b : PB) : AV := .pv .bool b
def binT (K : Kit) (s : AS) (o : Oper) (op : BinOp) (T : TypeId) (x y : AV) : Tree :=
  let r := retT s o
  match op, x, y with
  | .add, .pv (.int k) a, .pv (.int k') b => okT (keq k k') (r (.pv (.int k) (pAdd k a b)))
  | .sub, .pv (.int k) a, .pv (.int k') b => okT (keq k k') (r (.pv (.int k) (pSub k a b)))
  | .mul, .pv (.int k) a, .pv (.int k') b => okT (keq k k') (r (.pv (.int k) (pMul k a b)))
  | .quo, .pv (.int k) a, .pv (.int k') b => okT (keq k k') (.chk (pNot (pEq b (pI 0))) (r (.pv (.int k) (pQuo k a b))))
  | .rem, .pv (.int k) a, .pv (.int k') b => okT (keq k k') (.chk (pNot (pEq b (pI 0))) (r (.pv (.int k) (pRem a b))))
  | .shl, .pv (.int k) a, .pv (.int _) b => .chk (pLe (pI 0) b) (r (.pv (.int k) (pShl k a b)))
  | .shr, .pv (.int k) a, .pv (.int _) b => .chk (pLe (pI 0) b) (r (.pv (.int k) (pShr k a b)))
  | .and, .pv (.int k) a, .pv (.int k') b => okT (keq k k') (r (.pv (.int k) (pAnd k a b)))
  | .or, .pv (.int k) a, .pv (.int k') b => okT (keq k k') (r (.pv (.int k) (pOr k a b)))
  | .xor, .pv (.int k) a, .pv (.int k') b => okT (keq k k') (r (.pv (.int k) (pXor k a b)))
  | .lss, .pv (.int k) a, .pv (.int k') b => okT (keq k k') (r (boolV (pLt a b)))
  | .leq, .pv (.int k) a, .pv (.int k') b => okT (keq k k') (r (boolV (pLe a b)))
  | .gtr, .pv (.int k) a, .pv (.int k') b => okT (keq k k') (r (boolV (pLt b a)))
  | .geq, .pv (.int k) a, .pv (.int k') b => okT (keq k k') (r (boolV (pLe b a)))
  | .eql, .nil .ptr, .nil .ptr => okT (match K.td T with | .ptr _ => true | _ => false) (r (.lit true))
  | .neq, .nil .ptr, .nil .ptr => okT (match K.td T with | .ptr _ => true | _ => false) (r (.lit false))
  | .eql, .ptr i _, .nil .ptr => okT ((match K.td T with | .ptr _ => true | _ => false) && (s.box i).isSome) (r (.lit false))
  | .neq, .ptr i _, .nil .ptr => okT ((match K.td T with | .ptr _ => true | _ => false) && (s.box i).isSome) (r (.lit true))
  | .eql, .clo _ _, .nil .fn => okT (match K.td T with | .fn => true | _ => false) (r (.lit false))
  | .neq, .clo _ _, .nil .fn => okT (match K.td T with | .fn => true | _ => false) (r (.lit true))
  | .eql, x, y => match K.td T, s.toPV x, s.toPV y with
    | .pure t, some a, some b => okT t.comparable (match a.as t, b.as t with | some u, some v => r (boolV (t.eqb u v)) | _, _ => .fail)
    | _, _, _ => .fail
  | .neq, x, y => match K.td T, s.toPV x, s.toPV y with
    | .pure t, some a, some b => okT t.comparable (match a.as t, b.as t with | some u, some v => r (boolV (pNot (t.eqb u v))) | _, _ => .fail)
    | _, _, _ => .fail
  | _, _, _ => .fail
def Kit.kv (K : Kit) (T : TypeId) : Option (Ty × Ty) := match K.td T with
  | .map k v => (match K.td k, K.td v with | .pure a, .pure b => (match a.comparable with | true => some (a, b) | false => none) | _, _ => none)
  | _ => none
structure MPL where
  k : Ty
  v : Ty
  xs : PL (PP k.T v.T)
def AS.mpl (s : AS) (i : Nat) : Option MPL := match s.box i with
  | some (.buf .mp (.pair k v) xs) => some ⟨k, v, xs⟩ | _ => none
def Kit.pure1 (K : Kit) (T : TypeId) : Option Ty := match K.td T with
  | .pure t => some t
  | .slice e => (match K.td e with | .pure t => some (.sl false t) | _ => none)
  | _ => none
def Kit.elem (K : Kit) (T : TypeId) : Option Ty := match K.td T with | .slice e => K.pure1 e | _ => none
def frzT (s : AS) (i : Nat) (v : AV) : AV :=
  bif (s.rv v).names i then (match s.rv v with
    | .sl j => (match s.list (.sl j) with | some l => .pv (.sl false l.t) l.xs | none => .undef)
    | .slr j off len => (match s.list (.slr j off len) with | some l => .pv (.sl false l.t) l.xs | none => .undef)
    | _ => .undef) else v
def AS.dropBox (s : AS) (i : Nat) : AS := { s with bx := s.bx.filter fun x => !(Nat.beq x.1 i) }
def AS.freeze (s : AS) (i : Nat) : AS :=
  { (s.kill i).dropBox i with tm := s.tm.map (frzT s i) }
def frzI (s : AS) (i : Nat) : AS := match s.box i with | some (.buf .sl _ _) => s.freeze i | _ => s
def frzO (s : AS) (x : Operand) : AS := match s.ev x with | .sl i => frzI s i | .slr i _ _ => frzI s i | _ => s
def frzOs : List (Nat × Operand) → AS → AS
  | [], s => s | (_, x) :: r, s => frzOs r (frzO s x)
def asP (old v : AV) : AV := match old, v with | .pv (.sl b t) _, .nil .sl => .pv (.sl b t) pNil | _, v => v
def convT (K : Kit) (s : AS) (o : Oper) (src dst : TypeId) (x : AV) : Tree :=
  match K.td dst, x with
  | .pure (.int k), .pv (.int _) a => okT (match K.td src with | .pure _ => true | _ => false) (retT s o (.pv (.int k) (pWrap k a)))
  | .pure .str, x => (match K.elem src, s.list x with
    | some t, some l => if h : l.t = .int .u8 then okT (t.eqt (.int .u8)) (retT s o (.pv .str (pText (castL h l.xs)))) else .fail
    | _, _ => .fail)
  | .slice _, .pv .str xs => (match K.elem dst with
    | some t => okT ((match K.td src with | .pure .str => true | _ => false) && t.eqt (.int .u8)) (let i := siteT s o; retT (s.newBox i (.buf .sl (.int .u8) (pBytes xs))) o (.sl i))
    | none => .fail)
  | .slice _, .sl i => (match s.box i, K.elem dst with
    | some (.buf .sl t xs), some t' => okT (Nat.beq src dst && t'.eqt (.int .u8) && t.eqt (.int .u8)) (.chk (pLt (pI 0) (pLen xs)) (retT (s.putBox i (.buf .sl t xs)) o (.sl i)))
    | _, _ => .fail)
  | _, _ => .fail
def Kit.zeroA (K : Kit) (site : Nat) (T : TypeId) : AV :=
  match K.td T with
  | .pure t => .pv t t.dflt
  | .slice e => (match K.pure1 e with | some _ => .sl (Nat.add site 500) | none => .nil .sl)
  | .ptr _ => .nil .ptr
  | .map _ _ => .nil .map
  | .fn => .nil .fn
  | _ => .undef
def Kit.zeroS (K : Kit) (site : Nat) (T : TypeId) (s : AS) : AS :=
  match K.td T with
  | .slice e => (match K.pure1 e with | some t => s.newBox (Nat.add site 500) (.buf .sl t pNil) | none => s)
  | _ => s
def Kit.zerosA (K : Kit) (site : Nat) : List TypeId → List AV
  | [] => []
  | T :: r => K.zeroA site T :: K.zerosA (Nat.add site 10) r
def Kit.zerosS (K : Kit) (site : Nat) : List TypeId → AS → AS
  | [], s => s
  | T :: r, s => K.zeroS site T (K.zerosS (Nat.add site 10) r s)
def Kit.zeroV (K : Kit) (site : Nat) (T : TypeId) : AV :=
  match K.td T with
  | .struct fs => .agg (K.zerosA site fs)
  | _ => K.zeroA site T
def Kit.zeroW (K : Kit) (site : Nat) (T : TypeId) (s : AS) : AS :=
  match K.td T with
  | .struct fs => K.zerosS site fs s
  | _ => K.zeroS site T s
def storeT (s : AS) (o : Oper) (i : Nat) (p : List Stp) (v : AV) : Tree :=
  match s.box i with
  | some (.var u) => (match AV.setP p (s.rv u) v with | some w => skipT (s.putBox i (.var w)) o | none => .fail)
  | some (.buf .sl t xs) => (match p with
    | .idx k :: r => (match AV.setP r (.pv t (pGet t.dflt xs k)) v with
      | some (.pv t' y) => if h : t' = t then skipT (s.putBox i (.buf .sl t (pSet xs k (castT h y)))) o else .fail
      | some (.lit b) => if h : .bool = t then skipT (s.putBox i (.buf .sl t (pSet xs k (castT h (pB b))))) o else .fail
      | _ => .fail)
    | _ => .fail)
  | _ => .fail
def AS.at_ (s : AS) (i : Nat) (p : List Stp) : AV :=
  match s.box i with
  | some (.var u) => AV.getP p (s.rv u)
  | some (.buf .sl t xs) => (match p with | .idx k :: r => AV.getP r (.pv t (pGet t.dflt xs k)) | _ => .undef)
  | _ => .undef
def loadT (K : Kit) (s : AS) (o : Oper) (T : TypeId) : AV → Tree
  | .fad t x => okT (szEq (K.sz T) (some (t.size, t.isAgg))) (retT s o (.pv t x))
  | .ptr i p => let v := s.at_ i p; okT (szEq (K.sz T) v.sz) (retT s o v)
  | _ => .fail
def lookupT (K : Kit) (s : AS) (o : Oper) (T : TypeId) (m i : AV) (comma : Bool) : Tree :=
  match m, K.kv T, s.toPV i with
  | .mp b, some (tk, tv), some p => (match s.mpl b, p.as tk with
    | some l, some k => if h : l.k = tk ∧ l.v = tv then
        (let xs : PL (PP tk.T tv.T) := castL (a := .pair l.k l.v) (b := .pair tk tv) (by rw [h.1, h.2]) l.xs
        match comma with
        | true => retT s o (.tup [.pv tv (pMGet tk.eqb tv.dflt xs k), .pv .bool (pMHas tk.eqb xs k)])
        | false => retT s o (.pv tv (pMGet tk.eqb tv.dflt xs k))) else .fail
    | _, _ => .fail)
  | _, _, _ => .fail
def mapSetT (K : Kit) (s : AS) (o : Oper) (T : TypeId) (m i v : AV) : Tree :=
  match m, K.kv T, s.toPV i, s.toPV v with
  | .mp b, some (tk, tv), some p, some q => (match s.mpl b, p.as tk, q.as tv with
    | some l, some k, some y => if h : l.k = tk ∧ l.v = tv then
        skipT (s.putBox b (.buf .mp (.pair tk tv) (pMPut tk.eqb (castL (a := .pair l.k l.v) (b := .pair tk tv) (by rw [h.1, h.2]) l.xs) k y))) o else .fail
    | _, _, _ => .fail)
  | _, _, _, _ => .fail
def mapDelT (K : Kit) (s : AS) (o : Oper) (T : TypeId) (m i : AV) : Tree :=
  match m, K.kv T, s.toPV i with
  | .mp b, some (tk, tv), some p => (match s.mpl b, p.as tk with
    | some l, some k => if h : l.k = tk ∧ l.v = tv then
        retT (s.putBox b (.buf .mp (.pair tk tv) (pMDel tk.eqb (castL (a := .pair l.k l.v) (b := .pair tk tv) (by rw [h.1, h.2]) l.xs) k))) o (.tup []) else .fail
    | _, _ => .fail)
  | _, _, _ => .fail
def mapClearT (K : Kit) (s : AS) (o : Oper) (T : TypeId) (m : AV) : Tree :=
  match m, K.kv T with
  | .mp b, some (tk, tv) => (match s.mpl b with
    | some l => okT (l.k.eqt tk && l.v.eqt tv) (retT (s.putBox b (.buf .mp (.pair tk tv) pNil)) o (.tup []))
    | none => .fail)
  | _, _ => .fail
def noneO : Option Operand → Bool | none => true | some _ => false
def zeroO : Option Operand → Bool | some (.const (.int _ n)) => decide (n = 0) | _ => false
def slice0T (K : Kit) (s : AS) (o : Oper) (T : TypeId) (x : AV) : Tree :=
  match K.elem T with
  | some t => (match x with
    | .nil .sl => let i := siteT s o; retT (s.newBox i (.buf .sl t pNil)) o (.sl i)
    | x => (match s.list x with
      | some l => okT (l.t.eqt t && (match x with | .pv .str _ => false | _ => true)) (let i := siteT s o; retT (s.newBox i (.buf .sl t pNil)) o (.sl i))
      | none => .fail))
  | none => .fail
def arrayAtT (K : Kit) (s : AS) (o : Oper) (A : TypeId) (x : AV) : Tree :=
  match K.td A, x with
  | .pure (.arr n t), .pv (.sl _ t') xs => if h : t' = t then okT (Nat.blt 0 n) (.chk (pLe (pI n) (pLen xs)) (retT s o (.fad (.arr n t) (pCut (castL h xs) (pI 0) (pI n))))) else .fail
  | _, _ => .fail
def nilT (K : Kit) (s : AS) (o : Oper) (T : TypeId) (x : AV) (b : Bool) : Tree :=
  match K.td T, s.list x with
  | .slice _, some l => okT (match x with | .pv .str _ => false | _ => true) (.br (pEq (pLen l.xs) (pI 0)) (.amb (retT s o (.lit b)) (retT s o (.lit (!b)))) (retT s o (.lit (!b))))
  | _, _ => .fail
def eqnT (K : Kit) (s : AS) (o : Oper) (op : BinOp) (T : TypeId) (x y : AV) : Tree :=
  match op, y with
  | .eql, .nil .sl => nilT K s o T x true
  | .neq, .nil .sl => nilT K s o T x false
  | _, _ => binT K s o op T x y
def lenT (K : Kit) (s : AS) (o : Oper) (T : TypeId) (x : AV) : Tree :=
  match x with
  | .nil .sl => okT (match K.td T with | .slice _ => true | _ => false) (retT s o (.pv (.int .i64) (pI 0)))
  | .pv (.arr n _) _ => okT ((match K.td T with | .pure (.arr m _) => Nat.beq m n | _ => false) && Nat.ble n 140737488355328) (retT s o (.pv (.int .i64) (pI n)))
  | .pv .str xs => okT (match K.td T with | .pure .str => true | _ => false) (retT s o (.pv (.int .i64) (pLen (pBytes xs))))
  | x => (match s.list x with | some l => okT (match K.td T with | .slice _ => true | _ => false) (retT s o (.pv (.int .i64) (pLen l.xs))) | none => .fail)
def lenMapT (K : Kit) (s : AS) (o : Oper) (T : TypeId) (b : Nat) : Tree :=
  match s.mpl b, K.kv T with | some l, some (tk, tv) => okT (l.k.eqt tk && l.v.eqt tv) (.chk (pRoom (pLen l.xs)) (retT s o (.pv (.int .i64) (pLen l.xs)))) | _, _ => .fail
def appendT (K : Kit) (s : AS) (o : Oper) (T T' : TypeId) (x y : AV) : Tree :=
  match K.elem T, s.list y with
  | some t, some l => okT (match K.td T' with | .slice _ => true | .pure .str => true | _ => false) (if h : l.t = t then
      (match x with
      | .sl i => (match s.box i with
        | some (.buf .sl t' xs) => if h' : t' = t then .chk (pRoom (pIAdd (pLen xs) (pLen l.xs))) (retT (s.newBox i (.buf .sl t (pApp (castL h' xs) (castL h l.xs)))) o (.sl i)) else .fail
        | _ => .fail)
      | .nil .sl => let i := siteT s o; .chk (pRoom (pLen l.xs)) (retT (s.newBox i (.buf .sl t (castL h l.xs))) o (.sl i))
      | _ => .fail) else .fail)
  | _, _ => .fail
def appMakeT (K : Kit) (s : AS) (o : Oper) (T T' : TypeId) (n : PI) : Tree :=
  match K.elem T with
  | some t => okT (match K.td T' with | .pure (.int .i64) => true | _ => false) (let i := siteT s o; .chk (pSize n n) (retT (s.newBox i (.buf .sl t (pRep n t.dflt))) o (.sl i)))
  | none => .fail
def minmaxT (s : AS) (o : Oper) (mx : Bool) (x y : AV) : Tree :=
  match x, y with
  | .pv (.int k) a, .pv (.int k') b => okT (keq k k') (retT s o (.pv (.int k) (bif mx then pMax a b else pMin a b)))
  | _, _ => .fail
def builtinT (K : Kit) (s : AS) (o : Oper) (b : Builtin) (Ts : List TypeId) (args : List AV) : Tree :=
  match b, Ts, args with
  | .len, [T], [.mp b] => lenMapT K s o T b
  | .len, [T], [x] => lenT K s o T x
  | .append, [T, T'], [.nil .sl, .pv (.int .i64) n] => appMakeT K s o T T' n
  | .append, [T, T'], [x, y] => appendT K s o T T' x y
  | .cap, [T], [.nil .sl] => okT (match K.td T with | .slice _ => true | _ => false) (retT s o (.pv (.int .i64) (pI 0)))
  | .min, _, [x, y] => minmaxT s o false x y
  | .max, _, [x, y] => minmaxT s o true x y
  | .delete, T :: _, [x, y] => mapDelT K s o T x y
  | .clear, [T], [x] => mapClearT K s o T x
  | _, _, _ => .fail
def unT (s : AS) (o : Oper) (op : UnOp) (x : AV) : Tree :=
  match op, x with
  | .not, .lit b => retT s o (.lit (!b))
  | .not, .pv .bool b => retT s o (.pv .bool (pNot b))
  | .neg, .pv (.int k) a => retT s o (.pv (.int k) (pSub k (pI 0) a))
  | .xor, .pv (.int k) a => retT s o (.pv (.int k) (pCom k a))
  | _, _ => .fail
def idxAddrT (K : Kit) (s : AS) (o : Oper) (T : TypeId) (x i : AV) : Tree :=
  match i with
  | .pv (.int _) i => (match x with
    | .sl b => (match s.box b, K.elem T with
      | some (.buf .sl t xs), some t' => okT (t.eqt t') (.chk (pIn i (pLen xs)) (retT s o (.ptr b [.idx i])))
      | _, _ => .fail)
    | .slr b off len => (match s.box b, K.elem T with
      | some (.buf .sl t _), some t' => okT (t.eqt t') (.chk (pIn i len) (retT s o (.ptr b [.idx (pIAdd off i)])))
      | _, _ => .fail)
    | .ptr b p => (match s.at_ b p, K.td T with
      | .pv (.arr n t) _, .pure (.arr m t') => okT (Nat.beq n m && t.eqt t') (.chk (pIn i (pI n)) (retT s o (.ptr b (List.append p [.idx i]))))
      | _, _ => .fail)
    | .pv (.sl _ t) xs => (match K.elem T with
      | some t' => okT (t.eqt t') (.chk (pIn i (pLen xs)) (retT s o (.fad t (pGet t.dflt xs i))))
      | none => .fail)
    | .fad (.arr n t) xs => (match K.td T with
      | .pure (.arr m t') => okT (Nat.beq n m && t.eqt t') (.chk (pIn i (pI n)) (retT s o (.fad t (pGet t.dflt xs i))))
      | _ => .fail)
    | _ => .fail)
  | _ => .fail
def Kit.isSt (K : Kit) (T : TypeId) : AV → Bool
  | .pv t _ => (match K.td T with | .pure u => t.eqt u | _ => false)
  | .agg gs => (match K.td T with | .struct fs => sizesEq K fs gs | _ => false)
  | _ => false
where sizesEq (K : Kit) : List TypeId → List AV → Bool
  | [], [] => true | T :: r, v :: q => Nat.beq (K.sz1 T) v.csz && sizesEq K r q | _, _ => false
def fieldAddrT (K : Kit) (s : AS) (o : Oper) (T : TypeId) (x : AV) (f : Nat) : Tree :=
  match x with
  | .ptr b p => (match s.at_ b p with
    | .pv t x => okT (K.isSt T (.pv t x)) (match getT t x none [.fld f] with | .pv u _ => okT (Nat.blt 0 u.size) (retT s o (.ptr b (List.append p [.fld f]))) | _ => .fail)
    | .agg gs => okT (K.isSt T (.agg gs) && Nat.blt f (len gs)) (retT s o (.ptr b (List.append p [.fld f])))
    | _ => .fail)
  | .fad t x => okT (K.isSt T (.pv t x)) (match getT t x none [.fld f] with | .pv u y => okT (Nat.blt 0 u.size) (retT s o (.fad u y)) | _ => .fail)
  | _ => .fail
def intV : AV → Option PI
  | .pv (.int _) a => some a
  | _ => none
def bndV (d : PI) : Option AV → Option PI
  | none => some d | some v => intV v
def noBnd : Option AV → Option AV → Bool
  | none, none => true | _, _ => false
def sliceT (K : Kit) (s : AS) (o : Oper) (T : TypeId) (x : AV) (lo hi : Option AV) : Tree :=
  match x with
  | .ptr b p => (match s.at_ b p, K.td T with
    | .pv (.arr n t) _, .pure (.arr m t') => okT (Nat.beq n m && t.eqt t' && Nat.ble n 140737488355328) (bif noBnd lo hi then retT s o (.asl b p (pI 0) (pI n)) else match bndV (pI 0) lo, bndV (pI n) hi with
      | some l, some h => .chk (pPart l h (pI n)) (retT s o (.asl b p l (pISub h l)))
      | _, _ => .fail)
    | _, _ => .fail)
  | .pv (.sl b t) xs => (match K.elem T with
    | some t' => okT (t.eqt t') (bif noBnd lo hi then retT s o (.pv (.sl b t) xs) else match bndV (pI 0) lo, bndV (pLen xs) hi with
      | some l, some h => .chk (pPart l h (pLen xs)) (retT s o (.pv (.sl b t) (pCut xs l (pISub h l))))
      | _, _ => .fail)
    | none => .fail)
  | .nil .sl => (match K.elem T, bndV (pI 0) lo, bndV (pI 0) hi with
    | some _, some l, some h => .chk (pPart l h (pI 0)) (retT s o (.nil .sl))
    | _, _, _ => .fail)
  | .sl b => (match s.box b, K.elem T with
    | some (.buf .sl t xs), some t' => okT (t.eqt t') (bif noBnd lo hi then retT s o (.sl b) else match bndV (pI 0) lo, bndV (pLen xs) hi with
      | some l, some h => .chk (pPart l h (pLen xs)) (retT s o (.slr b l (pISub h l)))
      | _, _ => .fail)
    | _, _ => .fail)
  | .slr b off len => (match s.box b, K.elem T with
    | some (.buf .sl t _), some t' => okT (t.eqt t') (match bndV (pI 0) lo, bndV len hi with
      | some l, some h => .chk (pPart l h len) (retT s o (.slr b (pIAdd off l) (pISub h l)))
      | _, _ => .fail)
    | _, _ => .fail)
  | _ => .fail
def AV.fits (v u : AV) : Bool := match u with | .undef => false | .agg _ => false | .tup _ => false | .cst _ => false | .yld _ => false | u => Nat.beq u.csz v.csz
def partsL (s : AS) : List AV → List (Nat × Operand) → Option (List AV)
  | l, [] => some l
  | l, (i, x) :: r => (match nth l i with
    | some v => bif AV.fits v (asP v (s.ev x)) then partsL s (l.set i (asP v (s.ev x))) r else none
    | none => none)
def repL (z : AV) : Nat → List AV
  | 0 => [] | n + 1 => z :: repL z n
def rowOf (s : AS) (t : Ty) : List AV → Option (PL t.T)
  | [] => some pNil
  | v :: r => match s.toPV v with
    | some p => (match p.as t, rowOf s t r with | some x, some l => some (pCons x l) | _, _ => none)
    | none => none
def fieldsOf (s : AS) : (t : Ty) → List AV → Option t.T
  | .pair a b, v :: r => (match s.toPV v with
    | some p => (match p.as a, fieldsOf s b r with | some x, some y => some (pPair x y) | _, _ => none)
    | none => none)
  | t, [v] => (match s.toPV v with | some p => p.as t | none => none)
  | _, _ => none
def zeroFields : Ty → List AV
  | .pair a b => .pv a a.dflt :: zeroFields b
  | .unit => []
  | t => [.pv t t.dflt]
def buildT (K : Kit) (s : AS) (o : Oper) (T : TypeId) (ps : List (Nat × Operand)) : Tree :=
  match K.td T with
  | .pure (.st t) => (match partsL s (zeroFields t) ps with
    | some l => (match fieldsOf s t l with | some x => retT s o (.pv (.st t) x) | none => .fail)
    | none => .fail)
  | .pure (.arr n t) => (match partsL s (repL (.pv t t.dflt) n) ps with
    | some l => (match rowOf s t l with | some x => retT s o (.pv (.arr n t) x) | none => .fail)
    | none => .fail)
  | .struct fs => let i := siteT s o; let s' := K.zerosS i fs s
    (match partsL s' (K.zerosA i fs) ps with | some l => retT s' o (.agg l) | none => .fail)
  | _ => .fail
def frzP (s : AS) (a v : Operand) : AS := match s.ev a with | .ptr i p => (match s.at_ i p with | .pv (.sl _ _) _ => frzO s v | _ => s) | _ => s
def nilP (K : Kit) (s : AS) (T : TypeId) (a v : Operand) : AS × AV :=
  match s.ev v, s.ev a with
  | .nil .sl, .ptr i p => (match s.at_ i p, K.elem T with
    | .sl j, some t => (s.newBox j (.buf .sl t pNil), .sl j)
    | _, _ => (s, .nil .sl))
  | v, _ => (s, v)
def opT (K : Kit) (call : Oper → AV → List AV → AS → Tree) (s : AS) (o : Oper) : Tree :=
  match o.op with
  | .move x => retT s o (s.ev x)
  | .assign x => (match s.ev x with
    | .nil .sl => (match K.elem o.type with
      | some t => let i := siteT s o; retT (s.newBox i (.buf .sl t pNil)) o (.sl i)
      | none => .fail)
    | v => retT s o v)
  | .pick c a b => (match s.ev c with
    | .lit b' => retT s o (bif b' then s.ev a else s.ev b)
    | .pv .bool b' => .br b' (retT s o (s.ev a)) (retT s o (s.ev b))
    | _ => .fail)
  | .alloc T => let i := siteT s o; let v := K.zeroV i T; okT (szEq (K.sz T) v.sz) (retT ((K.zeroW i T s).newVar i v) o (.ptr i []))
  | .box T x => (match s.ev x, K.elem T with
    | .nil .sl, some t => let i := siteT s o; let j := Nat.add i 500; retT ((s.newBox j (.buf .sl t pNil)).newVar i (.sl j)) o (.ptr i [])
    | v, _ => let i := siteT s o; okT v.sz.isSome (retT (s.newVar i v) o (.ptr i [])))
  | .build T ps => (match K.td T with | .pure _ => buildT K (frzOs ps.toList s) o T ps.toList | _ => buildT K s o T ps.toList)
  | .buildSlice T n ps => (match K.elem T with
    | some t => let s := frzOs ps.toList s; (match partsL s (repL (.pv t t.dflt) n) ps.toList with
      | some l => (match rowOf s t l with
        | some xs => okT (Nat.ble (Nat.mul n t.size) 16777216) (let i := siteT s o; retT (s.newBox i (.buf .sl t xs)) o (.sl i)) | none => .fail)
      | none => .fail)
    | none => .fail)
  | .load T a => loadT K s o T (s.ev a)
  | .store T a v => let y := nilP K (frzP s a v) T a v; (match y.1.ev a with | .ptr i p => let u := asP (y.1.at_ i p) y.2; okT (szEq (K.sz T) u.sz) (storeT y.1 o i p u) | _ => .fail)
  | .nilCheck x => (match s.ev x with | .ptr i p => okT (s.box i).isSome (retT s o (.ptr i p)) | .fad t x => retT s o (.fad t x) | .nil .ptr => deadT | _ => .fail)
  | .binOp op T x y _ => eqnT K s o op T (s.ev x) (s.ev y)
  | .unOp op _ x => unT s o op (s.ev x)
  | .convert T d x => convT K s o T d (s.ev x)
  | .makeSlice T l c => (match K.elem T, s.ev l, s.ev c with
    | some t, .pv (.int _) n, .pv (.int _) m =>
      let i := siteT s o; .chk (pSize n m) (retT (s.newBox i (.buf .sl t (pRep n t.dflt))) o (.sl i))
    | _, _, _ => .fail)
  | .makeMap T none => (match K.kv T with | some (tk, tv) => let i := siteT s o; retT (s.newBox i (.buf .mp (.pair tk tv) pNil)) o (.mp i) | none => .fail)
  | .lookup T m i comma => lookupT K s o T (s.ev m) (s.ev i) comma
  | .mapUpdate T m i v => let s := frzO s v; mapSetT K s o T (s.ev m) (s.ev i) (s.ev v)
  | .sliceToArrayPointer A x => arrayAtT K s o A (s.ev x)
  | .slice T x lo hi (some m) => okT (noneO lo && zeroO hi && zeroO (some m)) (slice0T K s o T (s.ev x))
  | .slice T x lo hi none => sliceT K s o T (s.ev x) (lo.map s.ev) (hi.map s.ev)
  | .fieldAddr T x f => fieldAddrT K s o T (s.ev x) f
  | .field T x f => (match s.ev x with
    | .pv t y => okT (K.isSt T (.pv t y)) (match getT t y none [.fld f] with | .pv u z => okT (Nat.blt 0 u.size) (retT s o (.pv u z)) | _ => .fail)
    | .agg fs => (match K.td T with
      | .struct ts => okT (K.isSt T (.agg fs) && (match nth ts f with | some T' => szEq (K.sz T') (nthD .undef fs f).sz | none => false)) (retT s o (nthD .undef fs f))
      | _ => .fail)
    | _ => .fail)
  | .indexAddr T x i => idxAddrT K s o T (s.ev x) (s.ev i)
  | .index T x i => (match s.ev x, s.ev i, K.td T with
    | .pv (.arr n t) xs, .pv (.int _) i, .pure (.arr m t') => okT (Nat.beq n m && t.eqt t') (.chk (pIn i (pI n)) (retT s o (.pv t (pGet t.dflt xs i))))
    | .pv .str xs, .pv (.int _) i, .pure .str => .chk (pIn i (pLen (pBytes xs))) (retT s o (.pv (.int .u8) (pGet (pI 0) (pBytes xs) i)))
    | _, _, _ => .fail)
  | .extract x i => (match s.ev x with | .tup vs => okT (Nat.blt i (len vs)) (retT s o (nthD .undef vs i)) | _ => .fail)
  | .makeFunc (.func f) first cs => okT (match first.toList with | [] => true | _ => false) (retT s o (.clo f (cs.toList.map s.ev)))
  | .call c => (match c.callee with
    | .builtin b => builtinT K s o b c.argTypes.toList (c.args.toList.map s.ev)
    | .value f => call o (s.ev f) (c.args.toList.map s.ev) s
    | _ => .fail)
  | _ => .fail
def opsT (K : Kit) (call : Oper → AV → List AV → AS → Tree) (ops : Array Oper) : List Oper → AS → Tree
  | [], s => .leaf .normal s
  | o :: rest, s =>
    match o.guard with
    | none => (opT K call s o).seq (opsT K call ops rest)
    | some (j, want) => match (match nth ops.toList j with | some o => o.dst | none => none) with
      | none => .fail
      | some d => match s.rv (nthD .undef s.tm d) with
        | .lit b => (bif b == want then opT K call s o else skipG s o).seq (opsT K call ops rest)
        | .pv .bool b => .br b ((bif want then opT K call (s.put d (.lit true)) o else skipG (s.put d (.lit true)) o).seq (opsT K call ops rest))
                              ((bif want then skipG (s.put d (.lit false)) o else opT K call (s.put d (.lit false)) o).seq (opsT K call ops rest))
        | .tup [] => (skipG s o).seq (opsT K call ops rest)
        | _ => .fail
def clsOp (K : Kit) (o : Oper) : Nat :=
  match o.op with
  | .slice _ _ _ _ (some _) => 3
  | .move _ | .assign _ | .pick .. | .nilCheck _ | .unOp .. | .binOp .. | .fieldAddr .. | .indexAddr .. | .field .. | .index .. | .extract .. | .slice .. | .makeFunc .. => 0
  | .convert _ d _ => (match K.td d with | .pure (.int _) => 0 | _ => 3)
  | .call { callee := .builtin .len, argTypes := ts, .. } => (match ts.toList with | [T] => (match K.td T with | .map _ _ => 3 | _ => 0) | _ => 3)
  | .call { callee := .builtin .min, .. } | .call { callee := .builtin .max, .. } => 0
  | .call { callee := .value (.func f), .. } => bif K.pf f then 2 else 3
  | .load .. => 1
  | .alloc _ | .box .. | .buildSlice .. | .makeSlice .. => 2
  | _ => 3
def bindsAny (e : Edge) : Bool := match e.ground with | .textOnly _ => false | .gcOnly _ => false | _ => true
def needOf (o : Oper) : Nat := o.after.toList.foldr (fun e m => bif bindsAny e then Nat.lor m (Nat.pow 2 e.on) else m) 0
structure RO where
  k : Nat
  o : Oper
  need : Nat
  bit : Nat
  cls : Nat
def prepR (K : Kit) : Nat → List Oper → List RO
  | _, [] => []
  | k, o :: r => ⟨k, o, needOf o, Nat.pow 2 k, clsOp K o⟩ :: prepR K (Nat.succ k) r
def looksL (ops : Array Oper) (o : Oper) : List Nat :=
  List.append (o.op.operands.toList.filterMap fun | .tmp t => some t | _ => none)
    (match o.guard with | some (g, _) => (match nth ops.toList g with | some o => (match o.dst with | some d => [d] | none => []) | none => []) | none => [])
def sameD : Option Nat → Nat → Bool
  | some d, t => Nat.beq d t | none, _ => false
def okOp (ops : Array Oper) (l : List RO) (r : RO) : Bool :=
  (match r.o.op with | .select _ _ => false | .defer _ => false | _ => true) &&
  l.all fun x => Nat.beq x.k r.k || ((match x.o.dst with
    | some d => !(sameD r.o.dst d) && (!((looksL ops r.o).any (Nat.beq d)) || (!(Nat.beq (Nat.land r.need x.bit) 0) || !(Nat.beq (Nat.land x.need r.bit) 0)))
    | none => true))
def readyR (L : Nat) (r : RO) : Bool := Nat.beq (Nat.land L r.need) r.need
def pickR (f : RO → Bool) : List RO → Option (RO × List RO)
  | [] => none
  | r :: q => bif f r then some (r, q) else match pickR f q with | some (x, p) => some (x, r :: p) | none => none
def readysR (f : RO → Bool) : List RO → List (RO × List RO)
  | [] => []
  | r :: q => let l := (readysR f q).map fun x => (x.1, r :: x.2); bif f r then (r, q) :: l else l
def isFad : AV → Bool
  | .fad _ _ => true | _ => false
def hoistR (s : AS) (L : Nat) (all : List RO) (r : RO) : Bool :=
  readyR L r && (match r.cls with
    | 0 => true
    | 1 => (match r.o.op with | .load _ x => isFad (s.ev x) | _ => false) || all.all fun x => Nat.beq x.k r.k || !(Nat.beq (Nat.land x.need r.bit) 0) || Nat.ble x.cls 2
    | _ => false)
def execG (K : Kit) (call : Oper → AV → List AV → AS → Tree) (ops : Array Oper) (o : Oper) (s : AS) (next : AS → Tree) : Tree :=
  match o.guard with
  | none => (opT K call s o).seq next
  | some (j, want) => match (match nth ops.toList j with | some o => o.dst | none => none) with
    | none => .fail
    | some d => match s.rv (nthD .undef s.tm d) with
      | .lit b => (bif b == want then opT K call s o else skipG s o).seq next
      | .pv .bool b => .br b ((bif want then opT K call (s.put d (.lit true)) o else skipG (s.put d (.lit true)) o).seq next)
                            ((bif want then skipG (s.put d (.lit false)) o else opT K call (s.put d (.lit false)) o).seq next)
      | .tup [] => (skipG s o).seq next
      | _ => .fail
def ambT : List Tree → Tree
  | [] => .fail | [t] => t | t :: r => .amb t (ambT r)
def regT (K : Kit) (call : Oper → AV → List AV → AS → Tree) (ops : Array Oper) : Nat → Nat → List RO → AS → Tree
  | 0, _, rest, s => (match rest with | [] => .leaf .normal s | _ => .fail)
  | n + 1, L, rest, s => (match rest with
    | [] => .leaf .normal s
    | _ => (match pickR (hoistR s L rest) rest with
      | some (r, q) => execG K call ops r.o s (regT K call ops n (Nat.lor L r.bit) q)
      | none => ambT ((readysR (readyR L) rest).map fun x => execG K call ops x.1.o s (regT K call ops n (Nat.lor L x.1.bit) x.2))))
def regionT (K : Kit) (call : Oper → AV → List AV → AS → Tree) (ops : Array Oper) (s : AS) : Tree :=
  let l := prepR K 0 ops.toList
  okT (l.all (okOp ops l)) (regT K call ops (len l) 0 l s)
end Go.Xr
set_option linter.unusedVariables false
set_option linter.unusedSimpArgs false
namespace Go.Xr
open Go
def maxL : Nat := 140737488355328
def RepL {α : Type} (R : α → List Value → Prop) : List α → List Value → Prop
  | [], cs => cs = []
  | x :: xs, cs => ∃ c1 c2, cs = c1 ++ c2 ∧ R x c1 ∧ RepL R xs c2
def Reads (w : World) (b o : Nat) (cs : List Value) : Prop := ∀ j v, cs[j]? = some v → w.cell? ⟨b, o + j, none⟩ = some v
def RepC (w : World) (E : Bool → Nat → Prop) : (t : Ty) → t.T → List Value → Prop
  | .int k, x, cs => cs = [.int k x] ∧ IntKind.has k x
  | .bool, x, cs => cs = [.bool x]
  | .str, x, cs => ∃ s : ByteArray, cs = [.string s] ∧ x = s.data.toList.map (fun b => (b.toNat : Int)) ∧ s.size ≤ maxL
  | .unit, _, cs => cs = []
  | .pair a b, x, cs => ∃ c1 c2, cs = c1 ++ c2 ∧ RepC w E a (pFst x) c1 ∧ RepC w E b (pSnd x) c2
  | .st a, x, cs => RepC w E a x cs
  | .arr n a, x, cs => List.length x = n ∧ RepL (RepC w E a) x cs
  | .sl b a, x, cs => ∃ ad cap, cs = [.slice ad (List.length x) cap] ∧ List.length x ≤ cap ∧ List.length x ≤ maxL ∧
      (List.length x = 0 ∨ ∃ blk off cs', ad = some ⟨blk, off, none⟩ ∧ E b blk ∧ RepL (RepC w E a) x cs' ∧ Reads w blk off cs')
theorem RepL.len {α : Type} {R : α → List Value → Prop} {n : Nat} (hR : ∀ x cs, R x cs → cs.length = n) : ∀ (xs : List α) (cs : List Value), RepL R xs cs → cs.length = xs.length * n
  | [], cs, h => by cases h; simp
  | x :: xs, cs, ⟨c1, c2, e, h1, h2⟩ => by rw [e, List.length_append, hR x c1 h1, RepL.len hR xs c2 h2, List.length_cons, Nat.succ_mul, Nat.add_comm]
theorem RepC.len {w : World} {E : Bool → Nat → Prop} : ∀ (t : Ty) (x : t.T) (cs : List Value), RepC w E t x cs → cs.length = t.size
  | .int k, x, cs, h => by rw [h.1]; rfl
  | .bool, x, cs, h => by cases h; rfl
  | .str, x, cs, ⟨s, h, _⟩ => by rw [h]; rfl
  | .unit, x, cs, h => by cases h; rfl
  | .pair a b, x, cs, ⟨c1, c2, e, h1, h2⟩ => by rw [e, List.length_append, RepC.len a _ c1 h1, RepC.len b _ c2 h2]; rfl
  | .st a, x, cs, h => RepC.len a x cs h
  | .arr n a, x, cs, ⟨e, h⟩ => by rw [RepL.len (RepC.len a) x cs h, e]; rfl
  | .sl b a, x, cs, ⟨ad, cap, e, _⟩ => by rw [e]; rfl
theorem RepL.mono {α : Type} {R R' : α → List Value → Prop} (h : ∀ x cs, R x cs → R' x cs) : ∀ (xs : List α) (cs : List Value), RepL R xs cs → RepL R' xs cs
  | [], _, e => e
  | x :: xs, _, ⟨c1, c2, e, h1, h2⟩ => ⟨c1, c2, e, h x c1 h1, RepL.mono h xs c2 h2⟩
theorem Reads.of_block {w w' : World} {b o : Nat} {cs : List Value} (hb : w'.heap[b]? = w.heap[b]?) (h : Reads w b o cs) : Reads w' b o cs :=
  fun j v hj => (World.cell?_of_block (a := ⟨b, o + j, none⟩) hb).trans (h j v hj)
theorem RepC.mono {w w' : World} {E E' : Bool → Nat → Prop} (hE : ∀ b k, E b k → E' b k ∧ w'.heap[k]? = w.heap[k]?) : ∀ (t : Ty) (x : t.T) (cs : List Value), RepC w E t x cs → RepC w' E' t x cs
  | .int k, x, cs, h => h
  | .bool, x, cs, h => h
  | .str, x, cs, h => h
  | .unit, x, cs, h => h
  | .pair a b, x, cs, ⟨c1, c2, e, h1, h2⟩ => ⟨c1, c2, e, RepC.mono hE a _ c1 h1, RepC.mono hE b _ c2 h2⟩
  | .st a, x, cs, h => RepC.mono hE a x cs h
  | .arr n a, x, cs, ⟨e, h⟩ => ⟨e, RepL.mono (RepC.mono hE a) x cs h⟩
  | .sl b a, x, cs, ⟨ad, cap, e, hl, hm, h⟩ => ⟨ad, cap, e, hl, hm, h.imp id fun ⟨blk, off, cs', ha, he, hr, hd⟩ => ⟨blk, off, cs', ha, (hE b blk he).1, RepL.mono (RepC.mono hE a) x cs' hr, hd.of_block (hE b blk he).2⟩⟩
theorem RepL.one {α : Type} {R : α → List Value → Prop} (hR : ∀ x cs, R x cs → ∀ v ∈ cs, v.oneCell' = true) : ∀ (xs : List α) (cs : List Value), RepL R xs cs → ∀ v ∈ cs, v.oneCell' = true
  | [], _, e, v, hv => by cases e; cases hv
  | x :: xs, _, ⟨c1, c2, e, h1, h2⟩, v, hv => by
    rw [e] at hv
    rcases List.mem_append.1 hv with h | h
    · exact hR x c1 h1 v h
    · exact RepL.one hR xs c2 h2 v h
theorem RepC.one {w : World} {E : Bool → Nat → Prop} : ∀ (t : Ty) (x : t.T) (cs : List Value), RepC w E t x cs → ∀ v ∈ cs, v.oneCell' = true
  | .int k, x, cs, h, v, hv => by rw [h.1] at hv; simp at hv; subst hv; rfl
  | .bool, x, cs, h, v, hv => by cases h; simp at hv; subst hv; rfl
  | .str, x, cs, ⟨s, h, _⟩, v, hv => by rw [h] at hv; simp at hv; subst hv; rfl
  | .unit, x, cs, h, v, hv => by cases h; cases hv
  | .pair a b, x, cs, ⟨c1, c2, e, h1, h2⟩, v, hv => by
    rw [e] at hv
    rcases List.mem_append.1 hv with h | h
    · exact RepC.one a _ c1 h1 v h
    · exact RepC.one b _ c2 h2 v h
  | .st a, x, cs, h, v, hv => RepC.one a x cs h v hv
  | .arr n a, x, cs, ⟨_, h⟩, v, hv => RepL.one (RepC.one a) x cs h v hv
  | .sl b a, x, cs, ⟨ad, cap, e, _⟩, v, hv => by rw [e] at hv; simp at hv; subst hv; rfl
def IsV (agg : Bool) (cs : List Value) (v : Value) : Prop := if agg then v = .agg cs.toArray else cs = [v]
inductive BI where
  | var (blk : Nat) (off : List Stp → Option Nat) (arr : List Stp → Option (Nat × Nat))
  | buf (kd : BK) (t : Ty) (len : Nat) (at_ : Option (Nat × Nat × Nat))
def offT : (t : Ty) → Option Nat → List Stp → Option Nat
  | .pair a _, some 0, p => offT a none p
  | .pair a b, some (n + 1), p => (offT b (some n) p).map (a.size + ·)
  | _, none, [] => some 0
  | _, some 0, [] => some 0
  | .st a, none, .fld n :: p => offT a (some n) p
  | .st a, some 0, .fld n :: p => offT a (some n) p
  | .arr m a, none, .idx i :: p => if (0 : Int) ≤ i ∧ i < (m : Int) then (offT a none p).map (Int.toNat i * a.size + ·) else none
  | .arr m a, some 0, .idx i :: p => if (0 : Int) ≤ i ∧ i < (m : Int) then (offT a none p).map (Int.toNat i * a.size + ·) else none
  | _, _, _ => none
def offA : List Stp → AV → Option Nat
  | [], _ => some 0
  | s :: p, .pv t _ => offT t none (s :: p)
  | .fld n :: p, .agg fs => if n < fs.length then (offA p (nthD .undef fs n)).map (cszL (fs.take n) + ·) else none
  | _, _ => none
def arrA (p : List Stp) (v : AV) : Option (Nat × Nat) := match AV.getP p v with | .pv (.arr n t) _ => some (n, t.size) | _ => none
variable (w : World) (E : Bool → Nat → Prop) (I : Nat → Option BI)
def PtrAt (i : Nat) (p : List Stp) (u : Value) : Prop :=
  match I i with
  | none => ∃ q, u = .pointer q
  | some (.var blk off _) => ∃ o, off p = some o ∧ u = .pointer (some ⟨blk, o, none⟩)
  | some (.buf .mp _ _ _) => False
  | some (.buf (.lp _) _ _ _) => False
  | some (.buf .mr _ _ _) => False
  | some (.buf .it _ _ at_) => ∃ blk x y, at_ = some (blk, x, y) ∧ p = [] ∧ u = .pointer (some ⟨blk, 0, none⟩)
  | some (.buf .sl t n at_) => ∃ k r o, p = .idx k :: r ∧ offT t none r = some o ∧ ∃ blk base room, at_ = some (blk, base, room) ∧ (0 : Int) ≤ k ∧ k < (n : Int) ∧ u = .pointer (some ⟨blk, base + (Int.toNat k * t.size + o), none⟩)
def SlAt (i : Nat) (u : Value) : Prop :=
  match I i with
  | some (.buf .sl t n (some (blk, base, room))) => ∃ cap, u = .slice (some ⟨blk, base, none⟩) n cap ∧ n ≤ cap ∧ cap * t.size ≤ room
  | some (.buf .sl _ _ none) => ∃ ad, u = .slice ad 0 0
  | _ => ∃ x y z, u = .slice x y z
def Off0 (sz : Nat) (at_ : Option (Nat × Nat × Nat)) (ad : Option Addr) (cap : Nat) : Prop := match at_ with | some (blk, base, room) => ad = some ⟨blk, base, none⟩ ∧ cap * sz ≤ room | none => cap = 0
def SlrAt (i : Nat) (off len : Int) (u : Value) : Prop :=
  match I i with
  | some (.buf .sl t n at_) => 0 ≤ off ∧ 0 ≤ len ∧ off + len ≤ (n : Int) ∧ ∃ ad cap, u = .slice ad len.toNat cap ∧ len.toNat ≤ cap ∧ (len = 0 ∨ ∃ blk base room, at_ = some (blk, base, room) ∧ ad = some ⟨blk, base + off.toNat * t.size, none⟩) ∧ (off = 0 → Off0 t.size at_ ad cap)
  | _ => ∃ x y z, u = .slice x y z
def AslAt (i : Nat) (p : List Stp) (off len : Int) (u : Value) : Prop :=
  match I i with
  | some (.var blk offs arr) => ∃ n sz o, arr p = some (n, sz) ∧ offs p = some o ∧ 0 ≤ off ∧ 0 ≤ len ∧ off + len ≤ (n : Int) ∧ len.toNat ≤ maxL ∧ ∃ ad cap, u = .slice ad len.toNat cap ∧ len.toNat ≤ cap ∧ off.toNat + cap ≤ n ∧ (len = 0 ∨ ad = some ⟨blk, o + off.toNat * sz, none⟩)
  | _ => ∃ x y z, u = .slice x y z
def MpAt (i : Nat) (u : Value) : Prop :=
  match I i with
  | some (.buf .mp _ _ (some (blk, _, _))) => u = .map (some blk)
  | _ => ∃ r, u = .map r
def YlAt (i : Nat) (u : Value) : Prop :=
  match I i with
  | some (.buf (.lp _) _ _ (some (blk, _, _))) => u = .func (.yield blk) #[] #[]
  | _ => ∃ r, u = .func (.yield r) #[] #[]
def partC (w : World) (E : Bool → Nat → Prop) (v : AV) (R : Value → Prop) (c1 : List Value) : Prop :=
  match v with
  | .pv t x => RepC w E t x c1
  | .agg _ => False | .tup _ => False | .cst _ => False
  | _ => ∃ u, c1 = [u] ∧ u.oneCell' = true ∧ R u
mutual
def AVR : AV → Value → Prop
  | .undef, _ => True
  | .pv t x, u => ∃ cs, RepC w E t x cs ∧ IsV t.isAgg cs u
  | .lit b, u => u = .bool b
  | .nil .ptr, u => u = .pointer none
  | .nil .sl, u => u = .slice none 0 0
  | .nil .map, u => u = .map none
  | .nil .fn, u => u = .nilFunc
  | .ptr i p, u => PtrAt I i p u
  | .fad t x, u => ∃ b blk off cs, u = .pointer (some ⟨blk, off, none⟩) ∧ E b blk ∧ RepC w E t x cs ∧ Reads w blk off cs
  | .sl i, u => SlAt I i u
  | .slr i off len, u => SlrAt I i off len u
  | .asl i p off len, u => AslAt I i p off len u
  | .mp i, u => MpAt I i u
  | .yld i, u => YlAt I i u
  | .clo f cs, u => ∃ vs : List Value, u = .func (.func f) #[] vs.toArray ∧ AVRL cs vs
  | .agg fs, u => ∃ cs : List Value, u = .agg cs.toArray ∧ AVCL fs cs
  | .tup fs, u => ∃ vs : List Value, u = .tuple vs.toArray ∧ AVRL fs vs
  | .cst _, _ => False
def AVRL : List AV → List Value → Prop
  | [], vs => vs = []
  | v :: r, vs => ∃ u q, vs = u :: q ∧ AVR v u ∧ AVRL r q
def AVCL : List AV → List Value → Prop
  | [], cs => cs = []
  | v :: r, cs => ∃ c1 c2, cs = c1 ++ c2 ∧ partC w E v (fun u => AVR v u) c1 ∧ AVCL r c2
end
section
variable {w w' : World} {E E' : Bool → Nat → Prop} {I I' : Nat → Option BI}
theorem PtrAt.one {i : Nat} {p : List Stp} {u : Value} (k : PtrAt I i p u) : ∃ q, u = .pointer q := by
  unfold PtrAt at k
  split at k
  · exact k
  · obtain ⟨o, _, h⟩ := k; exact ⟨_, h⟩
  · exact k.elim
  · exact k.elim
  · exact k.elim
  · obtain ⟨_, _, _, _, _, h⟩ := k; exact ⟨_, h⟩
  · obtain ⟨_, _, _, _, _, _, _, _, _, _, _, h⟩ := k; exact ⟨_, h⟩
theorem SlAt.one {i : Nat} {u : Value} (k : SlAt I i u) : ∃ x y z, u = .slice x y z := by
  unfold SlAt at k
  split at k
  · obtain ⟨cap, h, _⟩ := k; exact ⟨_, _, _, h⟩
  · obtain ⟨ad, h⟩ := k; exact ⟨_, _, _, h⟩
  · exact k
theorem SlrAt.one {i : Nat} {off len : Int} {u : Value} (k : SlrAt I i off len u) : ∃ x y z, u = .slice x y z := by
  unfold SlrAt at k
  split at k
  · obtain ⟨_, _, _, ad, cap, h, _⟩ := k; exact ⟨_, _, _, h⟩
  · exact k
theorem AslAt.one {i : Nat} {p : List Stp} {off len : Int} {u : Value} (k : AslAt I i p off len u) : ∃ x y z, u = .slice x y z := by
  unfold AslAt at k
  split at k
  · obtain ⟨_, _, _, _, _, _, _, _, _, ad, cap, h, _⟩ := k; exact ⟨_, _, _, h⟩
  · exact k
theorem MpAt.one {i : Nat} {u : Value} (k : MpAt I i u) : ∃ r, u = .map r := by
  unfold MpAt at k
  split at k
  · exact ⟨_, k⟩
  · exact k
theorem MpAt.mono {i : Nat} {u : Value} (h : I' i = I i ∨ I' i = none) (k : MpAt I i u) : MpAt I' i u := by
  rcases h with h | h
  · unfold MpAt at *; rw [h]; exact k
  · have := k.one; unfold MpAt; rw [h]; exact this
theorem YlAt.one {i : Nat} {u : Value} (k : YlAt I i u) : ∃ r, u = .func (.yield r) #[] #[] := by
  unfold YlAt at k
  split at k
  · exact ⟨_, k⟩
  · exact k
theorem YlAt.mono {i : Nat} {u : Value} (h : I' i = I i ∨ I' i = none) (k : YlAt I i u) : YlAt I' i u := by
  rcases h with h | h
  · unfold YlAt at *; rw [h]; exact k
  · have := k.one; unfold YlAt; rw [h]; exact this
theorem PtrAt.mono {i : Nat} {p : List Stp} {u : Value} (h : I' i = I i ∨ I' i = none) (k : PtrAt I i p u) : PtrAt I' i p u := by
  rcases h with h | h
  · unfold PtrAt at *; rw [h]; exact k
  · have := k.one; unfold PtrAt; rw [h]; exact this
theorem SlAt.mono {i : Nat} {u : Value} (h : I' i = I i ∨ I' i = none) (k : SlAt I i u) : SlAt I' i u := by
  rcases h with h | h
  · unfold SlAt at *; rw [h]; exact k
  · have := k.one; unfold SlAt; rw [h]; exact this
theorem SlrAt.mono {i : Nat} {off len : Int} {u : Value} (h : I' i = I i ∨ I' i = none) (k : SlrAt I i off len u) : SlrAt I' i off len u := by
  rcases h with h | h
  · unfold SlrAt at *; rw [h]; exact k
  · have := k.one; unfold SlrAt; rw [h]; exact this
theorem AslAt.mono {i : Nat} {p : List Stp} {off len : Int} {u : Value} (h : I' i = I i ∨ I' i = none) (k : AslAt I i p off len u) : AslAt I' i p off len u := by
  rcases h with h | h
  · unfold AslAt at *; rw [h]; exact k
  · have := k.one; unfold AslAt; rw [h]; exact this
def AVC1 (w : World) (E : Bool → Nat → Prop) (I : Nat → Option BI) (v : AV) (c1 : List Value) : Prop := partC w E v (AVR w E I v) c1
theorem AVCL_nil {cs : List Value} : AVCL w E I [] cs ↔ cs = [] := by simp only [AVCL]
theorem AVCL_cons {v : AV} {r : List AV} {cs : List Value} : AVCL w E I (v :: r) cs ↔ ∃ c1 c2, cs = c1 ++ c2 ∧ AVC1 w E I v c1 ∧ AVCL w E I r c2 := by
  simp only [AVCL, AVC1]
theorem AVRL_nil {us : List Value} : AVRL w E I [] us ↔ us = [] := by simp only [AVRL]
theorem AVRL_cons {v : AV} {r : List AV} {us : List Value} : AVRL w E I (v :: r) us ↔ ∃ u q, us = u :: q ∧ AVR w E I v u ∧ AVRL w E I r q := by
  simp only [AVRL]
theorem AVC1.mono (hE : ∀ b k, E b k → E' b k ∧ w'.heap[k]? = w.heap[k]?) {v : AV} (hv : ∀ u, AVR w E I v u → AVR w' E' I' v u) {c : List Value} (h : AVC1 w E I v c) : AVC1 w' E' I' v c := by
  cases v <;> simp only [AVC1, partC] at h ⊢ <;> first
    | exact h.mono hE
    | exact h
    | exact h.elim
    | (obtain ⟨u, h3, h4, h5⟩ := h; exact ⟨u, h3, h4, hv u h5⟩)
mutual
theorem AVR.mono (hE : ∀ b k, E b k → E' b k ∧ w'.heap[k]? = w.heap[k]?) : ∀ (v : AV) (u : Value), (∀ i, v.names i = true → I' i = I i ∨ I' i = none) → AVR w E I v u → AVR w' E' I' v u
  | .undef, u, _, _ => by simp only [AVR]
  | .pv t x, u, _, h => by
    simp only [AVR] at h ⊢
    obtain ⟨cs, h1, h2⟩ := h
    exact ⟨cs, h1.mono hE, h2⟩
  | .lit b, u, _, h => by simp only [AVR] at h ⊢; exact h
  | .nil .ptr, u, _, h => by simp only [AVR] at h ⊢; exact h
  | .nil .sl, u, _, h => by simp only [AVR] at h ⊢; exact h
  | .nil .map, u, _, h => by simp only [AVR] at h ⊢; exact h
  | .nil .fn, u, _, h => by simp only [AVR] at h ⊢; exact h
  | .ptr i p, u, hi, h => by simp only [AVR] at h ⊢; exact h.mono (hi i (by simp [AV.names]))
  | .fad t x, u, _, h => by
    simp only [AVR] at h ⊢
    obtain ⟨b, blk, off, cs, h1, h2, h3, h4⟩ := h
    exact ⟨b, blk, off, cs, h1, (hE b blk h2).1, h3.mono hE, h4.of_block (hE b blk h2).2⟩
  | .sl i, u, hi, h => by simp only [AVR] at h ⊢; exact h.mono (hi i (by simp [AV.names]))
  | .slr i off len, u, hi, h => by simp only [AVR] at h ⊢; exact h.mono (hi i (by simp [AV.names]))
  | .asl i p off len, u, hi, h => by simp only [AVR] at h ⊢; exact h.mono (hi i (by simp [AV.names]))
  | .mp i, u, hi, h => by simp only [AVR] at h ⊢; exact h.mono (hi i (by simp [AV.names]))
  | .yld i, u, hi, h => by simp only [AVR] at h ⊢; exact h.mono (hi i (by simp [AV.names]))
  | .clo f cs, u, hi, h => by
    simp only [AVR] at h ⊢
    obtain ⟨vs, h1, h2⟩ := h
    exact ⟨vs, h1, AVRL.mono hE cs vs (fun i h => hi i (by simpa [AV.names] using h)) h2⟩
  | .agg fs, u, hi, h => by
    simp only [AVR] at h ⊢
    obtain ⟨cs, h1, h2⟩ := h
    exact ⟨cs, h1, AVCL.mono hE fs cs (fun i h => hi i (by simpa [AV.names] using h)) h2⟩
  | .tup fs, u, hi, h => by
    simp only [AVR] at h ⊢
    obtain ⟨vs, h1, h2⟩ := h
    exact ⟨vs, h1, AVRL.mono hE fs vs (fun i h => hi i (by simpa [AV.names] using h)) h2⟩
  | .cst n, u, _, h => by simp only [AVR] at h
termination_by v => SizeOf.sizeOf v
theorem AVRL.mono (hE : ∀ b k, E b k → E' b k ∧ w'.heap[k]? = w.heap[k]?) : ∀ (l : List AV) (us : List Value), (∀ i, namesL i l = true → I' i = I i ∨ I' i = none) → AVRL w E I l us → AVRL w' E' I' l us
  | [], us, _, h => AVRL_nil.2 (AVRL_nil.1 h)
  | v :: r, us, hi, h =>
    let ⟨u, q, e, h1, h2⟩ := AVRL_cons.1 h
    AVRL_cons.2 ⟨u, q, e, AVR.mono hE v u (fun i h => hi i (by simp [namesL, h])) h1, AVRL.mono hE r q (fun i h => hi i (by simp [namesL, h])) h2⟩
termination_by l => SizeOf.sizeOf l
theorem AVCL.mono (hE : ∀ b k, E b k → E' b k ∧ w'.heap[k]? = w.heap[k]?) : ∀ (l : List AV) (cs : List Value), (∀ i, namesL i l = true → I' i = I i ∨ I' i = none) → AVCL w E I l cs → AVCL w' E' I' l cs
  | [], cs, _, h => AVCL_nil.2 (AVCL_nil.1 h)
  | v :: r, cs, hi, h =>
    let ⟨c1, c2, e, h1, h2⟩ := AVCL_cons.1 h
    AVCL_cons.2 ⟨c1, c2, e, h1.mono hE (fun u hu => AVR.mono hE v u (fun i h => hi i (by simp [namesL, h])) hu), AVCL.mono hE r c2 (fun i h => hi i (by simp [namesL, h])) h2⟩
termination_by l => SizeOf.sizeOf l
end
end
end Go.Xr
namespace Go.Xr
open Go
structure LD where
  l : Nat
  fn : FuncId
  tmps : Array Value
  params : Array Tmp
  assign : Code
  body : Code
  defers : Nat
  pin : Obj := .deferred none
  lvl : Nat
def LD.at (d : LD) : Nat → Loop
  | 0 => { state := .ready, pending := none, fn := d.fn, tmps := d.tmps, params := d.params, assign := d.assign, body := d.body, defers := d.defers }
  | 1 => { state := .busy, pending := none, fn := d.fn, tmps := d.tmps, params := d.params, assign := d.assign, body := d.body, defers := d.defers }
  | 2 => { state := .done, pending := some .ret, fn := d.fn, tmps := d.tmps, params := d.params, assign := d.assign, body := d.body, defers := d.defers }
  | k + 3 => { state := .done, pending := some (.exit k), fn := d.fn, tmps := d.tmps, params := d.params, assign := d.assign, body := d.body, defers := d.defers }
structure Base where
  w0 : World
  own0 : Nat → Prop
  fz0 : Nat → Prop
  bo0 : Nat → Prop
  lp0 : Nat → Option LD
  mk0 : Nat → Prop
structure Cx where
  w : World
  fz : Nat → Prop
  bo : Nat → Prop
  ρ : Nat → Option (Nat × Nat)
  lp : Nat → Option LD
  mks : Nat → Prop
def Cx.E (c : Cx) (b : Bool) (k : Nat) : Prop := c.fz k ∨ (b = true ∧ c.bo k)
def cellsN : Option Obj → Option Nat | some (.cells arr _ _) => some arr.size | _ => none
def roomOf (w : World) (blk base : Nat) : Nat := match w.heap[blk]? with | some (.cells c _ _) => c.size - base | _ => 0
def boxI (w : World) (ρ : Option (Nat × Nat)) (rv : AV → AV) : Option Bx → Option BI
  | some (.var v) => ρ.map fun x => .var x.1 (fun p => offA p (rv v)) (fun p => arrA p (rv v))
  | some (.buf .sl t xs) => some (.buf .sl t (List.length xs) (ρ.map fun x => (x.1, x.2, roomOf w x.1 x.2)))
  | some (.buf .mp t _) => some (.buf .mp t 0 (ρ.map fun x => (x.1, 0, 0)))
  | some (.buf (.lp p) t _) => some (.buf (.lp 0) .unit 0 (ρ.map fun x => (x.1, 0, 0)))
  | some (.buf .it t _) => some (.buf .it .unit 0 (ρ.map fun x => (x.1, 0, 0)))
  | some (.buf .mr t _) => some (.buf .mp t 0 (ρ.map fun x => (x.1, 0, 0)))
  | _ => none
def Cx.I (c : Cx) (s : AS) (i : Nat) : Option BI := boxI c.w (c.ρ i) s.rv (s.box i)
def VarC (w : World) (E : Bool → Nat → Prop) (I : Nat → Option BI) (v : AV) (cs : List Value) : Prop :=
  match v with
  | .agg fs => AVCL w E I fs cs
  | .undef => ∃ u, cs = [u] ∧ u.oneCell' = true
  | v => AVC1 w E I v cs
def EntL (w : World) (E : Bool → Nat → Prop) (k v : Ty) : List (k.T × v.T) → List MapEntry → Prop
  | [], es => es = []
  | p :: ps, es => ∃ e r, es = e :: r ∧ (∃ cs, RepC w E k p.1 cs ∧ IsV k.isAgg cs e.key) ∧ (∃ cs, RepC w E v p.2 cs ∧ IsV v.isAgg cs e.val) ∧ EntL w E k v ps r
def MapC (w : World) (E : Bool → Nat → Prop) (blk : Nat) : (t : Ty) → PL t.T → Prop
  | .pair k v, xs => ∃ es clock, w.heap[blk]? = some (.map es clock) ∧ EntL w E k v xs es.toList ∧ List.Pairwise (fun p q : k.T × v.T => p.1 ≠ q.1) xs ∧ MapKept.Stamped es clock
  | _, _ => False
def BoxOK (c : Cx) (s : AS) (i : Nat) : Bx → Prop
  | .var v => ∃ blk cs T, c.ρ i = some (blk, 0) ∧ c.w.heap[blk]? = some (.cells cs.toArray T (0, 0)) ∧ VarC c.w c.E (c.I s) (s.rv v) cs
  | .buf .mp t xs => ∃ blk, c.ρ i = some (blk, 0) ∧ MapC c.w c.E blk t xs
  | .buf (.lp p) _ _ => ∃ d, c.lp i = some d ∧ c.ρ i = some (d.l, 0) ∧ c.w.heap[d.l]? = some (.loop (d.at p))
  | .buf .it _ _ => ∃ d, c.lp i = some d ∧ c.ρ i = some (d.l, 0) ∧ c.w.heap[d.l]? = some d.pin
  | .buf .mr t xs => ∃ d, c.lp i = some d ∧ c.ρ i = some (d.l, 0) ∧ c.w.heap[d.l]? = some d.pin ∧ MapC c.w c.E d.l t xs
  | .buf .sl t xs => List.length xs ≤ maxL ∧ ((c.ρ i = none ∧ List.length xs = 0) ∨ ∃ blk base arr T lo hi cs, c.ρ i = some (blk, base) ∧ c.w.heap[blk]? = some (.cells arr T (lo, hi)) ∧
      (arr.size ≤ lo ∨ hi = lo) ∧ RepL (RepC c.w c.E t) xs cs ∧ base + cs.length ≤ arr.size ∧ ∀ j v, cs[j]? = some v → arr[base + j]? = some v)
  | .cst _ => False
theorem EntL.mono {w w' : World} {E E' : Bool → Nat → Prop} {k v : Ty} (hE : ∀ b n, E b n → E' b n ∧ w'.heap[n]? = w.heap[n]?) : ∀ (ps : List (k.T × v.T)) (es : List MapEntry), EntL w E k v ps es → EntL w' E' k v ps es
  | [], _, h => h
  | p :: ps, _, ⟨e, r, rfl, ⟨c1, h1, h2⟩, ⟨c2, h3, h4⟩, h5⟩ => ⟨e, r, rfl, ⟨c1, h1.mono hE, h2⟩, ⟨c2, h3.mono hE, h4⟩, EntL.mono hE ps r h5⟩
theorem EntL.imp {w w' : World} {E E' : Bool → Nat → Prop} {k v : Ty} (hk : ∀ x cs, RepC w E k x cs → RepC w' E' k x cs) (hv : ∀ x cs, RepC w E v x cs → RepC w' E' v x cs) : ∀ (ps : List (k.T × v.T)) (es : List MapEntry), EntL w E k v ps es → EntL w' E' k v ps es
  | [], _, h => h
  | p :: ps, _, ⟨e, r, rfl, ⟨c1, h1, h2⟩, ⟨c2, h3, h4⟩, h5⟩ => ⟨e, r, rfl, ⟨c1, hk _ _ h1, h2⟩, ⟨c2, hv _ _ h3, h4⟩, EntL.imp hk hv ps r h5⟩
theorem MapC.imp {w w' : World} {E E' : Bool → Nat → Prop} {blk : Nat} (hb : w'.heap[blk]? = w.heap[blk]?) : ∀ {t : Ty} {xs : PL t.T}, (∀ k v, t = .pair k v → (∀ x cs, RepC w E k x cs → RepC w' E' k x cs) ∧ ∀ x cs, RepC w E v x cs → RepC w' E' v x cs) → MapC w E blk t xs → MapC w' E' blk t xs
  | .pair k v, xs, hi, ⟨es, cl, h1, h2, h3⟩ => ⟨es, cl, hb.trans h1, h2.imp (hi k v rfl).1 (hi k v rfl).2, h3⟩
  | .int _, _, _, h | .bool, _, _, h | .str, _, _, h | .unit, _, _, h | .st _, _, _, h | .arr _ _, _, _, h | .sl _ _, _, _, h => h.elim
theorem MapC.mono {w w' : World} {E E' : Bool → Nat → Prop} {blk : Nat} (hE : ∀ b n, E b n → E' b n ∧ w'.heap[n]? = w.heap[n]?) (hb : w'.heap[blk]? = w.heap[blk]?) : ∀ {t : Ty} {xs : PL t.T}, MapC w E blk t xs → MapC w' E' blk t xs
  | .pair k v, xs, ⟨es, cl, h1, h2, h3⟩ => ⟨es, cl, hb.trans h1, h2.mono hE, h3⟩
  | .int _, _, h | .bool, _, h | .str, _, h | .unit, _, h | .st _, _, h | .arr _ _, _, h | .sl _ _, _, h => h.elim
theorem BoxOK.buf_mono {c c' : Cx} {s s' : AS} {i j : Nat} {kd : BK} {t : Ty} {xs : PL t.T} (hρ : c'.ρ j = c.ρ i) (hw : ∀ x, c.ρ i = some x → c'.w.heap[x.1]? = c.w.heap[x.1]?) (hE : ∀ b k, c.E b k → c'.E b k ∧ c'.w.heap[k]? = c.w.heap[k]?) (hlp : kd.free = false → c'.lp j = c.lp i)
    (h : BoxOK c s i (.buf kd t xs)) : BoxOK c' s' j (.buf kd t xs) := by
  cases kd with
  | lp p =>
    obtain ⟨d, h1, h2, h3⟩ := h
    exact ⟨d, (hlp rfl).trans h1, hρ.trans h2, (hw _ h2).trans h3⟩
  | it =>
    obtain ⟨d, h1, h2, h3⟩ := h
    exact ⟨d, (hlp rfl).trans h1, hρ.trans h2, (hw _ h2).trans h3⟩
  | mr =>
    obtain ⟨d, h1, h2, h3, h4⟩ := h
    exact ⟨d, (hlp rfl).trans h1, hρ.trans h2, (hw _ h2).trans h3, h4.mono hE (hw _ h2)⟩
  | mp =>
    obtain ⟨blk, h1, h2⟩ := h
    exact ⟨blk, hρ.trans h1, h2.mono hE (hw _ h1)⟩
  | sl =>
    obtain ⟨hm, hbx⟩ := h
    refine ⟨hm, ?_⟩
    rcases hbx with ⟨h1, h2⟩ | ⟨blk', base', arr, T, lo, hi, cs, h1, h2, h3, h4, h5, h6⟩
    · exact .inl ⟨hρ.trans h1, h2⟩
    · exact .inr ⟨blk', base', arr, T, lo, hi, cs, hρ.trans h1, (hw _ h1).trans h2, h3, h4.mono (fun x cs hx => hx.mono hE), h5, h6⟩
def UpOK (w : World) (E : Bool → Nat → Prop) (I : Nat → Option BI) (rv : AV → AV) : List (List AV) → List (Array Value) → Prop
  | [], us => us = []
  | l :: r, us => ∃ u q, us = u :: q ∧ (∀ k v, nth l k = some v → k < u.size ∧ AVR w E I (rv v) (u.getD k undef)) ∧ UpOK w E I rv r q
def Marks (c : Cx) (ds : List Deferred) : Prop := ∃ rs : List Nat, rs.Nodup ∧ ds = rs.map (fun r => { target := .collected r, args := #[] }) ∧ ∀ r ∈ rs, c.mks r
structure St (c : Cx) (us : List (Array Value)) (s : AS) (a : Act) : Prop where
  tm : ∀ k v, nth s.tm k = some v → k < a.tmps.size ∧ AVR c.w c.E (c.I s) (s.rv v) (a.tmps.getD k undef)
  df : Marks c a.defers
  up : UpOK c.w c.E (c.I s) s.rv s.up us
  bx : ∀ i b, s.box i = some b → BoxOK c s i b
  inj : ∀ i j x y, s.box i ≠ none → s.box j ≠ none → c.ρ i = some x → c.ρ j = some y → x.1 = y.1 → i = j
  own : ∀ i x, s.box i ≠ none → c.ρ i = some x → x.1 < c.w.heap.size ∧ ¬ c.fz x.1 ∧ ¬ c.bo x.1
  lt : ∀ k, c.fz k ∨ c.bo k → k < c.w.heap.size
  mks : ∀ r, c.mks r → c.w.heap[r]? = some (.deferred (some [])) ∧ ¬ c.fz r ∧ ¬ c.bo r ∧ ∀ i x, s.box i ≠ none → c.ρ i = some x → x.1 ≠ r
  lv : ∀ i d, c.lp i = some d → i < loopB + us.length
structure Fr (b : Base) (c : Cx) (s : AS) : Prop where
  os : c.w.os = b.w0.os
  tape : c.w.tape = b.w0.tape
  output : c.w.output = b.w0.output
  size : b.w0.heap.size ≤ c.w.heap.size
  block : ∀ k, k < b.w0.heap.size → ¬ b.own0 k → c.w.heap[k]? = b.w0.heap[k]?
  own : ∀ i x, s.box i ≠ none → c.ρ i = some x → b.own0 x.1 ∨ b.w0.heap.size ≤ x.1
  fz : ∀ k, c.fz k → b.fz0 k ∨ b.own0 k ∨ b.w0.heap.size ≤ k
  fz' : ∀ k, b.fz0 k → c.fz k
  bo : ∀ k, c.bo k ↔ b.bo0 k
  lp : c.lp = b.lp0
  mks : ∀ r, b.mk0 r → c.mks r
  mks' : ∀ r, c.mks r → b.mk0 r ∨ b.w0.heap.size ≤ r
  cs : ∀ k, k < b.w0.heap.size → cellsN c.w.heap[k]? = cellsN b.w0.heap[k]?
def Tree.sat : Tree → (Ex → AS → Prop) → Prop
  | .leaf e s, Q => Q e s
  | .chk b k, Q => b = true ∧ k.sat Q
  | .br b x y, Q => (b = true → x.sat Q) ∧ (b = false → y.sat Q)
  | .amb x y, Q => x.sat Q ∧ y.sat Q
  | .bnd D _ m k, Q => ∃ d : D, m = some d ∧ (k d).sat Q
  | .cases A B _ _ x k k', Q => (∀ d : A, x = .inl d → (k d).sat Q) ∧ (∀ d : B, x = .inr d → (k' d).sat Q)
  | .any D _ p k, Q => ∀ d : D, p d → (k d).sat Q
  | .fail, _ => False
theorem Tree.sat_mono {Q Q' : Ex → AS → Prop} (h : ∀ e s, Q e s → Q' e s) : ∀ t : Tree, t.sat Q → t.sat Q'
  | .leaf e s, k => h e s k
  | .chk b t, k => ⟨k.1, sat_mono h t k.2⟩
  | .br b x y, k => ⟨fun e => sat_mono h x (k.1 e), fun e => sat_mono h y (k.2 e)⟩
  | .amb x y, k => ⟨sat_mono h x k.1, sat_mono h y k.2⟩
  | .bnd D _ m f, ⟨d, e, k⟩ => ⟨d, e, sat_mono h (f d) k⟩
  | .cases A B _ _ x f f', k => ⟨fun d e => sat_mono h (f d) (k.1 d e), fun d e => sat_mono h (f' d) (k.2 d e)⟩
  | .any D _ p f, k => fun d e => sat_mono h (f d) (k d e)
  | .fail, k => k
theorem Tree.sat_bind {Q : Ex → AS → Prop} {f : Ex → AS → Tree} : ∀ t : Tree, (t.bind f).sat Q → t.sat fun e s => (f e s).sat Q
  | .leaf e s, k => k
  | .chk b t, k => ⟨k.1, sat_bind t k.2⟩
  | .br b x y, k => ⟨fun e => sat_bind x (k.1 e), fun e => sat_bind y (k.2 e)⟩
  | .amb x y, k => ⟨sat_bind x k.1, sat_bind y k.2⟩
  | .bnd D _ m g, ⟨d, e, k⟩ => ⟨d, e, sat_bind (g d) k⟩
  | .cases A B _ _ x g g', k => ⟨fun d e => sat_bind (g d) (k.1 d e), fun d e => sat_bind (g' d) (k.2 d e)⟩
  | .any D _ p g, k => fun d e => sat_bind (g d) (k d e)
  | .fail, k => k
theorem Tree.run_sat {α : Type} {f : Ex → AS → PO α} {r : α} : ∀ t : Tree, t.run f = some r → t.sat fun e s => f e s = some r
  | .leaf e s, k => k
  | .chk b t, k => by
    cases b with
    | true => exact ⟨rfl, run_sat t (by simpa [Tree.run, pIf] using k)⟩
    | false => simp [Tree.run, pIf, pOpt] at k
  | .br b x y, k => by
    cases b with
    | true => exact ⟨fun _ => run_sat x (by simpa [Tree.run, pIf] using k), fun e => (by cases e)⟩
    | false => exact ⟨fun e => (by cases e), fun _ => run_sat y (by simpa [Tree.run, pIf] using k)⟩
  | .amb x y, k => by
    simp only [Tree.run, pAmb] at k
    split at k
    · rename_i e
      exact ⟨run_sat x k, run_sat y (by rw [← e]; exact k)⟩
    · cases k
  | .bnd D _ m g, k => by
    simp only [Tree.run, pBind] at k
    cases m with
    | none => simp at k
    | some d => exact ⟨d, rfl, run_sat (g d) (by simpa using k)⟩
  | .cases A B _ _ x g g', k => by
    simp only [Tree.run, pCase] at k
    cases x with
    | inl d => exact ⟨fun d' e => (by cases e; exact run_sat (g d) k), fun d' e => (by cases e)⟩
    | inr d => exact ⟨fun d' e => (by cases e), fun d' e => (by cases e; exact run_sat (g' d) k)⟩
  | .any D _ p g, k => by
    simp only [Tree.run] at k
    exact fun d hd => run_sat (g d) (pAny_some k hd)
  | .fail, k => by simp [Tree.run, pOpt] at k
theorem sat_ok {b : Bool} {t : Tree} {Q : Ex → AS → Prop} (h : (okT b t).sat Q) : b = true ∧ t.sat Q := by
  cases b with
  | true => exact ⟨rfl, h⟩
  | false => exact h.elim
theorem nth_set {α : Type} : ∀ (l : List α) (d k : Nat) (x : α), nth (l.set d x) k = if d = k then (nth l k).map fun _ => x else nth l k
  | [], d, k, x => by simp [nth]
  | y :: r, 0, 0, x => by simp [nth]
  | y :: r, 0, k + 1, x => by simp [nth]
  | y :: r, d + 1, 0, x => by simp [nth]
  | y :: r, d + 1, k + 1, x => by simp [nth, nth_set r d k x]
theorem nthD_eq {α : Type} (d : α) : ∀ (l : List α) (k : Nat), nthD d l k = (nth l k).getD d
  | [], k => rfl
  | x :: r, 0 => rfl
  | x :: r, k + 1 => nthD_eq d r k
theorem AVR.ne_cst {w : World} {E : Bool → Nat → Prop} {I : Nat → Option BI} {n : Nat} {u : Value} (h : AVR w E I (.cst n) u) : False := by simp only [AVR] at h
theorem AS.rv_of {s : AS} {w : World} {E : Bool → Nat → Prop} {I : Nat → Option BI} {v : AV} {u : Value} (h : AVR w E I v u) : s.rv v = v := by
  cases v <;> first | rfl | exact h.ne_cst.elim
theorem roomOf_cells {w w' : World} {blk base : Nat} (h : cellsN w'.heap[blk]? = cellsN w.heap[blk]?) : roomOf w' blk base = roomOf w blk base := by
  have key : ∀ w : World, roomOf w blk base = (match cellsN w.heap[blk]? with | some n => n - base | none => 0) := by
    intro w
    unfold roomOf cellsN
    cases w.heap[blk]? with
    | none => rfl
    | some o => cases o <;> rfl
  rw [key, key, h]
section
variable {c : Cx} {us : List (Array Value)} {s : AS} {a : Act}
theorem I_put {d : Nat} {v : AV} : c.I (s.put d v) = c.I s := rfl
theorem St.mksOf (h : St c us s a) {s' : AS} (hsub : ∀ i, s'.box i ≠ none → s.box i ≠ none) : ∀ r, c.mks r → c.w.heap[r]? = some (.deferred (some [])) ∧ ¬ c.fz r ∧ ¬ c.bo r ∧ ∀ i x, s'.box i ≠ none → c.ρ i = some x → x.1 ≠ r :=
  fun r hr => ⟨(h.mks r hr).1, (h.mks r hr).2.1, (h.mks r hr).2.2.1, fun i x hi hx => (h.mks r hr).2.2.2 i x (hsub i hi) hx⟩
theorem St.put (h : St c us s a) {v : AV} {u : Value} (hv : AVR c.w c.E (c.I s) v u) (d : Nat) : St c us (s.put d v) (a.put (some d) u) where
  tm := fun k x hx => by
    have hx' : nth (s.tm.set d v) k = some x := hx
    rw [nth_set] at hx'
    simp only [Act.put, Array.size_setIfInBounds]
    split at hx'
    · rename_i e
      subst e
      cases hn : nth s.tm d with
      | none => simp [hn] at hx'
      | some y =>
        simp [hn] at hx'
        subst hx'
        obtain ⟨hlt, _⟩ := h.tm d y hn
        refine ⟨hlt, ?_⟩
        rw [show (s.put d v).rv v = v from (AS.rv_of (s := s.put d v) hv)]
        simpa [Array.getD, hlt, I_put] using hv
    · rename_i hne
      obtain ⟨hlt, hr⟩ := h.tm k x hx'
      refine ⟨hlt, ?_⟩
      have : (a.tmps.setIfInBounds d u).getD k undef = a.tmps.getD k undef := by
        simp [Array.getD, Array.getElem_setIfInBounds, hlt, hne]
      rw [this]
      exact hr
  df := h.df
  up := h.up
  bx := h.bx
  inj := h.inj
  own := h.own
  lt := h.lt
  mks := h.mks
  lv := h.lv
theorem Fr.put {b : Base} (h : Fr b c s) (d : Nat) (v : AV) : Fr b c (s.put d v) := ⟨h.os, h.tape, h.output, h.size, h.block, h.own, h.fz, h.fz', h.bo, h.lp, h.mks, h.mks', h.cs⟩
def AS.putO (s : AS) (d : Option Nat) (v : AV) : AS := match d with | some d => s.put d v | none => s
theorem St.putO (h : St c us s a) {v : AV} {u : Value} (hv : AVR c.w c.E (c.I s) v u) (d : Option Nat) : St c us (s.putO d v) (a.put d u) := by
  cases d with
  | none => exact h
  | some d => exact h.put hv d
theorem Fr.putO {b : Base} (h : Fr b c s) (d : Option Nat) (v : AV) : Fr b c (s.putO d v) := by
  cases d with
  | none => exact h
  | some d => exact h.put d v
theorem retT_eq {s : AS} {o : Oper} {v : AV} : retT s o v = .leaf .normal (s.putO o.dst v) := rfl
theorem skipG_eq {s : AS} {o : Oper} : skipG s o = .leaf .normal (s.putO o.dst (.tup [])) := rfl
theorem skipT_eq {s : AS} {o : Oper} : skipT s o = .leaf .normal (s.putO o.dst .undef) := rfl
theorem inK_has {k : IntKind} {n : Int} (h : inK k n = true) : IntKind.has k n := by
  simp [inK] at h; exact h
theorem St.ev (h : St c us s a) (x : Operand) : AVR c.w c.E (c.I s) (s.ev x) (a.eval x) := by
  cases x with
  | tmp t =>
    simp only [AS.ev, Act.eval, nthD_eq]
    cases hn : nth s.tm t with
    | none => simp only [Option.getD_none, AS.rv, AVR]
    | some v => simpa using (h.tm t v hn).2
  | const v =>
    simp only [Act.eval]
    cases v with
    | bool b => simp only [AS.ev, AVR]
    | int k n =>
      simp only [AS.ev]
      cases hk : inK k n with
      | true => simp only [cond_true, AVR]; exact ⟨_, ⟨rfl, inK_has hk⟩, rfl⟩
      | false => simp only [cond_false, AVR]
    | string b =>
      simp only [AS.ev]
      cases hk : Nat.ble b.size 140737488355328 with
      | true => simp only [cond_true, AVR]; exact ⟨_, ⟨b, rfl, rfl, Nat.le_of_ble_eq_true hk⟩, rfl⟩
      | false => simp only [cond_false, AVR]
    | pointer p => cases p <;> simp only [AS.ev, AVR]
    | slice p l n =>
      cases p with
      | some _ => simp only [AS.ev, AVR]
      | none =>
        cases l with
        | succ _ => simp only [AS.ev, AVR]
        | zero => cases n <;> simp only [AS.ev, AVR]
    | map r => cases r <;> simp only [AS.ev, AVR]
    | nilFunc => simp only [AS.ev, AVR]
    | _ => simp only [AS.ev, AVR]
  | global g => simp only [AS.ev, AVR]
  | func f => simp only [AS.ev, Act.eval, AVR]; exact ⟨[], rfl, AVRL_nil.2 rfl⟩
end
end Go.Xr
namespace Go.Xr
open Go
def zeroB : Ty → List Value → Option (List Value)
  | .int k, .int k' n :: r => bif keq k k' && decide (n = 0) then some r else none
  | .bool, .bool b :: r => bif b then none else some r
  | .str, .string s :: r => bif Nat.beq s.size 0 then some r else none
  | .unit, r => some r
  | .pair a b, r => match zeroB a r with | some r => zeroB b r | none => none
  | .st a, r => zeroB a r
  | .arr n a, r => rep n (zeroB a) r
  | .sl _ _, .slice none 0 0 :: r => some r
  | _, _ => none
where rep : Nat → (List Value → Option (List Value)) → List Value → Option (List Value)
  | 0, _, r => some r
  | n + 1, f, r => match f r with | some r => rep n f r | none => none
def oneB (P : Program) (m : TypeId ⊕ (List Field × Nat)) (R : TypeId → Bool) : Bool :=
  match m with
  | .inl T => R T
  | .inr ([f], off) => Nat.beq f.offset off && !(f.name == "_") && R f.type
  | _ => false
def infoB (P : Program) (T : TypeId) (t : Ty) : Bool :=
  match P.info? T with
  | some i => Nat.beq i.size t.size && Nat.blt 0 t.size && Nat.ble i.bytes 16384 && (match i.zero with | some z => (match zeroB t z.cells.toList with | some [] => (match z with | .agg _ => t.isAgg | _ => !t.isAgg) | _ => false) | none => false)
  | none => false
def tyB (P : Program) : Ty → TypeId ⊕ (List Field × Nat) → Bool
  | .int k, m => oneB P m fun T => (match P.underlying T with | some (.int k') => keq k k' | _ => false) && infoB P T (.int k)
  | .bool, m => oneB P m fun T => (match P.underlying T with | some .bool => true | _ => false) && infoB P T .bool
  | .str, m => oneB P m fun T => (match P.underlying T with | some .string => true | _ => false) && infoB P T .str
  | .unit, .inr ([], _) => true
  | .unit, _ => false
  | .pair a b, .inr (f :: fs, off) => Nat.beq f.offset off && !(f.name == "_") && tyB P a (.inl f.type) && tyB P b (.inr (fs, Nat.add off a.size))
  | .pair _ _, _ => false
  | .st a, m => oneB P m fun T => (match P.underlying T with | some (.struct fs) => tyB P a (.inr (fs.toList, 0)) | _ => false) && infoB P T (.st a) && !P.stoodInHeld T && !P.eqGuardType P.depth T
  | .arr n a, m => oneB P m fun T => (match P.underlying T with | some (.array n' e) => Nat.beq n n' && tyB P a (.inl e) | _ => false) && infoB P T (.arr n a) && !P.eqGuardType P.depth T
  | .sl b a, m => oneB P m fun T => (match P.underlying T with | some (.slice e) => tyB P a (.inl e) && Nat.blt 0 (P.bytesOf e) | _ => false) && infoB P T (.sl b a)
def zerosB (K : Kit) : List TypeId → List Value → Bool
  | [], [] => true
  | [], _ :: _ => false
  | T :: fs, cs => (match K.td T, cs with
    | .pure t, cs => (match zeroB t cs with | some r => zerosB K fs r | none => false)
    | .slice _, .slice none 0 0 :: r => zerosB K fs r
    | .ptr _, .pointer none :: r => zerosB K fs r
    | .map _ _, .map none :: r => zerosB K fs r
    | .fn, .nilFunc :: r => zerosB K fs r
    | _, _ => false)
def oneCellB (P : Program) (T : TypeId) (z : Value → Bool) : Bool :=
  match P.info? T with | some i => Nat.beq i.size 1 && (match i.zero with | some v => z v | none => false) | none => false
def fieldsB (P : Program) (K : Kit) : List Field → List TypeId → Nat → Bool
  | [], [], _ => true
  | f :: r, T :: q, off => Nat.beq f.offset off && Nat.beq f.type T && Nat.blt 0 (K.sz1 T) && (match P.info? T with | some i => Nat.beq i.size (K.sz1 T) | none => false) && fieldsB P K r q (Nat.add off (K.sz1 T))
  | _, _, _ => false
def Ty.deep : Ty → Nat
  | .pair a b => max (a.deep + 1) b.deep | .st a => a.deep + 1 | .arr _ a => a.deep + 1 | .sl _ a => a.deep + 1 | _ => 1
def tdB (P : Program) (K : Kit) (T : TypeId) : Bool :=
  match K.td T with
  | .pure t => tyB P t (.inl T) && Nat.ble t.deep 10000
  | .slice e => (match P.underlying T with | some (.slice e') => Nat.beq e e' | _ => false) && oneCellB P T (fun v => match v with | .slice none 0 0 => true | _ => false) && (match K.td e with | .pure t => tyB P (.sl false t) (.inl T) | _ => true)
  | .ptr e => (match P.underlying T with | some (.pointer e') => Nat.beq e e' | _ => false) && oneCellB P T (fun v => match v with | .pointer none => true | _ => false)
  | .map k e => (match P.underlying T with | some (.map k' e') => Nat.beq k k' && Nat.beq e e' | _ => false) && oneCellB P T (fun v => match v with | .map none => true | _ => false)
  | .fn => (match P.underlying T with | some (.func _ _ _) => true | _ => false) && oneCellB P T (fun v => match v with | .nilFunc => true | _ => false)
  | .struct fs => (match P.underlying T with | some (.struct fields) => fieldsB P K fields.toList fs 0 | _ => false) && (match P.info? T with | some i => Nat.beq i.size (fs.foldr (fun T n => Nat.add (K.sz1 T) n) 0) && (match i.zero with | some (.agg z) => zerosB K fs z.toList | _ => false) | none => false)
  | .other => true
structure KitOK (P : Program) (K : Kit) : Prop where
  td : ∀ T, tdB P K T = true
  fn : ∀ f n res code, K.fn f = some (n, res, code) → ∃ fn, P.funcs[f]? = some fn ∧ fn.ntmps = n ∧ fn.results.toList = res ∧ fn.body = some code ∧ (fn.name == "runtime.NumGoroutine") = false
  mixed : P.follows .mixedOrders = true
theorem keq_eq {k k' : IntKind} (h : keq k k' = true) : k = k' := by
  cases k <;> cases k' <;> first | rfl | (simp [keq, kidx] at h)
theorem Ty.eqt_eq : ∀ {t u : Ty}, t.eqt u = true → t = u
  | .int k, .int k', h => by rw [keq_eq (k := k) (k' := k') (by simpa [Ty.eqt] using h)]
  | .bool, .bool, _ => rfl
  | .str, .str, _ => rfl
  | .unit, .unit, _ => rfl
  | .pair a b, .pair c d, h => by
    simp only [Ty.eqt, Bool.and_eq_true] at h
    rw [Ty.eqt_eq h.1, Ty.eqt_eq h.2]
  | .st a, .st b, h => by rw [Ty.eqt_eq (t := a) (u := b) (by simpa [Ty.eqt] using h)]
  | .arr n a, .arr m b, h => by
    simp only [Ty.eqt, Bool.and_eq_true] at h
    rw [Nat.eq_of_beq_eq_true h.1, Ty.eqt_eq h.2]
  | .sl x a, .sl y b, h => by
    simp only [Ty.eqt, Bool.and_eq_true, beq_iff_eq] at h
    rw [h.1, Ty.eqt_eq h.2]
  | .int _, .bool, h | .int _, .str, h | .int _, .unit, h | .int _, .pair _ _, h | .int _, .st _, h | .int _, .arr _ _, h | .int _, .sl _ _, h => by simp [Ty.eqt] at h
  | .bool, .int _, h | .bool, .str, h | .bool, .unit, h | .bool, .pair _ _, h | .bool, .st _, h | .bool, .arr _ _, h | .bool, .sl _ _, h => by simp [Ty.eqt] at h
  | .str, .int _, h | .str, .bool, h | .str, .unit, h | .str, .pair _ _, h | .str, .st _, h | .str, .arr _ _, h | .str, .sl _ _, h => by simp [Ty.eqt] at h
  | .unit, .int _, h | .unit, .bool, h | .unit, .str, h | .unit, .pair _ _, h | .unit, .st _, h | .unit, .arr _ _, h | .unit, .sl _ _, h => by simp [Ty.eqt] at h
  | .pair _ _, .int _, h | .pair _ _, .bool, h | .pair _ _, .str, h | .pair _ _, .unit, h | .pair _ _, .st _, h | .pair _ _, .arr _ _, h | .pair _ _, .sl _ _, h => by simp [Ty.eqt] at h
  | .st _, .int _, h | .st _, .bool, h | .st _, .str, h | .st _, .unit, h | .st _, .pair _ _, h | .st _, .arr _ _, h | .st _, .sl _ _, h => by simp [Ty.eqt] at h
  | .arr _ _, .int _, h | .arr _ _, .bool, h | .arr _ _, .str, h | .arr _ _, .unit, h | .arr _ _, .pair _ _, h | .arr _ _, .st _, h | .arr _ _, .sl _ _, h => by simp [Ty.eqt] at h
  | .sl _ _, .int _, h | .sl _ _, .bool, h | .sl _ _, .str, h | .sl _ _, .unit, h | .sl _ _, .pair _ _, h | .sl _ _, .st _, h | .sl _ _, .arr _ _, h => by simp [Ty.eqt] at h
section
variable {P : Program} {K : Kit} {T : TypeId}
theorem infoB_spec {t : Ty} (h : infoB P T t = true) : ∃ i z, P.info? T = some i ∧ i.size = t.size ∧ 0 < t.size ∧ i.bytes ≤ 16384 ∧ i.zero = some z ∧ zeroB t z.cells.toList = some [] ∧ (t.isAgg = true → ∃ cs, z = .agg cs) ∧ (t.isAgg = false → z.cells = #[z]) := by
  unfold infoB at h
  split at h
  · rename_i i hi
    simp only [Bool.and_eq_true] at h
    obtain ⟨⟨⟨h1, h2⟩, h3⟩, h4⟩ := h
    split at h4
    · rename_i z hz
      split at h4
      · rename_i hzb
        refine ⟨i, z, hi, Nat.eq_of_beq_eq_true h1, Nat.le_of_ble_eq_true h2, Nat.le_of_ble_eq_true h3, hz, hzb, ?_, ?_⟩
        · intro ha
          cases z <;> simp_all
        · intro ha
          cases z <;> simp_all [Value.cells]
      · cases h4
    · cases h4
  · cases h
theorem tyB_info {t : Ty} (h : tyB P t (.inl T) = true) : infoB P T t = true := by
  cases t <;> simp [tyB, oneB] at h <;> simp_all
theorem tyB_int {k : IntKind} (h : tyB P (.int k) (.inl T) = true) : P.underlying T = some (.int k) := by
  simp only [tyB, oneB, Bool.and_eq_true] at h
  obtain ⟨h1, _⟩ := h
  split at h1
  · rename_i k' hu; rw [hu, keq_eq h1]
  · cases h1
theorem tyB_bool (h : tyB P .bool (.inl T) = true) : P.underlying T = some .bool := by
  simp only [tyB, oneB, Bool.and_eq_true] at h
  obtain ⟨h1, _⟩ := h
  split at h1
  · assumption
  · cases h1
theorem tyB_str (h : tyB P .str (.inl T) = true) : P.underlying T = some .string := by
  simp only [tyB, oneB, Bool.and_eq_true] at h
  obtain ⟨h1, _⟩ := h
  split at h1
  · assumption
  · cases h1
theorem tyB_st {a : Ty} (h : tyB P (.st a) (.inl T) = true) : ∃ fs, P.underlying T = some (.struct fs) ∧ tyB P a (.inr (fs.toList, 0)) = true ∧ P.stoodInHeld T = false ∧ P.eqGuardType P.depth T = false := by
  simp only [tyB, oneB, Bool.and_eq_true, Bool.not_eq_true'] at h
  obtain ⟨⟨⟨h1, _⟩, h2⟩, h3⟩ := h
  split at h1
  · rename_i fs hu; exact ⟨fs, hu, h1, h2, h3⟩
  · cases h1
theorem tyB_arr {n : Nat} {a : Ty} (h : tyB P (.arr n a) (.inl T) = true) : ∃ e, P.underlying T = some (.array n e) ∧ tyB P a (.inl e) = true ∧ P.eqGuardType P.depth T = false := by
  simp only [tyB, oneB, Bool.and_eq_true, Bool.not_eq_true'] at h
  obtain ⟨⟨h1, _⟩, h3⟩ := h
  split at h1
  · rename_i n' e hu
    simp only [Bool.and_eq_true] at h1
    exact ⟨e, by rw [hu, Nat.eq_of_beq_eq_true h1.1], h1.2, h3⟩
  · cases h1
theorem tyB_sl0 {b : Bool} {a : Ty} (h : tyB P (.sl b a) (.inl T) = true) : ∃ e, P.underlying T = some (.slice e) ∧ tyB P a (.inl e) = true ∧ 0 < P.bytesOf e := by
  simp only [tyB, oneB, Bool.and_eq_true] at h
  obtain ⟨h1, _⟩ := h
  split at h1
  · rename_i e hu
    simp only [Bool.and_eq_true] at h1
    exact ⟨e, hu, h1.1, Nat.le_of_ble_eq_true h1.2⟩
  · cases h1
theorem tyB_sl {b : Bool} {a : Ty} (h : tyB P (.sl b a) (.inl T) = true) : ∃ e, P.underlying T = some (.slice e) ∧ tyB P a (.inl e) = true := by
  obtain ⟨e, h1, h2, _⟩ := tyB_sl0 h
  exact ⟨e, h1, h2⟩
theorem info_size {t : Ty} (h : tyB P t (.inl T) = true) {w : World} : (Go.sizeOf T).run P w = .ok t.size w := by
  obtain ⟨i, z, hi, hs, _⟩ := infoB_spec (tyB_info h)
  simp [Go.sizeOf, typeInfo, hi, hs]
theorem info_agg {t : Ty} (h : tyB P t (.inl T) = true) {w : World} : (Go.isAgg T).run P w = .ok t.isAgg w := by
  unfold Go.isAgg underlying
  cases t with
  | int k => simp [tyB_int h, Ty.isAgg]
  | bool => simp [tyB_bool h, Ty.isAgg]
  | str => simp [tyB_str h, Ty.isAgg]
  | unit => simp [tyB] at h
  | pair a b => simp [tyB] at h
  | st a => obtain ⟨fs, hu, _⟩ := tyB_st h; simp [hu, Ty.isAgg]
  | arr n a => obtain ⟨e, hu, _⟩ := tyB_arr h; simp [hu, Ty.isAgg]
  | sl b a => obtain ⟨e, hu, _⟩ := tyB_sl h; simp [hu, Ty.isAgg]
end
end Go.Xr
namespace Go.Xr
open Go
def HF (F : Fence) : Prop := (∀ f, F.fn f) ∧ F.depth = none
def Abs (b : Base) (us : List (Array Value)) (Q : Ex → AS → Prop) (a : Act) (w : World) : Prop := ∃ c s, c.w = w ∧ Q .normal s ∧ St c us s a ∧ Fr b c s
section
variable {F : Fence} {n : Nat} {P : Program} {K : Kit} {o : Oper} {a : Act} {w w' : World} {R : Act → World → Prop} {Qx : Exit → Act → World → Prop} {u : Value}
theorem step_val (hF : HF F) (hd : ∀ c, o.op ≠ .defer c) (hr : (execOp a.eval o).run P w = .ok (.value u) w') (h : R (a.put o.dst u) w') : o.wpIn F n P a w R Qx :=
  ⟨fun f _ => hF.1 f, by rw [Oper.semAt_eq _ _ _ hd, hr]; exact h⟩
theorem step_skip (hF : HF F) (hd : ∀ c, o.op ≠ .defer c) (hr : (execOp a.eval o).run P w = .ok .skip w') (h : R (a.put o.dst undef) w') : o.wpIn F n P a w R Qx :=
  ⟨fun f _ => hF.1 f, by rw [Oper.semAt_eq _ _ _ hd, hr]; exact h⟩
variable {b : Base} {us : List (Array Value)} {c : Cx} {s : AS} {Q : Ex → AS → Prop}
theorem val_one (hF : HF F) (hd : ∀ c, o.op ≠ .defer c) (h : St c us s a) (hfr : Fr b c s) {v : AV} (hq : (retT s o v).sat Q)
    (hr : (execOp a.eval o).run P c.w = .ok (.value u) c.w) (hv : AVR c.w c.E (c.I s) v u) : o.wpIn F n P a c.w (Abs b us Q) Qx :=
  step_val hF hd hr ⟨c, _, rfl, hq, h.putO hv o.dst, hfr.putO o.dst v⟩
def StepV (F : Fence) (n : Nat) (P : Program) (o : Oper) (a : Act) (w : World) (R : Act → World → Prop) (Qx : Exit → Act → World → Prop) : Prop :=
  o.wpIn F n P a w R Qx ∧ ∃ u, ∀ w', (execOp a.eval o).run P w' = .ok (.value u) w'
theorem val_done (hF : HF F) (hd : ∀ c, o.op ≠ .defer c) (h : St c us s a) (hfr : Fr b c s) {v : AV} (hq : (retT s o v).sat Q)
    (hr : ∀ w', (execOp a.eval o).run P w' = .ok (.value u) w') (hv : AVR c.w c.E (c.I s) v u) : StepV F n P o a c.w (Abs b us Q) Qx :=
  ⟨step_val hF hd (hr _) ⟨c, _, rfl, hq, h.putO hv o.dst, hfr.putO o.dst v⟩, u, hr⟩
theorem AVR_int {E : Bool → Nat → Prop} {I : Nat → Option BI} {k : IntKind} {x : Int} : AVR w E I (.pv (.int k) x) u ↔ u = .int k x ∧ IntKind.has k x := by
  simp only [AVR, RepC, IsV, Ty.isAgg]
  constructor
  · rintro ⟨cs, ⟨h1, h2⟩, h3⟩
    simp at h3
    rw [h1] at h3
    simp at h3
    exact ⟨h3.symm, h2⟩
  · rintro ⟨rfl, h⟩
    exact ⟨_, ⟨rfl, h⟩, by simp⟩
theorem AVR_bool {E : Bool → Nat → Prop} {I : Nat → Option BI} {x : Bool} : AVR w E I (.pv .bool x) u ↔ u = .bool x := by
  simp only [AVR, RepC, IsV, Ty.isAgg]
  constructor
  · rintro ⟨cs, h1, h3⟩
    rw [h1] at h3
    simp at h3
    exact h3.symm
  · rintro rfl
    exact ⟨_, rfl, by simp⟩
theorem wrap_has (k : IntKind) (x : Int) : IntKind.has k (k.wrap x) := by
  unfold IntKind.has IntKind.wrap IntKind.min IntKind.max
  cases k <;> simp [IntKind.signed, IntKind.bits] <;> first | omega | (split <;> omega)
theorem has_zero (k : IntKind) : k.min ≤ 0 ∧ 0 ≤ k.max := by cases k <;> simp [IntKind.min, IntKind.max, IntKind.signed, IntKind.bits]
theorem tmod_has {k : IntKind} {x y : Int} (h : IntKind.has k x) : IntKind.has k (Int.tmod x y) := by
  obtain ⟨h1, h2⟩ := h
  obtain ⟨z1, z2⟩ := has_zero k
  unfold IntKind.has
  have hn : (Int.tmod x y).natAbs ≤ x.natAbs := by rw [Int.natAbs_tmod]; exact Nat.mod_le _ _
  rcases Int.le_total 0 x with hx | hx
  · have a1 := Int.tmod_nonneg y hx
    omega
  · have a1 : 0 ≤ Int.tmod (-x) y := Int.tmod_nonneg y (by omega)
    rw [Int.neg_tmod] at a1
    omega
theorem fdiv_has {k : IntKind} {x : Int} {m : Nat} (h : IntKind.has k x) : IntKind.has k (Int.fdiv x (2 ^ m)) := by
  obtain ⟨h1, h2⟩ := h
  obtain ⟨z1, z2⟩ := has_zero k
  unfold IntKind.has
  have hp : (1 : Int) ≤ 2 ^ m := by have := Int.pow_pos (n := 2) (m := m) (by omega); omega
  rw [Int.fdiv_eq_ediv_of_nonneg _ (by omega)]
  rcases Int.le_total 0 x with hx | hx
  · have a1 : 0 ≤ x / 2 ^ m := Int.ediv_nonneg hx (by omega)
    have a2 : x / 2 ^ m ≤ x := Int.ediv_le_self _ hx
    omega
  · have a1 : x ≤ x / 2 ^ m := by
      rw [Int.le_ediv_iff_mul_le (by omega)]
      have : x * 2 ^ m ≤ x * 1 := Int.mul_le_mul_of_nonpos_left hx hp
      omega
    have a2 : x / 2 ^ m ≤ 0 := by
      have := Int.ediv_le_ediv (a := x) (b := 0) (c := 2 ^ m) (by omega) hx
      simpa using this
    omega
theorem isV_cells {agg : Bool} {cs : List Value} {v : Value} (h : IsV agg cs v) (h1 : agg = false → v.oneCell' = true) : v.cells.toList = cs := by
  unfold IsV at h
  cases agg with
  | true => simp at h; rw [h]; rfl
  | false => simp at h; rw [h]; have := h1 rfl; cases v <;> simp_all [Value.cells, Value.oneCell']
theorem run_part {t : Ty} {T : TypeId} (hT : tyB P t (.inl T) = true) {pre c1 post : List Value} (hl : c1.length = t.size) (hz : t.isAgg = false → ∃ v, c1 = [v]) :
    (part T (pre ++ c1 ++ post).toArray pre.length).run P w = .ok (if t.isAgg then .agg c1.toArray else c1.getD 0 undef) w := by
  unfold part
  simp only [Sem.run_bind, info_agg hT, Result.andThen_ok]
  cases ha : t.isAgg with
  | true =>
    simp only [if_true, Sem.run_bind, info_size hT, Result.andThen_ok, Sem.run_pure]
    congr 2
    rw [← hl]
    simp
  | false =>
    obtain ⟨v, rfl⟩ := hz ha
    simp
theorem Ty.one_of {t : Ty} {T : TypeId} (hT : tyB P t (.inl T) = true) (ha : t.isAgg = false) {cs : List Value} (hl : cs.length = t.size) : ∃ v, cs = [v] := by
  have h1 : t.size = 1 := by cases t <;> simp_all [Ty.isAgg, Ty.size, tyB]
  rw [h1] at hl
  match cs, hl with
  | [v], _ => exact ⟨v, rfl⟩
theorem underlying_of {T : TypeId} {d : TypeDesc} (h : P.underlying T = some d) : (underlying T).run P w = .ok d w := by
  simp [underlying, h]
def valOf (t : Ty) (cs : List Value) : Value := if t.isAgg then .agg cs.toArray else cs.getD 0 undef
theorem run_part_at {t : Ty} {T : TypeId} (hT : tyB P t (.inl T) = true) {xs c1 : List Value} {off : Nat} (hx : ∃ pre post, xs = pre ++ c1 ++ post ∧ pre.length = off) (hl : c1.length = t.size) :
    (part T xs.toArray off).run P w = .ok (valOf t c1) w := by
  obtain ⟨pre, post, rfl, rfl⟩ := hx
  rw [run_part hT hl (fun ha => Ty.one_of hT ha hl)]
  rfl
theorem RepL_nil {α : Type} {R : α → List Value → Prop} {cs : List Value} : RepL R [] cs ↔ cs = [] := Iff.rfl
theorem RepL_cons {α : Type} {R : α → List Value → Prop} {x : α} {xs : List α} {cs : List Value} : RepL R (x :: xs) cs ↔ ∃ c1 c2, cs = c1 ++ c2 ∧ R x c1 ∧ RepL R xs c2 := Iff.rfl
theorem eq_rounds {α : Type} {R1 R2 : α → List Value → Prop} {f : α → α → Bool} {e : TypeId} {sz d : Nat} (hR1 : ∀ x cs, R1 x cs → cs.length = sz) (hR2 : ∀ x cs, R2 x cs → cs.length = sz)
    {xs ys : List Value} (hpart : ∀ x y c1 d1 off, R1 x c1 → R2 y d1 → (∃ pre post, xs = pre ++ c1 ++ post ∧ pre.length = off) → (∃ pre post, ys = pre ++ d1 ++ post ∧ pre.length = off) →
      ∀ w, (do let u ← part e xs.toArray off; let v ← part e ys.toArray off; Op.equalIn d e u v : Sem Bool).run P w = .ok (f x y) w) :
    ∀ (l m : List α) (pre pre' c1 d1 : List Value) (k : Nat), xs = pre ++ c1 → ys = pre' ++ d1 → pre.length = k * sz → pre'.length = k * sz → l.length = m.length → RepL R1 l c1 → RepL R2 m d1 → ∀ w,
    (forIn (m := Sem) (List.range' k l.length 1) ((none, ()) : Option Bool × Unit) fun i r => do
        let u ← part e xs.toArray (i * sz)
        let v ← part e ys.toArray (i * sz)
        let q ← Op.equalIn d e u v
        if (!q) = true then pure (ForInStep.done (some false, ())) else pure (ForInStep.yield (none, ()))).run P w = .ok (if pEqL f l m then none else some false, ()) w
  | [], [], pre, pre', c1, d1, k, _, _, _, _, _, _, _, w => by simp [pEqL]
  | x :: l, y :: m, pre, pre', c1, d1, k, hx, hy, hp, hp', hl, h1, h2, w => by
    obtain ⟨ca, cb, rfl, ra, rb⟩ := h1
    obtain ⟨da, db, rfl, sa, sb⟩ := h2
    have hq := hpart x y ca da (k * sz) ra sa ⟨pre, cb, by simp [hx], hp⟩ ⟨pre', db, by simp [hy], hp'⟩ w
    have ih := eq_rounds hR1 hR2 hpart l m (pre ++ ca) (pre' ++ da) cb db (k + 1) (by simp [hx]) (by simp [hy]) (by simp [hp, hR1 _ _ ra, Nat.succ_mul]) (by simp [hp', hR2 _ _ sa, Nat.succ_mul]) (by simpa using hl) rb sb w
    simp only [List.length_cons, List.range'_succ, List.forIn_cons]
    simp only [Sem.run_bind] at hq ⊢
    cases hu : (part e xs.toArray (k * sz)).run P w with
    | halt z w2 => rw [hu] at hq; simp at hq
    | ok u w2 =>
      rw [hu] at hq
      simp only [Result.andThen_ok] at hq ⊢
      cases hv : (part e ys.toArray (k * sz)).run P w2 with
      | halt z w3 => rw [hv] at hq; simp at hq
      | ok v w3 =>
        rw [hv] at hq
        simp only [Result.andThen_ok] at hq ⊢
        rw [hq]
        simp only [Result.andThen_ok, Sem.run_ite, Sem.run_pure]
        rw [show pEqL f (x :: l) (y :: m) = (f x y && pEqL f l m) from rfl]
        rcases Bool.eq_false_or_eq_true (f x y) with hf | hf
        · simpa [hf] using ih
        · simp [hf]
theorem pEqL_len {α : Type} {f : α → α → Bool} : ∀ {l m : List α}, l.length ≠ m.length → pEqL f l m = false
  | [], [], h => by simp at h
  | [], y :: m, h => rfl
  | x :: l, [], h => rfl
  | x :: l, y :: m, h => by simp [pEqL, pEqL_len (f := f) (l := l) (m := m) (by simpa using h)]
theorem str_eq {s1 s2 : ByteArray} {x y : List Int} (hx : x = s1.data.toList.map (fun b => (b.toNat : Int))) (hy : y = s2.data.toList.map (fun b => (b.toNat : Int))) : (s1.toList == s2.toList) = decide (x = y) := by
  rw [hx, hy, ByteArray.toList_eq, ByteArray.toList_eq, Bool.eq_iff_iff]
  simp only [beq_iff_eq, decide_eq_true_eq]
  constructor
  · intro h; rw [h]
  · intro h
    have hi : Function.Injective (fun b : UInt8 => (b.toNat : Int)) := fun a b hab => UInt8.toNat_inj.1 (Int.ofNat_inj.1 hab)
    exact (List.map_inj_right (f := fun b : UInt8 => (b.toNat : Int)) (fun a b hab => hi hab)).1 h
mutual
theorem eq_one {E : Bool → Nat → Prop} {w1 w2 : World} : ∀ (t : Ty) (T : TypeId) (x y : t.T) (cs ds : List Value) (d : Nat), tyB P t (.inl T) = true → t.comparable = true → t.deep ≤ d → RepC w1 E t x cs → RepC w2 E t y ds →
    ∀ w, (Op.equalIn d T (valOf t cs) (valOf t ds)).run P w = .ok (t.eqb x y) w
  | .int k, T, x, y, cs, ds, d + 1, hT, _, _, h1, h2, w => by
    rw [h1.1, h2.1]
    simp [valOf, Ty.isAgg, Op.equalIn, underlying_of (tyB_int hT), Ty.eqb, pEq]
    rfl
  | .bool, T, x, y, cs, ds, d + 1, hT, _, _, h1, h2, w => by
    rw [show cs = _ from h1, show ds = _ from h2]
    simp [valOf, Ty.isAgg, Op.equalIn, underlying_of (tyB_bool hT), Ty.eqb, pEqB]
  | .str, T, x, y, cs, ds, d + 1, hT, _, _, h1, h2, w => by
    obtain ⟨s1, rfl, hx, _⟩ := h1
    obtain ⟨s2, rfl, hy, _⟩ := h2
    simp only [valOf, Ty.isAgg, Bool.false_eq_true, if_false, List.getD_cons_zero]
    rw [run_equalIn_string w d T s1 s2 (tyB_str hT)]
    rw [str_eq hx hy]; rfl
  | .st a, T, x, y, cs, ds, d + 1, hT, hc, hd, h1, h2, w => by
    obtain ⟨fs, hu, hr, hs, hg⟩ := tyB_st hT
    have hf : P.fieldsOf T = fs := by simp [Program.fieldsOf, hu]
    simp only [valOf, Ty.isAgg, if_true]
    rw [run_equalIn_struct w d T cs.toArray ds.toArray (by rw [hf, hu]) hs, hf]
    exact eq_row a fs.toList 0 x y cs ds cs ds d hr (by simpa [Ty.comparable] using hc) (by simp [Ty.deep] at hd; omega) h1 h2 ⟨[], [], by simp, rfl⟩ ⟨[], [], by simp, rfl⟩ w
  | .arr n a, T, x, y, cs, ds, d + 1, hT, hc, hd, h1, h2, w => by
    obtain ⟨e, hu, hr, hg⟩ := tyB_arr hT
    obtain ⟨l1, r1⟩ := h1
    obtain ⟨l2, r2⟩ := h2
    have key := eq_rounds (P := P) (R1 := RepC w1 E a) (R2 := RepC w2 E a) (f := a.eqb) (e := e) (sz := a.size) (d := d) (RepC.len a) (RepC.len a) (xs := cs) (ys := ds)
      (fun x y c1 d1 off q1 q2 p1 p2 w => by
        simp only [Sem.run_bind, run_part_at hr p1 (RepC.len a _ _ q1), run_part_at hr p2 (RepC.len a _ _ q2), Result.andThen_ok]
        exact eq_one a e x y c1 d1 d hr (by simpa [Ty.comparable] using hc) (by simp [Ty.deep] at hd; omega) q1 q2 w)
      x y [] [] cs ds 0 (by simp) (by simp) (by simp) (by simp) (by rw [l1, l2]) r1 r2 w
    simp only [valOf, Ty.isAgg, if_true, Op.equalIn, Sem.run_bind, underlying_of hu, Result.andThen_ok, info_size hr]
    simp only [Std.Legacy.Range.forIn_eq_forIn_range', Std.Legacy.Range.size, Nat.sub_zero, Nat.add_one_sub_one, Nat.div_one]
    rw [l1] at key
    rw [key]
    simp only [Result.andThen_ok, Ty.eqb]
    cases pEqL a.eqb x y <;> simp
  | .unit, T, _, _, _, _, _, hT, _, _, _, _, _ => by simp [tyB] at hT
  | .pair _ _, T, _, _, _, _, _, hT, _, _, _, _, _ => by simp [tyB] at hT
  | .sl _ _, T, _, _, _, _, _, hT, hc, _, _, _, _ => by simp [Ty.comparable] at hc
  | .int _, _, _, _, _, _, 0, _, _, hd, _, _, _ | .bool, _, _, _, _, _, 0, _, _, hd, _, _, _ | .str, _, _, _, _, _, 0, _, _, hd, _, _, _ => by simp [Ty.deep] at hd
  | .st _, _, _, _, _, _, 0, _, _, hd, _, _, _ | .arr _ _, _, _, _, _, _, 0, _, _, hd, _, _, _ => by simp [Ty.deep] at hd
termination_by t => (SizeOf.sizeOf t, 0)
theorem eq_row {E : Bool → Nat → Prop} {w1 w2 : World} : ∀ (t : Ty) (fs : List Field) (off : Nat) (x y : t.T) (cs ds xs ys : List Value) (d : Nat), tyB P t (.inr (fs, off)) = true → t.comparable = true → t.deep ≤ d → RepC w1 E t x cs → RepC w2 E t y ds →
    (∃ pre post, xs = pre ++ cs ++ post ∧ pre.length = off) → (∃ pre post, ys = pre ++ ds ++ post ∧ pre.length = off) →
    ∀ w, (Op.eqFields d xs.toArray ys.toArray fs).run P w = .ok (t.eqb x y) w := by
  intro t fs off x y cs ds xs ys d hT hc hd h1 h2 hx hy w
  have single : ∀ f, fs = [f] → f.offset = off → (f.name == "_") = false → tyB P t (.inl f.type) = true → (Op.eqFields d xs.toArray ys.toArray fs).run P w = .ok (t.eqb x y) w := by
    intro f hf ho hn hty
    have q := eq_one t f.type x y cs ds d hty hc hd h1 h2 w
    subst hf
    have hn' : f.name ≠ "_" := by simpa using hn
    simp only [Op.eqFields, if_pos hn', Sem.run_bind, ho, run_part_at hty hx (RepC.len t _ _ h1), run_part_at hty hy (RepC.len t _ _ h2), Result.andThen_ok, q, Sem.run_ite, Sem.run_pure]
    cases t.eqb x y <;> simp
  have one : ∀ R, oneB P (.inr (fs, off)) R = true → ∃ f, fs = [f] ∧ f.offset = off ∧ (f.name == "_") = false ∧ R f.type = true := by
    intro R hR
    match fs, hR with
    | [f], hR =>
      simp only [oneB, Bool.and_eq_true, Bool.not_eq_true'] at hR
      exact ⟨f, rfl, Nat.eq_of_beq_eq_true hR.1.1, hR.1.2, hR.2⟩
  match t, x, y, hT, hc, hd, h1, h2, single with
  | .int k, x, y, hT, hc, hd, h1, h2, single => obtain ⟨f, a1, a2, a3, a4⟩ := one _ hT; exact single f a1 a2 a3 a4
  | .bool, x, y, hT, hc, hd, h1, h2, single => obtain ⟨f, a1, a2, a3, a4⟩ := one _ hT; exact single f a1 a2 a3 a4
  | .str, x, y, hT, hc, hd, h1, h2, single => obtain ⟨f, a1, a2, a3, a4⟩ := one _ hT; exact single f a1 a2 a3 a4
  | .st a, x, y, hT, hc, hd, h1, h2, single => obtain ⟨f, a1, a2, a3, a4⟩ := one _ hT; exact single f a1 a2 a3 a4
  | .arr n a, x, y, hT, hc, hd, h1, h2, single => obtain ⟨f, a1, a2, a3, a4⟩ := one _ hT; exact single f a1 a2 a3 a4
  | .sl b a, x, y, hT, hc, hd, h1, h2, single => simp [Ty.comparable] at hc
  | .unit, x, y, hT, hc, hd, h1, h2, single =>
    match fs, hT with
    | [], _ => simp [Op.eqFields, Ty.eqb, pB]
  | .pair a b, x, y, hT, hc, hd, h1, h2, single =>
    match fs, hT with
    | f :: fs, hT =>
      simp only [tyB, Bool.and_eq_true, Bool.not_eq_true'] at hT
      obtain ⟨⟨⟨ho, hn⟩, hta⟩, htb⟩ := hT
      have ho := Nat.eq_of_beq_eq_true ho
      have hn' : f.name ≠ "_" := by simpa using hn
      obtain ⟨ca, cb, rfl, ra, rb⟩ := h1
      obtain ⟨da, db, rfl, sa, sb⟩ := h2
      obtain ⟨pre, post, rfl, hp⟩ := hx
      obtain ⟨pre', post', rfl, hp'⟩ := hy
      simp only [Ty.comparable, Bool.and_eq_true] at hc
      simp only [Ty.deep] at hd
      have q := eq_one a f.type (pFst x) (pFst y) ca da d hta hc.1 (by omega) ra sa w
      have ih := eq_row b fs (Nat.add off a.size) (pSnd x) (pSnd y) cb db (pre ++ (ca ++ cb) ++ post) (pre' ++ (da ++ db) ++ post') d htb hc.2 (by omega) rb sb
        ⟨pre ++ ca, post, by simp, by rw [List.length_append, hp, RepC.len a _ _ ra]; rfl⟩ ⟨pre' ++ da, post', by simp, by rw [List.length_append, hp', RepC.len a _ _ sa]; rfl⟩ w
      have p1 := run_part_at (P := P) (w := w) hta (xs := pre ++ (ca ++ cb) ++ post) (c1 := ca) (off := off) ⟨pre, cb ++ post, by simp, hp⟩ (RepC.len a _ _ ra)
      have p2 := run_part_at (P := P) (w := w) hta (xs := pre' ++ (da ++ db) ++ post') (c1 := da) (off := off) ⟨pre', db ++ post', by simp, hp'⟩ (RepC.len a _ _ sa)
      simp only [List.append_assoc] at ih p1 p2 ⊢
      simp only [Op.eqFields, if_pos hn', Sem.run_bind, ho, p1, p2, Result.andThen_ok, q, Sem.run_ite, Sem.run_pure, Ty.eqb, pAndB]
      cases a.eqb (pFst x) (pFst y) with
      | true => simpa using ih
      | false => simp
termination_by t => (SizeOf.sizeOf t, 1)
end
theorem toPV_AVR {E : Bool → Nat → Prop} {I : Nat → Option BI} {x : AV} {p : PV} (hp : s.toPV x = some p) (h : AVR w E I x u) : AVR w E I (.pv p.t p.x) u := by
  cases x <;> simp only [AS.toPV] at hp <;> cases hp
  · exact h
  · simp only [AVR] at h; exact AVR_bool.2 h
theorem as_eq {p : PV} {t : Ty} {x : t.T} (h : p.as t = some x) : p = ⟨t, x⟩ := by
  obtain ⟨t', y⟩ := p
  unfold PV.as at h
  split at h
  · rename_i e
    cases e
    cases h
    rfl
  · cases h
theorem td_pure (hK : KitOK P K) {T : TypeId} {t : Ty} (h : K.td T = .pure t) : tyB P t (.inl T) = true ∧ t.deep ≤ 10000 := by
  have := hK.td T
  unfold tdB at this
  rw [h] at this
  simp only [Bool.and_eq_true] at this
  exact ⟨this.1, Nat.le_of_ble_eq_true this.2⟩
theorem AVR_valOf {E : Bool → Nat → Prop} {I : Nat → Option BI} {t : Ty} {T : TypeId} (hT : tyB P t (.inl T) = true) {x : t.T} (h : AVR w E I (.pv t x) u) : ∃ cs, RepC w E t x cs ∧ u = valOf t cs := by
  simp only [AVR] at h
  obtain ⟨cs, h1, h2⟩ := h
  refine ⟨cs, h1, ?_⟩
  unfold IsV at h2
  unfold valOf
  cases ha : t.isAgg with
  | true => simp [ha] at h2 ⊢; exact h2
  | false => simp [ha] at h2 ⊢; rw [h2]; rfl
theorem eqGuard_other {T : TypeId} {x y : Operand} {u v : Value} {op : BinOp} (h : op ≠ .eql ∧ op ≠ .neq) : (eqGuard op T x y u v).run P w = .ok () w := by
  cases op <;> simp_all [eqGuard]
theorem eq_run (hK : KitOK P K) {E : Bool → Nat → Prop} {I : Nat → Option BI} {T : TypeId} {t : Ty} (ht : K.td T = .pure t) (hc : t.comparable = true) {x y : t.T} {u v : Value} (hx : AVR w E I (.pv t x) u) (hy : AVR w E I (.pv t y) v) {xo yo : Operand} (w' : World) :
    (do eqGuard .eql T xo yo u v; binOp .eql T u v : Sem Value).run P w' = .ok (.bool (t.eqb x y)) w' ∧ (do eqGuard .neq T xo yo u v; binOp .neq T u v : Sem Value).run P w' = .ok (.bool (!(t.eqb x y))) w' := by
  obtain ⟨hT, hd⟩ := td_pure hK ht
  obtain ⟨cs, h1, rfl⟩ := AVR_valOf hT hx
  obtain ⟨ds, h2, rfl⟩ := AVR_valOf hT hy
  have q := eq_one t T x y cs ds 10000 hT hc hd h1 h2 w'
  cases t with
  | int k =>
    rw [h1.1, h2.1]
    simp only [valOf, Ty.isAgg]
    constructor <;> simp [eqGuard, binOp, Op.intCmp, Ty.eqb, pEq] <;> rfl
  | bool =>
    rw [show cs = _ from h1, show ds = _ from h2] at q ⊢
    simp only [valOf, Ty.isAgg] at q ⊢
    constructor <;> simp [eqGuard, binOp, Op.equal, Op.maxDepth] at q ⊢ <;> rw [q] <;> rfl
  | str =>
    obtain ⟨s1, rfl, e1, _⟩ := h1
    obtain ⟨s2, rfl, e2, _⟩ := h2
    simp only [valOf, Ty.isAgg]
    have := str_eq e1 e2
    constructor <;> simp only [eqGuard, binOp, Op.stringOp, Bool.false_eq_true, if_false, List.getD_cons_zero] <;> rw [this] <;> simp [Ty.eqb, pEqS]
  | unit => simp [tyB] at hT
  | pair a b => simp [tyB] at hT
  | sl b a => simp [Ty.comparable] at hc
  | st a =>
    obtain ⟨fs, hu, hr, hs, hg⟩ := tyB_st hT
    simp only [valOf, Ty.isAgg, if_true] at q ⊢
    constructor <;> simp [eqGuard, binOp, Op.equal, Op.maxDepth, hg] at q ⊢ <;> rw [q] <;> rfl
  | arr n a =>
    obtain ⟨e, hu, hr, hg⟩ := tyB_arr hT
    simp only [valOf, Ty.isAgg, if_true] at q ⊢
    constructor <;> simp [eqGuard, binOp, Op.equal, Op.maxDepth, hg] at q ⊢ <;> rw [q] <;> rfl
theorem box_I (h : St c us s a) {i : Nat} (hb : (s.box i).isSome = true) : ∃ x, c.I s i = some x := by
  unfold Cx.I
  cases hbx : s.box i with
  | none => rw [hbx] at hb; cases hb
  | some b =>
    have := h.bx i b hbx
    cases b with
    | var v =>
      obtain ⟨blk, cs, T, h1, _⟩ := this
      simp [boxI, h1]
    | buf kd t xs => cases kd <;> simp [boxI]
    | cst n => exact this.elim
theorem ptr_some (h : St c us s a) {i : Nat} {p : List Stp} (hb : (s.box i).isSome = true) (hp : AVR c.w c.E (c.I s) (.ptr i p) u) : ∃ ad, u = .pointer (some ad) := by
  obtain ⟨x, hx⟩ := box_I h hb
  simp only [AVR, PtrAt, hx] at hp
  cases x with
  | var blk off arr => obtain ⟨o, _, h2⟩ := hp; exact ⟨_, h2⟩
  | buf kd t n at_ =>
    cases kd with
    | mp => exact hp.elim
    | lp p => exact hp.elim
    | mr => exact hp.elim
    | it => obtain ⟨_, _, _, _, _, h2⟩ := hp; exact ⟨_, h2⟩
    | sl => obtain ⟨k, r, o, _, _, blk, base, room, _, _, _, h2⟩ := hp; exact ⟨_, h2⟩
theorem isPtr_of (hK : KitOK P K) {T : TypeId} (h : (match K.td T with | .ptr _ => true | _ => false) = true) : ∃ e, P.underlying T = some (.pointer e) := by
  have := hK.td T
  unfold tdB at this
  split at h
  · rename_i e he
    rw [he] at this
    simp only [Bool.and_eq_true] at this
    obtain ⟨h1, _⟩ := this
    split at h1
    · rename_i e' hu; exact ⟨e', hu⟩
    · cases h1
  · cases h
theorem isFn_of (hK : KitOK P K) {T : TypeId} (h : (match K.td T with | .fn => true | _ => false) = true) : ∃ x y z, P.underlying T = some (.func x y z) := by
  have := hK.td T
  unfold tdB at this
  split at h
  · rename_i he
    rw [he] at this
    simp only [Bool.and_eq_true] at this
    obtain ⟨h1, _⟩ := this
    split at h1
    · rename_i x y z hu; exact ⟨x, y, z, hu⟩
    · cases h1
  · cases h
theorem run_equalIn_fn {T : TypeId} {x y z : _} (hu : P.underlying T = some (.func x y z)) {f : Fn} {l m : Array Value} : (Op.equalIn 10000 T (.func f l m) .nilFunc).run P w = .ok false w := by
  show (Op.equalIn (9999 + 1) T (.func f l m) .nilFunc).run P w = _
  unfold Op.equalIn
  simp [underlying_of hu]
theorem run_equalIn_ptr {T e : TypeId} (hu : P.underlying T = some (.pointer e)) {x : Option Addr} : (Op.equalIn 10000 T (.pointer x) (.pointer none)).run P w = .ok x.isNone w := by
  show (Op.equalIn (9999 + 1) T (.pointer x) (.pointer none)).run P w = _
  unfold Op.equalIn
  cases x <;> simp [underlying_of hu]
theorem ne_of {x : Int} (h : pNot (pEq x (pI 0)) = true) : x ≠ 0 := by simpa [pNot, pEq, pI] using h
theorem nlt_of {x : Int} (h : pLe (pI 0) x = true) : ¬ (x < 0) := by simpa [pLe, pI] using h
theorem binT_sound (hF : HF F) (hK : KitOK P K) (h : St c us s a) (hfr : Fr b c s) {op : BinOp} {T T' : TypeId} {x y : Operand} (ho : o.op = .binOp op T x y T')
    (hs : (binT K s o op T (s.ev x) (s.ev y)).sat Q) : StepV F n P o a c.w (Abs b us Q) Qx := by
  have hd : ∀ c, o.op ≠ .defer c := by intro c; rw [ho]; simp
  have hx := h.ev x
  have hy := h.ev y
  have he : execOp a.eval o = (do let v ← (do eqGuard op T x y (a.eval x) (a.eval y); binOp op T (a.eval x) (a.eval y)); pure (.value v)) := by
    simp only [execOp, ho]
  generalize s.ev x = X at *
  generalize s.ev y = Y at *
  unfold binT at hs
  have ar : ∀ {k k' : IntKind} {x' y' r : Int}, AVR c.w c.E (c.I s) (.pv (.int k) x') (a.eval x) → AVR c.w c.E (c.I s) (.pv (.int k') y') (a.eval y) → keq k k' = true →
      (retT s o (.pv (.int k) r)).sat Q → (∀ w, (do eqGuard op T x y (.int k x') (.int k y'); binOp op T (.int k x') (.int k y') : Sem Value).run P w = .ok (.int k r) w) → IntKind.has k r → StepV F n P o a c.w (Abs b us Q) Qx := by
    intro k k' x' y' r hx hy hk hs hr hh
    cases keq_eq hk
    obtain ⟨e1, k1⟩ := AVR_int.1 hx
    obtain ⟨e2, k2⟩ := AVR_int.1 hy
    refine val_done hF hd h hfr hs ?_ (AVR_int.2 ⟨rfl, hh⟩)
    intro w'
    rw [he, e1, e2, Sem.run_bind, hr]; simp
  have cm : ∀ {k k' : IntKind} {x' y' : Int} {r : Bool}, AVR c.w c.E (c.I s) (.pv (.int k) x') (a.eval x) → AVR c.w c.E (c.I s) (.pv (.int k') y') (a.eval y) → keq k k' = true →
      (retT s o (boolV r)).sat Q → (∀ w, (do eqGuard op T x y (.int k x') (.int k y'); binOp op T (.int k x') (.int k y') : Sem Value).run P w = .ok (.bool r) w) → StepV F n P o a c.w (Abs b us Q) Qx := by
    intro k k' x' y' r hx hy hk hs hr
    cases keq_eq hk
    obtain ⟨e1, k1⟩ := AVR_int.1 hx
    obtain ⟨e2, k2⟩ := AVR_int.1 hy
    refine val_done hF hd h hfr hs ?_ (AVR_bool.2 rfl)
    intro w'
    rw [he, e1, e2, Sem.run_bind, hr]; simp
  split at hs
  · obtain ⟨hk, hs⟩ := sat_ok hs
    exact ar hx hy hk hs (fun w => by simp [eqGuard, binOp, Op.intArith]) (wrap_has _ _)
  · obtain ⟨hk, hs⟩ := sat_ok hs
    exact ar hx hy hk hs (fun w => by simp [eqGuard, binOp, Op.intArith]) (wrap_has _ _)
  · obtain ⟨hk, hs⟩ := sat_ok hs
    exact ar hx hy hk hs (fun w => by simp [eqGuard, binOp, Op.intArith]) (wrap_has _ _)
  · obtain ⟨hk, hz, hs⟩ := sat_ok hs
    have hz := ne_of hz
    exact ar hx hy hk hs (fun w => by simp [eqGuard, binOp, Op.intDiv, hz]) (wrap_has _ _)
  · obtain ⟨hk, hz, hs⟩ := sat_ok hs
    have hz := ne_of hz
    cases keq_eq hk
    exact ar hx hy hk hs (fun w => by simp [eqGuard, binOp, Op.intDiv, hz]) (tmod_has (AVR_int.1 hx).2)
  · obtain ⟨hz, hs⟩ := hs
    have hz := nlt_of hz
    obtain ⟨e1, k1⟩ := AVR_int.1 hx
    obtain ⟨e2, k2⟩ := AVR_int.1 hy
    refine val_done hF hd h hfr hs ?_ (AVR_int.2 ⟨rfl, wrap_has _ _⟩)
    intro w'
    rw [he, e1, e2]
    simp [eqGuard, binOp, Op.shift, hz]
  · obtain ⟨hz, hs⟩ := hs
    have hz := nlt_of hz
    obtain ⟨e1, k1⟩ := AVR_int.1 hx
    obtain ⟨e2, k2⟩ := AVR_int.1 hy
    refine val_done hF hd h hfr hs ?_ (AVR_int.2 ⟨rfl, fdiv_has k1⟩)
    intro w'
    rw [he, e1, e2]
    simp [eqGuard, binOp, Op.shift, hz]
  · obtain ⟨hk, hs⟩ := sat_ok hs
    exact ar hx hy hk hs (fun w => by simp [eqGuard, binOp, Op.intBits, pAnd, pOr, pXor]) (wrap_has _ _)
  · obtain ⟨hk, hs⟩ := sat_ok hs
    exact ar hx hy hk hs (fun w => by simp [eqGuard, binOp, Op.intBits, pAnd, pOr, pXor]) (wrap_has _ _)
  · obtain ⟨hk, hs⟩ := sat_ok hs
    exact ar hx hy hk hs (fun w => by simp [eqGuard, binOp, Op.intBits, pAnd, pOr, pXor]) (wrap_has _ _)
  · obtain ⟨hk, hs⟩ := sat_ok hs
    exact cm hx hy hk hs (fun w => by simp [eqGuard, binOp, Op.intCmp, pLt])
  · obtain ⟨hk, hs⟩ := sat_ok hs
    exact cm hx hy hk hs (fun w => by simp [eqGuard, binOp, Op.intCmp, pLe])
  · obtain ⟨hk, hs⟩ := sat_ok hs
    exact cm hx hy hk hs (fun w => by simp [eqGuard, binOp, Op.intCmp, pLt])
  · obtain ⟨hk, hs⟩ := sat_ok hs
    exact cm hx hy hk hs (fun w => by simp [eqGuard, binOp, Op.intCmp, pLe])
  · obtain ⟨hk, hs⟩ := sat_ok hs
    obtain ⟨e, hu⟩ := isPtr_of hK hk
    simp only [AVR] at hx hy
    refine val_done hF hd h hfr hs (u := .bool true) ?_ (by simp only [AVR])
    intro w'
    rw [he, hx, hy]
    simp [eqGuard, binOp, Op.equal, Op.maxDepth, run_equalIn_ptr hu]
  · obtain ⟨hk, hs⟩ := sat_ok hs
    obtain ⟨e, hu⟩ := isPtr_of hK hk
    simp only [AVR] at hx hy
    refine val_done hF hd h hfr hs (u := .bool false) ?_ (by simp only [AVR])
    intro w'
    rw [he, hx, hy]
    simp [eqGuard, binOp, Op.equal, Op.maxDepth, run_equalIn_ptr hu]
  · obtain ⟨hk, hs⟩ := sat_ok hs
    simp only [Bool.and_eq_true] at hk
    obtain ⟨e, hu⟩ := isPtr_of hK hk.1
    obtain ⟨ad, hx⟩ := ptr_some h hk.2 hx
    simp only [AVR] at hy
    refine val_done hF hd h hfr hs (u := .bool false) ?_ (by simp only [AVR])
    intro w'
    rw [he, hx, hy]
    simp [eqGuard, binOp, Op.equal, Op.maxDepth, run_equalIn_ptr hu]
  · obtain ⟨hk, hs⟩ := sat_ok hs
    simp only [Bool.and_eq_true] at hk
    obtain ⟨e, hu⟩ := isPtr_of hK hk.1
    obtain ⟨ad, hx⟩ := ptr_some h hk.2 hx
    simp only [AVR] at hy
    refine val_done hF hd h hfr hs (u := .bool true) ?_ (by simp only [AVR])
    intro w'
    rw [he, hx, hy]
    simp [eqGuard, binOp, Op.equal, Op.maxDepth, run_equalIn_ptr hu]
  · obtain ⟨hk, hs⟩ := sat_ok hs
    obtain ⟨_, _, _, hu⟩ := isFn_of hK hk
    simp only [AVR] at hx hy
    obtain ⟨vs, hx, _⟩ := hx
    refine val_done hF hd h hfr hs (u := .bool false) ?_ (by simp only [AVR])
    intro w'
    rw [he, hx, hy]
    simp [eqGuard, binOp, Op.equal, Op.maxDepth, run_equalIn_fn hu]
  · obtain ⟨hk, hs⟩ := sat_ok hs
    obtain ⟨_, _, _, hu⟩ := isFn_of hK hk
    simp only [AVR] at hx hy
    obtain ⟨vs, hx, _⟩ := hx
    refine val_done hF hd h hfr hs (u := .bool true) ?_ (by simp only [AVR])
    intro w'
    rw [he, hx, hy]
    simp [eqGuard, binOp, Op.equal, Op.maxDepth, run_equalIn_fn hu]
  · split at hs
    · rename_i t pa pb ht ha hb
      obtain ⟨hc, hs2⟩ := sat_ok hs
      clear hs
      split at hs2
      · rename_i xa xb h1 h2
        cases as_eq h1
        cases as_eq h2
        refine val_done hF hd h hfr hs2 ?_ (AVR_bool.2 rfl)
        intro w'
        rw [he, Sem.run_bind, (eq_run hK ht hc (toPV_AVR ha hx) (toPV_AVR hb hy) w').1]
        simp
      · exact hs2.elim
    · exact hs.elim
  · split at hs
    · rename_i t pa pb ht ha hb
      obtain ⟨hc, hs2⟩ := sat_ok hs
      clear hs
      split at hs2
      · rename_i xa xb h1 h2
        cases as_eq h1
        cases as_eq h2
        refine val_done hF hd h hfr hs2 ?_ (AVR_bool.2 rfl)
        intro w'
        rw [he, Sem.run_bind, (eq_run hK ht hc (toPV_AVR ha hx) (toPV_AVR hb hy) w').2]
        simp [pNot]
      · exact hs2.elim
    · exact hs.elim
  · exact hs.elim
end
end Go.Xr
namespace Go.Xr
open Go
theorem toNat_lt' {i : Int} {m : Nat} (h : 0 ≤ i ∧ i < (m : Int)) : Int.toNat i < m := by omega
def Sub (c1 cs : List Value) (o : Nat) : Prop := ∃ pre post, cs = pre ++ c1 ++ post ∧ pre.length = o
theorem Sub.refl (cs : List Value) : Sub cs cs 0 := ⟨[], [], by simp, rfl⟩
theorem Sub.trans {c1 c2 cs : List Value} {o o' : Nat} (h : Sub c2 cs o) (k : Sub c1 c2 o') : Sub c1 cs (o + o') := by
  obtain ⟨pre, post, rfl, rfl⟩ := h
  obtain ⟨pre', post', rfl, rfl⟩ := k
  exact ⟨pre ++ pre', post' ++ post, by simp, by simp⟩
theorem Sub.left (c1 c2 : List Value) : Sub c1 (c1 ++ c2) 0 := ⟨[], c2, by simp, rfl⟩
theorem Sub.right (c1 c2 : List Value) : Sub c2 (c1 ++ c2) c1.length := ⟨c1, [], by simp, rfl⟩
theorem Sub.get {c1 cs : List Value} {o j : Nat} {v : Value} (h : Sub c1 cs o) (hj : c1[j]? = some v) : cs[o + j]? = some v := by
  obtain ⟨pre, post, rfl, rfl⟩ := h
  have := (List.getElem?_eq_some_iff.1 hj).1
  rw [List.append_assoc, List.getElem?_append_right (by omega), Nat.add_sub_cancel_left, List.getElem?_append_left this, hj]
theorem Sub.le {c1 cs : List Value} {o : Nat} (h : Sub c1 cs o) : o + c1.length ≤ cs.length := by
  obtain ⟨pre, post, rfl, rfl⟩ := h
  simp
theorem Reads.sub {w : World} {b o o' : Nat} {c1 cs : List Value} (h : Reads w b o cs) (k : Sub c1 cs o') : Reads w b (o + o') c1 := fun j v hj => by
  have := h (o' + j) v (k.get hj)
  rwa [← Nat.add_assoc] at this
section
variable {w : World} {E : Bool → Nat → Prop} {I : Nat → Option BI}
theorem RepL.sub {α : Type} {R : α → List Value → Prop} {sz : Nat} (hR : ∀ x cs, R x cs → cs.length = sz) : ∀ (xs : List α) (cs : List Value) (i : Nat) (d : α), i < xs.length → RepL R xs cs → ∃ c1, Sub c1 cs (i * sz) ∧ R (xs.getD i d) c1
  | x :: xs, _, 0, d, _, ⟨c1, c2, e, h1, h2⟩ => ⟨c1, by rw [e, Nat.zero_mul]; exact Sub.left c1 c2, by simpa using h1⟩
  | x :: xs, _, i + 1, d, hi, ⟨c1, c2, e, h1, h2⟩ => by
    obtain ⟨c, k1, k2⟩ := RepL.sub hR xs c2 i d (by simpa using hi) h2
    refine ⟨c, ?_, by simpa using k2⟩
    rw [e, Nat.succ_mul, Nat.add_comm]
    have := (Sub.right c1 c2).trans k1
    rwa [hR x c1 h1] at this
theorem getT_spec : ∀ (t : Ty) (x : t.T) (n : Option Nat) (p : List Stp) (cs : List Value) (u : Ty) (y : u.T) (o : Nat), RepC w E t x cs → getT t x n p = .pv u y → offT t n p = some o → ∃ c1, Sub c1 cs o ∧ RepC w E u y c1
  | t, x, n, p, cs, u, y, o, h, hg, ho => by
    have base : getT t x n p = .pv t x → offT t n p = some 0 → ∃ c1, Sub c1 cs o ∧ RepC w E u y c1 := by
      intro e1 e2
      rw [e1] at hg
      rw [e2] at ho
      cases hg
      cases ho
      exact ⟨cs, Sub.refl cs, h⟩
    match t, n, p, x, h, hg, ho, base with
    | .pair a b, some 0, p, x, ⟨c1, c2, e, h1, h2⟩, hg, ho, _ =>
      simp only [getT, offT] at hg ho
      obtain ⟨c, k1, k2⟩ := getT_spec a (pFst x) none p c1 u y o h1 hg ho
      exact ⟨c, by rw [e]; simpa using (Sub.left c1 c2).trans k1, k2⟩
    | .pair a b, some (n + 1), p, x, ⟨c1, c2, e, h1, h2⟩, hg, ho, _ =>
      simp only [getT, offT, Option.map_eq_some_iff] at hg ho
      obtain ⟨o', ho2, rfl⟩ := ho
      obtain ⟨c, k1, k2⟩ := getT_spec b (pSnd x) (some n) p c2 u y o' h2 hg ho2
      refine ⟨c, ?_, k2⟩
      rw [e, ← RepC.len a _ _ h1]
      exact (Sub.right c1 c2).trans k1
    | .st a, none, .fld n :: p, x, h, hg, ho, _ =>
      simp only [getT, offT] at hg ho
      exact getT_spec a x (some n) p cs u y o h hg ho
    | .st a, some 0, .fld n :: p, x, h, hg, ho, _ =>
      simp only [getT, offT] at hg ho
      exact getT_spec a x (some n) p cs u y o h hg ho
    | .arr m a, none, .idx i :: p, x, ⟨hl, h⟩, hg, ho, _ =>
      simp only [getT, offT] at hg ho
      split at ho
      · rename_i hi
        simp only [Option.map_eq_some_iff] at ho
        obtain ⟨o', ho2, rfl⟩ := ho
        obtain ⟨c, k1, k2⟩ := RepL.sub (RepC.len a) x cs (Int.toNat i) a.dflt (by rw [hl]; exact toNat_lt' hi) h
        obtain ⟨c', j1, j2⟩ := getT_spec a _ none p c u y o' k2 hg ho2
        exact ⟨c', k1.trans j1, j2⟩
      · cases ho
    | .arr m a, some 0, .idx i :: p, x, ⟨hl, h⟩, hg, ho, _ =>
      simp only [getT, offT] at hg ho
      split at ho
      · rename_i hi
        simp only [Option.map_eq_some_iff] at ho
        obtain ⟨o', ho2, rfl⟩ := ho
        obtain ⟨c, k1, k2⟩ := RepL.sub (RepC.len a) x cs (Int.toNat i) a.dflt (by rw [hl]; exact toNat_lt' hi) h
        obtain ⟨c', j1, j2⟩ := getT_spec a _ none p c u y o' k2 hg ho2
        exact ⟨c', k1.trans j1, j2⟩
      · cases ho
    | .pair a b, none, [], x, h, hg, ho, base => exact base rfl rfl
    | .int k, none, [], x, h, hg, ho, base | .int k, some 0, [], x, h, hg, ho, base => exact base rfl rfl
    | .bool, none, [], x, h, hg, ho, base | .bool, some 0, [], x, h, hg, ho, base => exact base rfl rfl
    | .str, none, [], x, h, hg, ho, base | .str, some 0, [], x, h, hg, ho, base => exact base rfl rfl
    | .unit, none, [], x, h, hg, ho, base | .unit, some 0, [], x, h, hg, ho, base => exact base rfl rfl
    | .st a, none, [], x, h, hg, ho, base | .st a, some 0, [], x, h, hg, ho, base => exact base rfl rfl
    | .arr m a, none, [], x, h, hg, ho, base | .arr m a, some 0, [], x, h, hg, ho, base => exact base rfl rfl
    | .sl _ a, none, [], x, h, hg, ho, base | .sl _ a, some 0, [], x, h, hg, ho, base => exact base rfl rfl
    | .int k, _, _ :: _, x, h, hg, ho, base | .bool, _, _ :: _, x, h, hg, ho, base | .str, _, _ :: _, x, h, hg, ho, base | .unit, _, _ :: _, x, h, hg, ho, base | .sl _ _, _, _ :: _, x, h, hg, ho, base => simp [getT] at hg
    | .pair _ _, none, _ :: _, x, h, hg, ho, base => simp [getT] at hg
    | .st _, none, .idx _ :: _, x, h, hg, ho, base | .st _, some 0, .idx _ :: _, x, h, hg, ho, base => simp [getT] at hg
    | .arr _ _, none, .fld _ :: _, x, h, hg, ho, base | .arr _ _, some 0, .fld _ :: _, x, h, hg, ho, base => simp [getT] at hg
    | .int k, some (_ + 1), _, x, h, hg, ho, base | .bool, some (_ + 1), _, x, h, hg, ho, base | .str, some (_ + 1), _, x, h, hg, ho, base | .unit, some (_ + 1), _, x, h, hg, ho, base | .sl _ _, some (_ + 1), _, x, h, hg, ho, base
    | .st _, some (_ + 1), _, x, h, hg, ho, base | .arr _ _, some (_ + 1), _, x, h, hg, ho, base => simp [getT] at hg
theorem getT_app {s : Stp} {q : List Stp} : ∀ (t : Ty) (x : t.T) (n : Option Nat) (p : List Stp) (u : Ty) (y : u.T), getT t x n p = .pv u y →
    getT t x n (p ++ s :: q) = getT u y none (s :: q) ∧ ∀ o, offT t n p = some o → offT t n (p ++ s :: q) = (offT u none (s :: q)).map (o + ·) := by
  intro t x n p
  induction t, x, n, p using getT.induct with
  | case1 a b p x ih => intro u y h; simp only [getT, offT] at h ⊢; exact ih u y h
  | case2 a b n p x ih =>
    intro u y h
    simp only [getT, offT, Option.map_eq_some_iff] at h ⊢
    obtain ⟨h1, h2⟩ := ih u y h
    refine ⟨h1, ?_⟩
    rintro o ⟨o', e, rfl⟩
    rw [h2 o' e, Option.map_map]
    congr 1
    funext z
    simp [Nat.add_assoc]
  | case3 t x =>
    intro u y h
    simp only [getT] at h
    cases h
    refine ⟨rfl, ?_⟩
    intro o ho
    have : o = 0 := by cases t <;> simp [offT] at ho <;> exact ho.symm
    subst this
    simp
  | case4 t x h1 =>
    intro u y h
    have hp : ∀ a b, t = .pair a b → False := fun a b e => by subst e; exact h1 a b x rfl HEq.rfl
    have e1 : getT t x (some 0) [] = .pv t x := by cases t <;> first | rfl | exact (hp _ _ rfl).elim
    rw [e1] at h
    cases h
    refine ⟨by cases t <;> first | (cases s <;> rfl) | exact (hp _ _ rfl).elim, ?_⟩
    intro o ho
    have : o = 0 := by cases t <;> first | exact (hp _ _ rfl).elim | (simp [offT] at ho; exact ho.symm)
    subst this
    simp only [List.nil_append, Nat.zero_add, Option.map_id']
    cases t <;> first | (cases s <;> rfl) | exact (hp _ _ rfl).elim
  | case5 a n p x ih => intro u y h; simp only [getT, offT, List.cons_append] at h ⊢; exact ih u y h
  | case6 a n p x ih => intro u y h; simp only [getT, offT, List.cons_append] at h ⊢; exact ih u y h
  | case7 m a i p x ih =>
    intro u y h
    simp only [getT, offT, List.cons_append] at h ⊢
    obtain ⟨h1, h2⟩ := ih u y h
    refine ⟨h1, ?_⟩
    intro o ho
    split at ho
    · rename_i hi
      rw [if_pos hi]
      simp only [Option.map_eq_some_iff] at ho
      obtain ⟨o', e, rfl⟩ := ho
      rw [h2 o' e, Option.map_map]
      congr 1
      funext z
      simp [Nat.add_assoc]
    · cases ho
  | case8 m a i p x ih =>
    intro u y h
    simp only [getT, offT, List.cons_append] at h ⊢
    obtain ⟨h1, h2⟩ := ih u y h
    refine ⟨h1, ?_⟩
    intro o ho
    split at ho
    · rename_i hi
      rw [if_pos hi]
      simp only [Option.map_eq_some_iff] at ho
      obtain ⟨o', e, rfl⟩ := ho
      rw [h2 o' e, Option.map_map]
      congr 1
      funext z
      simp [Nat.add_assoc]
    · cases ho
  | case9 t n p h1 h2 x h3 h4 h5 h6 h7 h8 =>
    intro u y h
    rw [getT.eq_9 _ _ _ _ h3 h4 h1 h2 h5 h6 h7 h8] at h
    cases h
theorem getT_or : ∀ (t : Ty) (x : t.T) (n : Option Nat) (p : List Stp), getT t x n p = .undef ∨ ∃ u y, getT t x n p = .pv u y := by
  intro t x n p
  induction t, x, n, p using getT.induct with
  | case1 a b p x ih => simpa only [getT] using ih
  | case2 a b n p x ih => simpa only [getT] using ih
  | case3 t x => exact .inr ⟨t, x, by simp only [getT]⟩
  | case4 t x h1 =>
    have hp : ∀ a b, t = .pair a b → False := fun a b e => by subst e; exact h1 a b x rfl HEq.rfl
    exact .inr ⟨t, x, by cases t <;> first | rfl | exact (hp _ _ rfl).elim⟩
  | case5 a n p x ih => simpa only [getT] using ih
  | case6 a n p x ih => simpa only [getT] using ih
  | case7 m a i p x ih => simpa only [getT] using ih
  | case8 m a i p x ih => simpa only [getT] using ih
  | case9 t n p h1 h2 x h3 h4 h5 h6 h7 h8 => exact .inl (getT.eq_9 _ _ _ _ h3 h4 h1 h2 h5 h6 h7 h8)
theorem AVC1.len {v : AV} {c : List Value} (h : AVC1 w E I v c) : c.length = v.csz := by
  cases v <;> simp only [AVC1, partC] at h <;> first | exact RepC.len _ _ _ h | exact h.elim | (obtain ⟨u, rfl, _⟩ := h; rfl)
theorem AVCL.sub : ∀ (fs : List AV) (cs : List Value) (n : Nat), AVCL w E I fs cs → n < fs.length → ∃ c1, Sub c1 cs (cszL (fs.take n)) ∧ AVC1 w E I (nthD .undef fs n) c1
  | v :: r, cs, 0, h, _ => by
    obtain ⟨c1, c2, e, h1, h2⟩ := AVCL_cons.1 h
    exact ⟨c1, by rw [e]; exact Sub.left c1 c2, h1⟩
  | v :: r, cs, n + 1, h, hn => by
    obtain ⟨c1, c2, e, h1, h2⟩ := AVCL_cons.1 h
    obtain ⟨c, k1, k2⟩ := AVCL.sub r c2 n h2 (by simpa using hn)
    refine ⟨c, ?_, k2⟩
    rw [e]
    have := (Sub.right c1 c2).trans k1
    rwa [h1.len] at this
theorem VarC.of_part {v : AV} {c : List Value} (h : AVC1 w E I v c) : VarC w E I v c := by
  cases v <;> first | exact h | (simp only [AVC1, partC] at h; done) | (simp only [AVC1, partC] at h; (obtain ⟨u, h1, h2, _⟩ := h; exact ⟨u, h1, h2⟩))
theorem VarC.pv {t : Ty} {x : t.T} {c : List Value} : VarC w E I (.pv t x) c ↔ RepC w E t x c := Iff.rfl
theorem getP_spec : ∀ (p : List Stp) (v : AV) (cs : List Value) (o : Nat), VarC w E I v cs → offA p v = some o → AV.getP p v = .undef ∨ ∃ c1, Sub c1 cs o ∧ VarC w E I (AV.getP p v) c1
  | [], v, cs, o, h, ho => by
    simp only [offA] at ho
    cases ho
    exact .inr ⟨cs, Sub.refl cs, by simpa only [AV.getP] using h⟩
  | s :: p, .pv t x, cs, o, h, ho => by
    simp only [offA, AV.getP] at ho ⊢
    rcases getT_or t x none (s :: p) with e | ⟨u, y, e⟩
    · exact .inl e
    · obtain ⟨c1, h1, h2⟩ := getT_spec t x none (s :: p) cs u y o h e ho
      exact .inr ⟨c1, h1, by rw [e]; exact h2⟩
  | .fld n :: p, .agg fs, cs, o, h, ho => by
    simp only [offA, AV.getP] at ho ⊢
    split at ho
    · rename_i hn
      simp only [Option.map_eq_some_iff] at ho
      obtain ⟨o', e, rfl⟩ := ho
      obtain ⟨c, k1, k2⟩ := AVCL.sub fs cs n h hn
      rcases getP_spec p (nthD .undef fs n) c o' (.of_part k2) e with h1 | ⟨c1, h1, h2⟩
      · exact .inl h1
      · exact .inr ⟨c1, k1.trans h1, h2⟩
    · cases ho
  | .idx i :: p, .agg fs, cs, o, h, ho => by simp [offA] at ho
  | .fld _ :: p, .undef, cs, o, h, ho | .fld _ :: p, .lit _, cs, o, h, ho | .fld _ :: p, .nil _, cs, o, h, ho | .fld _ :: p, .ptr _ _, cs, o, h, ho | .fld _ :: p, .fad _ _, cs, o, h, ho | .fld _ :: p, .sl _, cs, o, h, ho
  | .fld _ :: p, .slr _ _ _, cs, o, h, ho | .fld _ :: p, .asl _ _ _ _, cs, o, h, ho | .fld _ :: p, .mp _, cs, o, h, ho | .fld _ :: p, .clo _ _, cs, o, h, ho | .fld _ :: p, .yld _, cs, o, h, ho | .fld _ :: p, .tup _, cs, o, h, ho
  | .fld _ :: p, .cst _, cs, o, h, ho => by simp [offA] at ho
  | .idx _ :: p, .undef, cs, o, h, ho | .idx _ :: p, .lit _, cs, o, h, ho | .idx _ :: p, .nil _, cs, o, h, ho | .idx _ :: p, .ptr _ _, cs, o, h, ho | .idx _ :: p, .fad _ _, cs, o, h, ho | .idx _ :: p, .sl _, cs, o, h, ho
  | .idx _ :: p, .slr _ _ _, cs, o, h, ho | .idx _ :: p, .asl _ _ _ _, cs, o, h, ho | .idx _ :: p, .mp _, cs, o, h, ho | .idx _ :: p, .clo _ _, cs, o, h, ho | .idx _ :: p, .yld _, cs, o, h, ho | .idx _ :: p, .tup _, cs, o, h, ho
  | .idx _ :: p, .cst _, cs, o, h, ho => by simp [offA] at ho
theorem getP_app {s : Stp} {q : List Stp} : ∀ (p : List Stp) (v : AV), AV.getP p v ≠ .undef → AV.getP (p ++ s :: q) v = AV.getP (s :: q) (AV.getP p v) ∧
    ∀ o, offA p v = some o → offA (p ++ s :: q) v = (offA (s :: q) (AV.getP p v)).map (o + ·)
  | [], v, h => by
    refine ⟨by simp only [AV.getP, List.nil_append], ?_⟩
    intro o ho
    simp only [offA, Option.some.injEq] at ho
    subst ho
    simp [AV.getP]
  | r :: p, .pv t x, h => by
    simp only [AV.getP, offA, List.cons_append] at h ⊢
    rcases getT_or t x none (r :: p) with e | ⟨u, y, e⟩
    · exact (h e).elim
    · have := getT_app (s := s) (q := q) t x none (r :: p) u y e
      simp only [List.cons_append] at this
      rw [e]
      simpa only [AV.getP, offA] using this
  | .fld n :: p, .agg fs, h => by
    simp only [AV.getP, offA, List.cons_append] at h ⊢
    obtain ⟨h1, h2⟩ := getP_app (s := s) (q := q) p (nthD .undef fs n) h
    refine ⟨h1, ?_⟩
    intro o ho
    split at ho
    · rename_i hn
      rw [if_pos hn]
      simp only [Option.map_eq_some_iff] at ho
      obtain ⟨o', e, rfl⟩ := ho
      rw [h2 o' e, Option.map_map]
      congr 1
      funext z
      simp [Nat.add_assoc]
    · cases ho
  | .idx i :: p, .agg fs, h => by simp [AV.getP] at h
  | .fld _ :: p, .undef, h | .fld _ :: p, .lit _, h | .fld _ :: p, .nil _, h | .fld _ :: p, .ptr _ _, h | .fld _ :: p, .fad _ _, h | .fld _ :: p, .sl _, h
  | .fld _ :: p, .slr _ _ _, h | .fld _ :: p, .asl _ _ _ _, h | .fld _ :: p, .mp _, h | .fld _ :: p, .clo _ _, h | .fld _ :: p, .yld _, h | .fld _ :: p, .tup _, h
  | .fld _ :: p, .cst _, h => by simp [AV.getP] at h
  | .idx _ :: p, .undef, h | .idx _ :: p, .lit _, h | .idx _ :: p, .nil _, h | .idx _ :: p, .ptr _ _, h | .idx _ :: p, .fad _ _, h | .idx _ :: p, .sl _, h
  | .idx _ :: p, .slr _ _ _, h | .idx _ :: p, .asl _ _ _ _, h | .idx _ :: p, .mp _, h | .idx _ :: p, .clo _ _, h | .idx _ :: p, .yld _, h | .idx _ :: p, .tup _, h
  | .idx _ :: p, .cst _, h => by simp [AV.getP] at h
end
end Go.Xr
namespace Go.Xr
open Go
theorem len_eq {α : Type} : ∀ l : List α, len l = l.length
  | [] => rfl
  | _ :: r => by rw [len, len_eq r]; rfl
theorem Addr.add_none {b o i : Nat} : (⟨b, o, none⟩ : Addr).add i = ⟨b, o + i, none⟩ := by unfold Addr.add; split <;> simp_all
section
variable {F : Fence} {n : Nat} {P : Program} {K : Kit} {o : Oper} {a : Act} {w w' : World} {R : Act → World → Prop} {Qx : Exit → Act → World → Prop} {u : Value}
variable {b : Base} {us : List (Array Value)} {c : Cx} {s : AS} {Q : Ex → AS → Prop} {T : TypeId}
theorem run_size {i : TypeInfo} (h : P.info? T = some i) : (Go.sizeOf T).run P w = .ok i.size w := by simp [Go.sizeOf, typeInfo, h]
theorem run_isAgg {d : TypeDesc} (h : P.underlying T = some d) : (Go.isAgg T).run P w = .ok (match d with | .struct _ => true | .array _ _ => true | _ => false) w := by
  unfold Go.isAgg underlying
  cases d <;> simp [h]
theorem oneCell_spec {z : Value → Bool} (h : oneCellB P T z = true) : ∃ i v, P.info? T = some i ∧ i.size = 1 ∧ i.zero = some v ∧ z v = true := by
  unfold oneCellB at h
  split at h
  · rename_i i hi
    simp only [Bool.and_eq_true] at h
    obtain ⟨h1, h2⟩ := h
    split at h2
    · rename_i v hv; exact ⟨i, v, hi, Nat.eq_of_beq_eq_true h1, hv, h2⟩
    · cases h2
  · cases h
theorem td_slice (hK : KitOK P K) {e : TypeId} (h : K.td T = .slice e) : P.underlying T = some (.slice e) ∧ ∃ i, P.info? T = some i ∧ i.size = 1 ∧ i.zero = some (.slice none 0 0) := by
  have := hK.td T
  unfold tdB at this
  rw [h] at this
  simp only [Bool.and_eq_true] at this
  obtain ⟨⟨h1, h2⟩, _⟩ := this
  obtain ⟨i, v, hi, hs, hz, hv⟩ := oneCell_spec h2
  refine ⟨?_, i, hi, hs, ?_⟩
  · split at h1
    · rename_i e' hu; rw [hu, Nat.eq_of_beq_eq_true h1]
    · cases h1
  · split at hv
    · exact hz
    · cases hv
theorem td_sl (hK : KitOK P K) {e : TypeId} (h : K.td T = .slice e) {t : Ty} (ht : K.td e = .pure t) : tyB P (.sl false t) (.inl T) = true := by
  have := hK.td T
  unfold tdB at this
  rw [h] at this
  simp only [Bool.and_eq_true] at this
  obtain ⟨_, h3⟩ := this
  rw [ht] at h3
  exact h3
theorem td_ptr (hK : KitOK P K) {e : TypeId} (h : K.td T = .ptr e) : P.underlying T = some (.pointer e) ∧ ∃ i, P.info? T = some i ∧ i.size = 1 ∧ i.zero = some (.pointer none) := by
  have := hK.td T
  unfold tdB at this
  rw [h] at this
  simp only [Bool.and_eq_true] at this
  obtain ⟨h1, h2⟩ := this
  obtain ⟨i, v, hi, hs, hz, hv⟩ := oneCell_spec h2
  refine ⟨?_, i, hi, hs, ?_⟩
  · split at h1
    · rename_i e' hu; rw [hu, Nat.eq_of_beq_eq_true h1]
    · cases h1
  · split at hv
    · exact hz
    · cases hv
theorem td_map (hK : KitOK P K) {k e : TypeId} (h : K.td T = .map k e) : P.underlying T = some (.map k e) ∧ ∃ i, P.info? T = some i ∧ i.size = 1 ∧ i.zero = some (.map none) := by
  have := hK.td T
  unfold tdB at this
  rw [h] at this
  simp only [Bool.and_eq_true] at this
  obtain ⟨h1, h2⟩ := this
  obtain ⟨i, v, hi, hs, hz, hv⟩ := oneCell_spec h2
  refine ⟨?_, i, hi, hs, ?_⟩
  · split at h1
    · rename_i k' e' hu
      simp only [Bool.and_eq_true] at h1
      rw [hu, Nat.eq_of_beq_eq_true h1.1, Nat.eq_of_beq_eq_true h1.2]
    · cases h1
  · split at hv
    · exact hz
    · cases hv
theorem td_fn (hK : KitOK P K) (h : K.td T = .fn) : (∃ x y z, P.underlying T = some (.func x y z)) ∧ ∃ i, P.info? T = some i ∧ i.size = 1 ∧ i.zero = some .nilFunc := by
  have := hK.td T
  unfold tdB at this
  rw [h] at this
  simp only [Bool.and_eq_true] at this
  obtain ⟨h1, h2⟩ := this
  obtain ⟨i, v, hi, hs, hz, hv⟩ := oneCell_spec h2
  refine ⟨?_, i, hi, hs, ?_⟩
  · split at h1
    · rename_i x y z hu; exact ⟨x, y, z, hu⟩
    · cases h1
  · split at hv
    · exact hz
    · cases hv
theorem td_struct (hK : KitOK P K) {fs : List TypeId} (h : K.td T = .struct fs) : ∃ fields i, P.underlying T = some (.struct fields) ∧ fieldsB P K fields.toList fs 0 = true ∧ P.info? T = some i ∧ i.size = fs.foldr (fun T n => Nat.add (K.sz1 T) n) 0 ∧ ∃ z, i.zero = some (.agg z) ∧ zerosB K fs z.toList = true := by
  have := hK.td T
  unfold tdB at this
  rw [h] at this
  simp only [Bool.and_eq_true] at this
  obtain ⟨h1, h2⟩ := this
  split at h1
  · rename_i fields hu
    split at h2
    · rename_i i hi
      simp only [Bool.and_eq_true] at h2
      obtain ⟨h2, h3⟩ := h2
      split at h3
      · rename_i z hz
        exact ⟨fields, i, hu, h1, hi, Nat.eq_of_beq_eq_true h2, z, hz, h3⟩
      · cases h3
    · cases h2
  · cases h1
theorem sz_spec (hK : KitOK P K) {m : Nat} {g : Bool} (h : K.sz T = some (m, g)) : (∀ w, (Go.sizeOf T).run P w = .ok m w) ∧ ∀ w, (Go.isAgg T).run P w = .ok g w := by
  unfold Kit.sz at h
  split at h
  · rename_i t ht
    cases h
    exact ⟨fun w => info_size (td_pure hK ht).1, fun w => info_agg (td_pure hK ht).1⟩
  · rename_i fs hf
    cases h
    obtain ⟨fields, i, hu, _, hi, hs, _⟩ := td_struct hK hf
    exact ⟨fun w => by rw [run_size hi, hs], fun w => by rw [run_isAgg hu]⟩
  · cases h
  · rename_i h1 h2 h3
    cases h
    cases ht : K.td T with
    | pure t => exact (h1 t ht).elim
    | struct fs => exact (h2 fs ht).elim
    | other => exact (h3 ht).elim
    | slice e => obtain ⟨hu, i, hi, hs, _⟩ := td_slice hK ht; exact ⟨fun w => by rw [run_size hi, hs], fun w => by rw [run_isAgg hu]⟩
    | ptr e => obtain ⟨hu, i, hi, hs, _⟩ := td_ptr hK ht; exact ⟨fun w => by rw [run_size hi, hs], fun w => by rw [run_isAgg hu]⟩
    | map k e => obtain ⟨hu, i, hi, hs, _⟩ := td_map hK ht; exact ⟨fun w => by rw [run_size hi, hs], fun w => by rw [run_isAgg hu]⟩
    | fn => obtain ⟨⟨x, y, z, hu⟩, i, hi, hs, _⟩ := td_fn hK ht; exact ⟨fun w => by rw [run_size hi, hs], fun w => by rw [run_isAgg hu]⟩
theorem szEq_spec {x y : Option (Nat × Bool)} (h : szEq x y = true) : ∃ m g, x = some (m, g) ∧ y = some (m, g) := by
  unfold szEq at h
  split at h
  · rename_i n' a' m' b'
    simp only [Bool.and_eq_true, beq_iff_eq] at h
    exact ⟨_, _, by rw [Nat.eq_of_beq_eq_true h.1, h.2], rfl⟩
  · cases h
theorem VarC.len {w : World} {E : Bool → Nat → Prop} {I : Nat → Option BI} {v : AV} {cs : List Value} {m : Nat} {g : Bool} (h : VarC w E I v cs) (hs : v.sz = some (m, g)) : cs.length = m := by
  have key : AVC1 w E I v cs → cs.length = v.csz := fun h => h.len
  cases v with
  | undef => simp [AV.sz] at hs
  | agg fs =>
    simp only [AV.sz, Option.some.injEq, Prod.mk.injEq] at hs
    rw [← hs.1]
    clear key hs
    simp only [VarC] at h
    induction fs generalizing cs with
    | nil => rw [AVCL_nil.1 h]; rfl
    | cons v r ih =>
      obtain ⟨c1, c2, e, h1, h2⟩ := AVCL_cons.1 h
      rw [e, List.length_append, h1.len, ih h2]
      rfl
  | tup fs => simp [AV.sz] at hs
  | cst k => simp [AV.sz] at hs
  | pv t x => simp only [AV.sz, Option.some.injEq, Prod.mk.injEq] at hs; rw [key h, ← hs.1]; rfl
  | _ => simp only [AV.sz, Option.some.injEq, Prod.mk.injEq] at hs; rw [key h, ← hs.1]; rfl
theorem sz_one (hK : KitOK P K) {m : Nat} (h : K.sz T = some (m, false)) : m = 1 := by
  unfold Kit.sz at h
  split at h
  · rename_i t ht
    obtain ⟨hT, _⟩ := td_pure hK ht
    simp only [Option.some.injEq, Prod.mk.injEq] at h
    rw [← h.1]
    have ha := h.2
    cases t <;> simp_all [Ty.isAgg, Ty.size, tyB]
  · cases h
  · cases h
  · cases h; rfl
theorem VarC.out {w : World} {E : Bool → Nat → Prop} {I : Nat → Option BI} {v : AV} {cs : List Value} {m : Nat} {g : Bool} (h : VarC w E I v cs) (hs : v.sz = some (m, g)) (h1 : g = false → m = 1) :
    ∃ u, IsV g cs u ∧ AVR w E I v u := by
  have hl := h.len hs
  cases v with
  | undef => simp [AV.sz] at hs
  | tup fs => simp [AV.sz] at hs
  | cst k => simp [AV.sz] at hs
  | agg fs =>
    simp only [AV.sz, Option.some.injEq, Prod.mk.injEq] at hs
    cases hs.2
    exact ⟨.agg cs.toArray, rfl, by simp only [AVR]; exact ⟨cs, rfl, h⟩⟩
  | pv t x =>
    simp only [AV.sz, Option.some.injEq, Prod.mk.injEq] at hs
    obtain ⟨rfl, rfl⟩ := hs
    cases hg : t.isAgg with
    | true => exact ⟨.agg cs.toArray, rfl, by simp only [AVR]; exact ⟨cs, h, by rw [hg]; rfl⟩⟩
    | false =>
      rw [h1 hg] at hl
      match cs, hl with
      | [u], _ => exact ⟨u, rfl, by simp only [AVR]; exact ⟨[u], h, by rw [hg]; rfl⟩⟩
  | _ =>
    simp only [AV.sz, Option.some.injEq, Prod.mk.injEq] at hs
    cases hs.2
    simp only [VarC, AVC1, partC] at h
    obtain ⟨u, e, _, k⟩ := h
    exact ⟨u, e, k⟩
theorem run_loadVar_reads (hK : KitOK P K) {m : Nat} {g : Bool} (hT : K.sz T = some (m, g)) {blk off : Nat} {cs : List Value} (hl : cs.length = m) (hr : Reads w blk off cs) (hv : IsV g cs u) :
    (loadVar T ⟨blk, off, none⟩).run P w = .ok u w := by
  obtain ⟨h1, h2⟩ := sz_spec hK hT
  unfold loadVar
  simp only [Sem.run_bind, h2, Result.andThen_ok]
  cases g with
  | true =>
    simp only [if_true, Sem.run_bind, h1, Result.andThen_ok]
    rw [← hl, run_loadCells_list w ⟨blk, off, none⟩ cs (fun j v hj => by rw [Addr.add_none]; exact hr j v hj)]
    simp only [Result.andThen_ok, Sem.run_pure]
    simp only [IsV, if_true] at hv
    rw [hv]
  | false =>
    have := sz_one hK hT
    subst this
    simp only [IsV, Bool.false_eq_true, if_false] at hv
    subst hv
    have := hr 0 u (by simp)
    simp only [Nat.add_zero] at this
    simp [run_load, this]
theorem RepL.reads_nil : True := trivial
theorem field_off : ∀ (t : Ty) (x : t.T) (fs : List Field) (off f : Nat) (v : Ty) (y : v.T), tyB P t (.inr (fs, off)) = true → getT t x (some f) [] = .pv v y → 0 < v.size →
    ∃ fl o, fs[f]? = some fl ∧ offT t (some f) [] = some o ∧ fl.offset = off + o ∧ tyB P v (.inl fl.type) = true := by
  intro t
  have single : ∀ {R : TypeId → Bool} {fs : List Field} {off : Nat}, oneB P (.inr (fs, off)) R = true → ∃ f, fs = [f] ∧ f.offset = off ∧ R f.type = true := by
    intro R fs off hR
    match fs, hR with
    | [f], hR =>
      simp only [oneB, Bool.and_eq_true, Bool.not_eq_true'] at hR
      exact ⟨f, rfl, Nat.eq_of_beq_eq_true hR.1.1, hR.2⟩
  induction t with
  | pair a b iha ihb =>
    intro x fs off f v y hT hg hv
    match fs, hT with
    | fl :: fs, hT =>
      simp only [tyB, Bool.and_eq_true, Bool.not_eq_true'] at hT
      obtain ⟨⟨⟨ho, hn⟩, hta⟩, htb⟩ := hT
      cases f with
      | zero =>
        simp only [getT] at hg
        cases hg
        exact ⟨fl, 0, rfl, by cases a <;> rfl, by simpa using Nat.eq_of_beq_eq_true ho, hta⟩
      | succ f =>
        simp only [getT] at hg
        obtain ⟨fl', o, h1, h2, h3, h4⟩ := ihb (pSnd x) fs _ f v y htb hg hv
        exact ⟨fl', a.size + o, by simpa using h1, by simp only [offT, h2, Option.map_some], by rw [h3]; exact Nat.add_assoc _ _ _, h4⟩
  | unit =>
    intro x fs off f v y hT hg hv
    cases f with
    | zero => simp only [getT] at hg; cases hg; simp [Ty.size] at hv
    | succ f => simp [getT] at hg
  | _ =>
    intro x fs off f v y hT hg hv
    cases f with
    | zero =>
      simp only [getT] at hg
      cases hg
      obtain ⟨fl, h1, h2, h3⟩ := single hT
      exact ⟨fl, 0, by rw [h1]; rfl, rfl, by simpa using h2, h3⟩
    | succ f => simp [getT] at hg
theorem isSt_pv (hK : KitOK P K) {t : Ty} {x : t.T} (h : K.isSt T (.pv t x) = true) : tyB P t (.inl T) = true := by
  unfold Kit.isSt at h
  simp only at h
  split at h
  · rename_i t' ht
    rw [Ty.eqt_eq h]
    exact (td_pure hK ht).1
  · cases h
theorem field_pv (hK : KitOK P K) {t : Ty} {x : t.T} {f : Nat} {v : Ty} {y : v.T} (h : K.isSt T (.pv t x) = true) (hg : getT t x none [.fld f] = .pv v y) (hv : 0 < v.size) :
    ∃ fields fl, P.underlying T = some (.struct fields) ∧ fields[f]? = some fl ∧ offT t none [.fld f] = some fl.offset ∧ tyB P v (.inl fl.type) = true := by
  have hT := isSt_pv hK h
  cases t with
  | st a =>
    obtain ⟨fs, hu, hr, _⟩ := tyB_st hT
    simp only [getT] at hg
    obtain ⟨fl, o, h1, h2, h3, h4⟩ := field_off a x fs.toList 0 f v y hr hg hv
    exact ⟨fs, fl, hu, by simpa using h1, by simp only [offT]; rw [h2, h3, Nat.zero_add], h4⟩
  | _ => simp [getT] at hg
theorem fields_at : ∀ (fields : List Field) (fs : List TypeId) (gs : List AV) (off f : Nat), fieldsB P K fields fs off = true → Kit.isSt.sizesEq K fs gs = true → f < gs.length →
    ∃ fl i, fields[f]? = some fl ∧ fl.offset = off + cszL (gs.take f) ∧ P.info? fl.type = some i ∧ 0 < i.size ∧ fs[f]? = some fl.type ∧ i.size = (nthD .undef gs f).csz
  | fl :: r, T :: q, v :: gs, off, 0, h, hs, _ => by
    simp only [fieldsB, Bool.and_eq_true] at h
    simp only [Kit.isSt.sizesEq, Bool.and_eq_true] at hs
    obtain ⟨⟨⟨⟨h1, h2⟩, h3⟩, h4⟩, h5⟩ := h
    have h1 := Nat.eq_of_beq_eq_true h1
    have h2 := Nat.eq_of_beq_eq_true h2
    have h3 := Nat.le_of_ble_eq_true h3
    have hs1 := Nat.eq_of_beq_eq_true hs.1
    split at h4
    · rename_i i hi
      have h4 := Nat.eq_of_beq_eq_true h4
      exact ⟨fl, i, rfl, by simpa [cszL] using h1, by rw [h2]; exact hi, by omega, by rw [h2]; rfl, by rw [h4, hs1]; rfl⟩
    · cases h4
  | fl :: r, T :: q, v :: gs, off, f + 1, h, hs, hf => by
    simp only [fieldsB, Bool.and_eq_true] at h
    simp only [Kit.isSt.sizesEq, Bool.and_eq_true] at hs
    obtain ⟨⟨⟨⟨h1, h2⟩, h3⟩, h4⟩, h5⟩ := h
    have hs1 := Nat.eq_of_beq_eq_true hs.1
    obtain ⟨fl', i, k1, k2, k3, k4, k5, k6⟩ := fields_at r q gs _ f h5 hs.2 (by simpa using hf)
    refine ⟨fl', i, by simpa using k1, ?_, k3, k4, by simpa using k5, k6⟩
    rw [k2, hs1]
    exact Nat.add_assoc _ _ _
  | [], _ :: _, _, _, _, h, _, _ => by simp [fieldsB] at h
  | _ :: _, [], _, _, _, h, _, _ => by simp [fieldsB] at h
  | [], [], _ :: _, _, _, _, hs, _ => by simp [Kit.isSt.sizesEq] at hs
  | _, _, [], _, _, _, _, hf => by simp at hf
theorem field_agg (hK : KitOK P K) {gs : List AV} {f : Nat} (h : K.isSt T (.agg gs) = true) (hf : f < gs.length) :
    ∃ fields fl i, P.underlying T = some (.struct fields) ∧ fields[f]? = some fl ∧ fl.offset = cszL (gs.take f) ∧ P.info? fl.type = some i ∧ 0 < i.size ∧ i.size = (nthD .undef gs f).csz := by
  unfold Kit.isSt at h
  simp only at h
  split at h
  · rename_i fs ht
    obtain ⟨fields, i, hu, hb, _⟩ := td_struct hK ht
    obtain ⟨fl, i, k1, k2, k3, k4, _, k6⟩ := fields_at fields.toList fs gs 0 f hb h hf
    exact ⟨fields, fl, i, hu, by simpa using k1, by simpa using k2, k3, k4, k6⟩
  · cases h
theorem getP_pv {t : Ty} {x : t.T} {r : List Stp} : AV.getP r (.pv t x) = getT t x none r := by
  cases r with
  | nil => simp only [AV.getP, getT]
  | cons => simp only [AV.getP]
theorem offA_pv {t : Ty} {x : t.T} {r : List Stp} : offA r (.pv t x) = offT t none r := by
  cases r with
  | nil => cases t <;> rfl
  | cons => rfl
theorem place (h : St c us s a) {i : Nat} {p : List Stp} (hp : AVR c.w c.E (c.I s) (.ptr i p) u) (hv : s.at_ i p ≠ .undef) :
    ∃ blk o cs, u = .pointer (some ⟨blk, o, none⟩) ∧ Reads c.w blk o cs ∧ VarC c.w c.E (c.I s) (s.at_ i p) cs ∧
      ∀ st o', offA [st] (s.at_ i p) = some o' → PtrAt (c.I s) i (p ++ [st]) (.pointer (some ⟨blk, o + o', none⟩)) := by
  simp only [AVR, PtrAt] at hp
  cases hb : s.box i with
  | none => simp [AS.at_, hb] at hv
  | some b =>
    have hok := h.bx i b hb
    cases b with
    | cst k => exact hok.elim
    | var v =>
      obtain ⟨blk, cs, T, h1, h2, h3⟩ := hok
      have hI : c.I s i = some (.var blk (fun p => offA p (s.rv v)) (fun p => arrA p (s.rv v))) := by simp [Cx.I, boxI, hb, h1]
      simp only [hI] at hp
      obtain ⟨o, ho, rfl⟩ := hp
      have hat : s.at_ i p = AV.getP p (s.rv v) := by simp [AS.at_, hb]
      rw [hat] at hv ⊢
      rcases getP_spec p (s.rv v) cs o h3 ho with e | ⟨c1, k1, k2⟩
      · exact (hv e).elim
      · refine ⟨blk, o, c1, rfl, ?_, k2, ?_⟩
        · intro j z hj
          have := k1.get hj
          simp [World.cell?, h2, this]
        · intro st o' ho'
          simp only [PtrAt, hI]
          have := (getP_app (s := st) (q := []) p (s.rv v) hv).2 o ho
          rw [ho'] at this
          exact ⟨o + o', this, rfl⟩
    | buf kd t xs =>
      obtain rfl : kd = .sl := by
        cases kd with
        | sl => rfl
        | mp =>
          have hI : c.I s i = some (.buf .mp t 0 ((c.ρ i).map fun x => (x.1, 0, 0))) := by simp [Cx.I, boxI, hb]
          simp only [hI] at hp
        | lp q =>
          have hI : c.I s i = some (.buf (.lp 0) .unit 0 ((c.ρ i).map fun x => (x.1, 0, 0))) := by simp [Cx.I, boxI, hb]
          simp only [hI] at hp
        | mr =>
          have hI : c.I s i = some (.buf .mp t 0 ((c.ρ i).map fun x => (x.1, 0, 0))) := by simp [Cx.I, boxI, hb]
          simp only [hI] at hp
        | it =>
          have hI : c.I s i = some (.buf .it .unit 0 ((c.ρ i).map fun x => (x.1, 0, 0))) := by simp [Cx.I, boxI, hb]
          simp only [hI] at hp
          obtain ⟨_, _, _, _, rfl, _⟩ := hp
          exact (hv (by simp [AS.at_, hb, AV.getP])).elim
      obtain ⟨hm, hbx⟩ := hok
      have hI : c.I s i = some (.buf .sl t (List.length xs) ((c.ρ i).map fun x => (x.1, x.2, roomOf c.w x.1 x.2))) := by simp [Cx.I, boxI, hb]
      simp only [hI] at hp
      obtain ⟨k, r, o, rfl, ho, blk, base, room, hat, hk0, hk1, rfl⟩ := hp
      rcases hbx with ⟨h1, _⟩ | ⟨blk', base', arr, T, lo, hi, cs, h1, h2, h3, h4, h5, h6⟩
      · rw [h1] at hat; cases hat
      · rw [h1] at hat
        simp only [Option.map_some, Option.some.injEq, Prod.mk.injEq] at hat
        obtain ⟨rfl, rfl, rfl⟩ := hat
        have hat : s.at_ i (.idx k :: r) = getT t (pGet t.dflt xs k) none r := by simp [AS.at_, hb, getP_pv]
        rw [hat] at hv ⊢
        obtain ⟨c1, k1, k2⟩ := RepL.sub (RepC.len t) xs cs (Int.toNat k) t.dflt (toNat_lt' ⟨hk0, hk1⟩) h4
        rcases getT_or t (pGet t.dflt xs k) none r with e | ⟨v, y, e⟩
        · exact (hv e).elim
        · obtain ⟨c2, j1, j2⟩ := getT_spec t _ none r c1 v y o k2 e ho
          have hsub := k1.trans j1
          refine ⟨blk', _, c2, rfl, ?_, by rw [e]; exact j2, ?_⟩
          · intro j z hj
            have := h6 _ _ (hsub.get hj)
            simp only [World.cell?, h2]
            simpa [Nat.add_assoc] using this
          · intro st o' ho'
            simp only [PtrAt, hI, h1]
            rw [e] at ho'
            have := (getT_app (s := st) (q := []) t _ none r v y e).2 o ho
            have e2 : offT v none [st] = some o' := ho'
            rw [e2] at this
            exact ⟨k, r ++ [st], o + o', rfl, this, blk', base', _, rfl, hk0, hk1, by simp [Nat.add_assoc]⟩
theorem AVR_fad {E : Bool → Nat → Prop} {I : Nat → Option BI} {t : Ty} {x : t.T} : AVR w E I (.fad t x) u ↔ ∃ b blk off cs, u = .pointer (some ⟨blk, off, none⟩) ∧ E b blk ∧ RepC w E t x cs ∧ Reads w blk off cs := by simp only [AVR]
theorem loadT_sound (hF : HF F) (hK : KitOK P K) (h : St c us s a) (hfr : Fr b c s) {x : Operand} (ho : o.op = .load T x) (hs : (loadT K s o T (s.ev x)).sat Q) : o.wpIn F n P a c.w (Abs b us Q) Qx := by
  have hd : ∀ c, o.op ≠ .defer c := by intro c; rw [ho]; simp
  have hx := h.ev x
  have he : execOp a.eval o = (do let v ← Instr.loadAt T (a.eval x); pure (.value v)) := by simp only [execOp, ho]
  generalize s.ev x = X at *
  unfold loadT at hs
  split at hs
  · rename_i t y
    obtain ⟨hk, hs⟩ := sat_ok hs
    obtain ⟨m, g, e1, e2⟩ := szEq_spec hk
    cases e2
    obtain ⟨b', blk, off, cs, hu, hE, hr, hc⟩ := AVR_fad.1 hx
    have hv : VarC c.w c.E (c.I s) (.pv t y) cs := hr
    obtain ⟨z, hz, hz2⟩ := hv.out rfl (fun hg => by rw [hg] at e1; exact sz_one hK e1)
    refine val_one hF hd h hfr hs ?_ hz2
    rw [he, hu]
    simp only [Instr.loadAt, Instr.sureAddr, Sem.run_bind, Sem.run_pure, Result.andThen_ok, run_loadVar_reads hK e1 (RepC.len t _ _ hr) hc hz]
  · rename_i i p
    obtain ⟨hk, hs⟩ := sat_ok hs
    obtain ⟨m, g, e1, e2⟩ := szEq_spec hk
    have hne : s.at_ i p ≠ .undef := by intro e; rw [e] at e2; simp [AV.sz] at e2
    obtain ⟨blk, o', cs, hu, hc, hv, _⟩ := place h hx hne
    obtain ⟨z, hz, hz2⟩ := hv.out e2 (fun hg => by rw [hg] at e1; exact sz_one hK e1)
    refine val_one hF hd h hfr hs ?_ hz2
    rw [he, hu]
    simp only [Instr.loadAt, Instr.sureAddr, Sem.run_bind, Sem.run_pure, Result.andThen_ok, run_loadVar_reads hK e1 (hv.len e2) hc hz]
  · exact hs.elim
end
end Go.Xr
namespace Go.Xr
open Go
section
variable {F : Fence} {n : Nat} {P : Program} {K : Kit} {o : Oper} {a : Act} {w w' : World} {R : Act → World → Prop} {Qx : Exit → Act → World → Prop} {u : Value}
variable {b : Base} {us : List (Array Value)} {c : Cx} {s : AS} {Q : Ex → AS → Prop} {T : TypeId}
theorem toNat_add_le {x y : Int} {m : Nat} (h1 : 0 ≤ x) (h2 : 0 ≤ y) (h : x + y ≤ (m : Int)) : x.toNat + y.toNat ≤ m := by omega
theorem toNat_zero {x : Int} (h : x = 0) : x.toNat = 0 := by omega
theorem nth_eq {α : Type} : ∀ (l : List α) (k : Nat), nth l k = l[k]?
  | [], k => rfl
  | x :: r, 0 => rfl
  | x :: r, k + 1 => by simp [nth, nth_eq r k]
theorem getD_of {α : Type} {l : List α} {k : Nat} {x d : α} (h : l[k]? = some x) : nthD d l k = x := by rw [nthD_eq, nth_eq, h]; rfl
theorem run_part_sub {t : Ty} {T : TypeId} (hT : tyB P t (.inl T) = true) {xs c1 : List Value} {off : Nat} (hx : Sub c1 xs off) (hl : c1.length = t.size) :
    (part T xs.toArray off).run P w = .ok (valOf t c1) w := run_part_at hT hx hl
theorem AVR_of_rep {E : Bool → Nat → Prop} {I : Nat → Option BI} {t : Ty} {T : TypeId} (hT : tyB P t (.inl T) = true) {x : t.T} {cs : List Value} (h : RepC w E t x cs) : AVR w E I (.pv t x) (valOf t cs) := by
  simp only [AVR]
  refine ⟨cs, h, ?_⟩
  unfold IsV valOf
  cases ha : t.isAgg with
  | true => simp
  | false => obtain ⟨v, rfl⟩ := Ty.one_of hT ha (RepC.len t _ _ h); simp
theorem fieldT_sound (hF : HF F) (hK : KitOK P K) {call : Oper → AV → List AV → AS → Tree} (h : St c us s a) (hfr : Fr b c s) {x : Operand} {f : Nat} (ho : o.op = .field T x f) (hs : (opT K call s o).sat Q) : StepV F n P o a c.w (Abs b us Q) Qx := by
  have hd : ∀ c, o.op ≠ .defer c := by intro c; rw [ho]; simp
  have hx := h.ev x
  have he : execOp a.eval o = (do let v ← Instr.field T (a.eval x) f; pure (.value v)) := by simp only [execOp, ho]
  unfold opT at hs
  rw [ho] at hs
  simp only at hs
  generalize s.ev x = X at *
  split at hs
  · rename_i t y
    obtain ⟨hk, hs⟩ := sat_ok hs
    split at hs
    · rename_i v z hg
      obtain ⟨hv, hs⟩ := sat_ok hs
      obtain ⟨fields, fl, hu, hf, hoff, hty⟩ := field_pv hK hk hg (Nat.le_of_ble_eq_true hv)
      simp only [AVR] at hx
      obtain ⟨cs, hr, hisv⟩ := hx
      have hag : t.isAgg = true := by
        cases t with
        | st a => rfl
        | _ => simp [getT] at hg
      rw [hag] at hisv
      simp only [IsV, if_true] at hisv
      obtain ⟨c1, k1, k2⟩ := getT_spec t y none [.fld f] cs v z _ hr hg hoff
      refine val_done hF hd h hfr hs ?_ (AVR_of_rep hty k2)
      intro w'
      rw [he, hisv]
      simp only [Instr.field, Sem.run_bind, underlying_of hu, Result.andThen_ok, hf, asAgg, Sem.run_pure, run_part_sub hty k1 (RepC.len v _ _ k2)]
    · exact hs.elim
  · rename_i fs
    split at hs
    · rename_i ts hts
      obtain ⟨hk, hs⟩ := sat_ok hs
      simp only [Bool.and_eq_true] at hk
      obtain ⟨hk1, hk2⟩ := hk
      split at hk2
      · rename_i T' hT'
        obtain ⟨m, g, e1, e2⟩ := szEq_spec hk2
        have hlt : f < fs.length := by
          rcases Nat.lt_or_ge f fs.length with h | h
          · exact h
          · rw [nthD_eq, nth_eq, List.getElem?_eq_none h] at e2
            simp [AV.sz] at e2
        simp only [AVR] at hx
        obtain ⟨cs, hu, hcl⟩ := hx
        have hk1' := hk1
        unfold Kit.isSt at hk1
        rw [hts] at hk1
        simp only at hk1
        obtain ⟨fields, i0, hun, hb, _⟩ := td_struct hK hts
        obtain ⟨fl, i, k1, k2, k3, k4, k5, k6⟩ := fields_at fields.toList ts fs 0 f hb hk1 hlt
        have hTe : T' = fl.type := by rw [nth_eq] at hT'; rw [hT'] at k5; cases k5; rfl
        subst hTe
        obtain ⟨c1, j1, j2⟩ := AVCL.sub fs cs f hcl hlt
        obtain ⟨hsz, hag⟩ := sz_spec hK e1
        have hvc := VarC.of_part j2
        have hg1 : g = false → m = 1 := fun hg => by rw [hg] at e1; exact sz_one hK e1
        obtain ⟨z, hz, hz2⟩ := hvc.out e2 hg1
        refine val_done hF hd h hfr hs ?_ hz2
        intro w'
        have hoff : fl.offset = cszL (fs.take f) := by simpa using k2
        have hf : fields[f]? = some fl := by simpa using k1
        rw [he, hu]
        simp only [Instr.field, Sem.run_bind, underlying_of hun, Result.andThen_ok, hf, asAgg, Sem.run_pure]
        have hp : (part fl.type cs.toArray fl.offset).run P w' = .ok z w' := by
          unfold part
          simp only [Sem.run_bind, hag, Result.andThen_ok]
          rw [hoff]
          obtain ⟨pre, post, e3, e4⟩ := j1
          cases g with
          | true =>
            simp only [IsV, if_true] at hz
            have hl := hvc.len e2
            simp only [if_true, Sem.run_bind, hsz, Result.andThen_ok, Sem.run_pure, hz]
            subst e3
            rw [← e4, ← hl]
            simp
          | false =>
            simp only [IsV, Bool.false_eq_true, if_false] at hz
            subst hz
            subst e3
            rw [← e4]
            simp
        rw [hp]
        simp
      · cases hk2
    · exact hs.elim
  · exact hs.elim
theorem run_fieldPlace {fl : Field} {i : TypeInfo} (hi : P.info? fl.type = some i) (h0 : 0 < i.size) {blk off : Nat} : (fieldPlace ⟨blk, off, none⟩ fl).run P w = .ok ⟨blk, off + fl.offset, none⟩ w := by
  unfold fieldPlace
  have : i.size ≠ 0 := by omega
  simp [run_size hi, this, Addr.add_none]
theorem tyB_size {t : Ty} (h : tyB P t (.inl T) = true) : ∃ i, P.info? T = some i ∧ i.size = t.size ∧ 0 < i.size := by
  obtain ⟨i, z, hi, hs, h0, _⟩ := infoB_spec (tyB_info h)
  exact ⟨i, hi, hs, by omega⟩
theorem fieldAddrT_sound (hF : HF F) (hK : KitOK P K) (h : St c us s a) (hfr : Fr b c s) {x : Operand} {f : Nat} (ho : o.op = .fieldAddr T x f) (hs : (fieldAddrT K s o T (s.ev x) f).sat Q) : StepV F n P o a c.w (Abs b us Q) Qx := by
  have hd : ∀ c, o.op ≠ .defer c := by intro c; rw [ho]; simp
  have hx := h.ev x
  have he : execOp a.eval o = (do let v ← Instr.fieldAt T (a.eval x) f; pure (.value v)) := by simp only [execOp, ho]
  generalize s.ev x = X at *
  unfold fieldAddrT at hs
  split at hs
  · rename_i i p
    split at hs
    · rename_i t y hat
      obtain ⟨hk, hs⟩ := sat_ok hs
      split at hs
      · rename_i v z hg
        obtain ⟨hv, hs⟩ := sat_ok hs
        obtain ⟨fields, fl, hu, hf, hoff, hty⟩ := field_pv hK hk hg (Nat.le_of_ble_eq_true hv)
        obtain ⟨blk, o', cs, hu2, hc, hvc, hnext⟩ := place h hx (by rw [hat]; simp)
        rw [hat] at hnext
        have := hnext (.fld f) fl.offset hoff
        refine val_done hF hd h hfr hs (u := .pointer (some ⟨blk, o' + fl.offset, none⟩)) ?_ (by simp only [AVR]; exact this)
        intro w'
        obtain ⟨i, hi, _, h0⟩ := tyB_size hty
        rw [he, hu2]
        simp only [Instr.fieldAt, Sem.run_bind, underlying_of hu, Result.andThen_ok, hf, Instr.sureAddr, Sem.run_pure, run_fieldPlace hi h0]
      · exact hs.elim
    · rename_i gs hat
      obtain ⟨hk, hs⟩ := sat_ok hs
      simp only [Bool.and_eq_true] at hk
      have hlt : f < gs.length := by rw [← len_eq]; exact Nat.le_of_ble_eq_true hk.2
      obtain ⟨fields, fl, i, hu, hf, hoff, hi, h0, _⟩ := field_agg hK hk.1 hlt
      obtain ⟨blk, o', cs, hu2, hc, hvc, hnext⟩ := place h hx (by rw [hat]; simp)
      rw [hat] at hnext
      have := hnext (.fld f) fl.offset (by simp only [offA, if_pos hlt, Option.map_some, hoff, Nat.add_zero])
      refine val_done hF hd h hfr hs (u := .pointer (some ⟨blk, o' + fl.offset, none⟩)) ?_ (by simp only [AVR]; exact this)
      intro w'
      rw [he, hu2]
      simp only [Instr.fieldAt, Sem.run_bind, underlying_of hu, Result.andThen_ok, hf, Instr.sureAddr, Sem.run_pure, run_fieldPlace hi h0]
    · exact hs.elim
  · rename_i t y
    obtain ⟨hk, hs⟩ := sat_ok hs
    split at hs
    · rename_i v z hg
      obtain ⟨hv, hs⟩ := sat_ok hs
      obtain ⟨fields, fl, hu, hf, hoff, hty⟩ := field_pv hK hk hg (Nat.le_of_ble_eq_true hv)
      obtain ⟨b', blk, off, cs, hu2, hE, hr, hc⟩ := AVR_fad.1 hx
      obtain ⟨c1, k1, k2⟩ := getT_spec t y none [.fld f] cs v z _ hr hg hoff
      refine val_done hF hd h hfr hs (u := .pointer (some ⟨blk, off + fl.offset, none⟩)) ?_ (AVR_fad.2 ⟨b', blk, _, c1, rfl, hE, k2, hc.sub k1⟩)
      intro w'
      obtain ⟨i, hi, _, h0⟩ := tyB_size hty
      rw [he, hu2]
      simp only [Instr.fieldAt, Sem.run_bind, underlying_of hu, Result.andThen_ok, hf, Instr.sureAddr, Sem.run_pure, run_fieldPlace hi h0]
    · exact hs.elim
  · exact hs.elim
theorem RepL.cut {α : Type} {R : α → List Value → Prop} {sz : Nat} (hR : ∀ x cs, R x cs → cs.length = sz) : ∀ (xs : List α) (cs : List Value) (i m : Nat), i + m ≤ xs.length → RepL R xs cs → ∃ c1, Sub c1 cs (i * sz) ∧ RepL R ((xs.drop i).take m) c1
  | xs, cs, 0, 0, _, _ => ⟨[], ⟨[], cs, by simp, by simp⟩, by simp [RepL]⟩
  | x :: xs, cs, 0, m + 1, hl, ⟨c1, c2, e, h1, h2⟩ => by
    obtain ⟨c, k1, k2⟩ := RepL.cut hR xs c2 0 m (by simp at hl ⊢; omega) h2
    refine ⟨c1 ++ c, ?_, c1, c, rfl, h1, by simpa using k2⟩
    obtain ⟨pre, post, e1, e2⟩ := k1
    simp at e2
    subst e2
    exact ⟨[], post, by simp [e, e1], by simp⟩
  | x :: xs, cs, i + 1, m, hl, ⟨c1, c2, e, h1, h2⟩ => by
    obtain ⟨c, k1, k2⟩ := RepL.cut hR xs c2 i m (by simp at hl; omega) h2
    refine ⟨c, ?_, by simpa using k2⟩
    have := (Sub.right c1 c2).trans k1
    rw [hR _ _ h1] at this
    rw [e, Nat.succ_mul, Nat.add_comm]
    exact this
  | [], cs, i + 1, m, hl, h => by simp at hl
  | [], cs, 0, m + 1, hl, h => by simp at hl
theorem cut_len {α : Type} {xs : List α} {i m : Nat} (h : i + m ≤ xs.length) : ((xs.drop i).take m).length = m := by simp; omega
theorem list_spec (h : St c us s a) {x : AV} {l : RL} (hl : s.list x = some l) (hx : AVR c.w c.E (c.I s) x u) :
    List.length l.xs ≤ maxL ∧
    ((∃ y, x = .pv .str y ∧ l = ⟨.int .u8, y⟩) ∨ ∃ ad cap, u = .slice ad (List.length l.xs) cap ∧ List.length l.xs ≤ cap ∧
      (List.length l.xs = 0 ∨ ∃ blk off cs, ad = some ⟨blk, off, none⟩ ∧ RepL (RepC c.w c.E l.t) l.xs cs ∧ Reads c.w blk off cs)) := by
  unfold AS.list at hl
  split at hl
  · rename_i b' t xs
    cases hl
    simp only [AVR, RepC, IsV, Ty.isAgg] at hx
    obtain ⟨cs, ⟨ad, cap, rfl, h1, h2, h3⟩, h4⟩ := hx
    simp at h4
    subst h4
    refine ⟨h2, .inr ⟨ad, cap, rfl, h1, ?_⟩⟩
    rcases h3 with h3 | ⟨blk, off, cs', h3, _, h5, h6⟩
    · exact .inl h3
    · exact .inr ⟨blk, off, cs', h3, h5, h6⟩
  · rename_i y
    cases hl
    simp only [AVR, RepC, IsV, Ty.isAgg] at hx
    obtain ⟨cs, ⟨s', rfl, h1, h2⟩, h4⟩ := hx
    refine ⟨?_, .inl ⟨y, rfl, rfl⟩⟩
    subst h1
    simpa using h2
  · rename_i i
    split at hl
    · rename_i t xs hb
      cases hl
      obtain ⟨hm, hbx⟩ := h.bx i _ hb
      refine ⟨hm, .inr ?_⟩
      rcases hbx with ⟨h1, h2⟩ | ⟨blk', base', arr, T, lo, hi, cs, h1, h2, h3, h4, h5, h6⟩
      · have hI : c.I s i = some (.buf .sl t (List.length xs) none) := by simp [Cx.I, boxI, hb, h1]
        simp only [AVR, SlAt, hI] at hx
        obtain ⟨ad, hx⟩ := hx
        exact ⟨ad, 0, by rw [hx, h2], Nat.le_of_eq h2, .inl h2⟩
      · have hI : c.I s i = some (.buf .sl t (List.length xs) (some (blk', base', roomOf c.w blk' base'))) := by simp [Cx.I, boxI, hb, h1]
        simp only [AVR, SlAt, hI] at hx
        obtain ⟨cap, rfl, hc1, hc2⟩ := hx
        refine ⟨_, cap, rfl, hc1, .inr ⟨blk', base', cs, rfl, h4, ?_⟩⟩
        intro j z hj
        simp only [World.cell?, h2]
        simpa using h6 _ _ hj
    · cases hl
  · rename_i i off len
    split at hl
    · rename_i t xs hb
      cases hl
      obtain ⟨hm, hbx⟩ := h.bx i _ hb
      have hI : c.I s i = some (.buf .sl t (List.length xs) ((c.ρ i).map fun x => (x.1, x.2, roomOf c.w x.1 x.2))) := by simp [Cx.I, boxI, hb]
      simp only [AVR, SlrAt, hI] at hx
      obtain ⟨a1, a2, a3, ad, cap, rfl, a4, a5, _⟩ := hx
      have hle : off.toNat + len.toNat ≤ List.length xs := toNat_add_le a1 a2 a3
      have hcl := cut_len (xs := xs) hle
      simp only [pCut]
      rw [hcl]
      refine ⟨by omega, .inr ⟨ad, cap, rfl, a4, ?_⟩⟩
      rcases a5 with a5 | ⟨blk, base, room, a6, a7⟩
      · left; exact toNat_zero a5
      · rcases hbx with ⟨h1, h2⟩ | ⟨blk', base', arr, T, lo, hi, cs, h1, h2, h3, h4, h5, h6⟩
        · rw [h1] at a6; cases a6
        · rw [h1] at a6
          simp only [Option.map_some, Option.some.injEq, Prod.mk.injEq] at a6
          obtain ⟨rfl, rfl, rfl⟩ := a6
          obtain ⟨c1, k1, k2⟩ := RepL.cut (RepC.len t) xs cs off.toNat len.toNat hle h4
          refine .inr ⟨_, _, c1, a7, k2, ?_⟩
          have : Reads c.w blk' base' cs := fun j z hj => by simp only [World.cell?, h2]; simpa using h6 _ _ hj
          exact this.sub k1
    · cases hl
  · rename_i i p off len
    split at hl
    · rename_i v hb
      split at hl
      · rename_i n' t xs hg
        cases hl
        obtain ⟨blk, cs, T, h1, h2, h3⟩ := h.bx i _ hb
        have hI : c.I s i = some (.var blk (fun p => offA p (s.rv v)) (fun p => arrA p (s.rv v))) := by simp [Cx.I, boxI, hb, h1]
        simp only [AVR, AslAt, hI] at hx
        obtain ⟨n1, sz, o', a1, a2, a3, a4, a5, a8, ad, cap, rfl, a6, _, a7⟩ := hx
        unfold arrA at a1
        rw [hg] at a1
        simp only [Option.some.injEq, Prod.mk.injEq] at a1
        obtain ⟨rfl, rfl⟩ := a1
        rcases getP_spec p (s.rv v) cs o' h3 a2 with e | ⟨c1, k1, k2⟩
        · rw [hg] at e; cases e
        · rw [hg] at k2
          obtain ⟨hl', hrl⟩ := k2
          have hle : off.toNat + len.toNat ≤ List.length xs := by rw [hl']; exact toNat_add_le a3 a4 a5
          have hcl := cut_len (xs := xs) hle
          simp only [pCut]
          rw [hcl]
          refine ⟨a8, .inr ⟨ad, cap, rfl, a6, ?_⟩⟩
          rcases a7 with a7 | a7
          · left; exact toNat_zero a7
          · obtain ⟨c2, j1, j2⟩ := RepL.cut (RepC.len t) xs c1 off.toNat len.toNat hle hrl
            refine .inr ⟨_, _, c2, a7, j2, ?_⟩
            have : Reads c.w blk 0 cs := fun j z hj => by simp only [World.cell?, h2]; simpa using hj
            have := this.sub (k1.trans j1)
            rwa [Nat.zero_add] at this
      · cases hl
    · cases hl
  · cases hl
end
end Go.Xr
namespace Go.Xr
open Go
section
variable {F : Fence} {n : Nat} {P : Program} {K : Kit} {o : Oper} {a : Act} {w w' : World} {R : Act → World → Prop} {Qx : Exit → Act → World → Prop} {u : Value}
variable {b : Base} {us : List (Array Value)} {c : Cx} {s : AS} {Q : Ex → AS → Prop} {T : TypeId}
theorem elem_spec (hK : KitOK P K) {t : Ty} (h : K.elem T = some t) : ∃ e, K.td T = .slice e ∧ P.underlying T = some (.slice e) ∧ tyB P t (.inl e) = true := by
  unfold Kit.elem at h
  split at h
  · rename_i e he
    unfold Kit.pure1 at h
    split at h
    · rename_i t' ht
      cases h
      exact ⟨e, he, (td_slice hK he).1, (td_pure hK ht).1⟩
    · rename_i e2 he2
      split at h
      · rename_i t' ht
        cases h
        exact ⟨e, he, (td_slice hK he).1, td_sl hK he2 ht⟩
      · cases h
    · cases h
  · cases h
theorem in_of {i n : Int} (h : pIn i n = true) : 0 ≤ i ∧ i < n := by simpa [pIn] using h
theorem part_of {l h n : Int} (k : pPart l h n = true) : 0 ≤ l ∧ l ≤ h ∧ h ≤ n := by simpa [pPart] using k
theorem offT_nil {t : Ty} : offT t none [] = some 0 := by cases t <;> rfl
theorem run_indexAt_slice {e : TypeId} (hu : P.underlying T = some (.slice e)) {sz : Nat} (hs : (Go.sizeOf e).run P w = .ok sz w) {k : IntKind} {i : Int} {blk off len cap : Nat} (hi : 0 ≤ i ∧ i < (len : Int)) :
    (Instr.indexAt T (.slice (some ⟨blk, off, none⟩) len cap) (.int k i)).run P w = .ok (.pointer (some ⟨blk, off + i.toNat * sz, none⟩)) w := by
  simp [Instr.indexAt, asIntOf, underlying_of hu, hi, hs, Addr.add_none]
theorem run_indexAt_arr {e : TypeId} {m : Nat} (hu : P.underlying T = some (.array m e)) {sz : Nat} (hs : (Go.sizeOf e).run P w = .ok sz w) {k : IntKind} {i : Int} {blk off : Nat} (hi : 0 ≤ i ∧ i < (m : Int)) :
    (Instr.indexAt T (.pointer (some ⟨blk, off, none⟩)) (.int k i)).run P w = .ok (.pointer (some ⟨blk, off + i.toNat * sz, none⟩)) w := by
  simp [Instr.indexAt, Instr.sureAddr, asIntOf, underlying_of hu, hi, hs, Addr.add_none]
theorem eqtN {m n : Nat} {t t' : Ty} (h : (Nat.beq n m && t.eqt t') = true) : n = m ∧ t = t' := by
  simp only [Bool.and_eq_true] at h
  exact ⟨Nat.eq_of_beq_eq_true h.1, Ty.eqt_eq h.2⟩
theorem idxAddrT_sound (hF : HF F) (hK : KitOK P K) (h : St c us s a) (hfr : Fr b c s) {x y : Operand} (ho : o.op = .indexAddr T x y) (hs : (idxAddrT K s o T (s.ev x) (s.ev y)).sat Q) : StepV F n P o a c.w (Abs b us Q) Qx := by
  have hd : ∀ c, o.op ≠ .defer c := by intro c; rw [ho]; simp
  have hx := h.ev x
  have hy := h.ev y
  have he : execOp a.eval o = (do let v ← Instr.indexAt T (a.eval x) (a.eval y); pure (.value v)) := by simp only [execOp, ho]
  generalize s.ev x = X at *
  generalize s.ev y = Y at *
  unfold idxAddrT at hs
  split at hs
  · rename_i k i
    obtain ⟨e2, hki⟩ := AVR_int.1 hy
    split at hs
    · rename_i i'
      split at hs
      · rename_i t xs t' hb hel
        replace hs := sat_ok hs; obtain ⟨hk, hs⟩ := hs
        obtain ⟨hin, hs⟩ := hs
        have hin := in_of hin
        cases Ty.eqt_eq hk
        obtain ⟨e, htd, hu, hty⟩ := elem_spec hK hel
        obtain ⟨hm, hbx⟩ := h.bx i' _ hb
        rcases hbx with ⟨h1, h2⟩ | ⟨blk', base', arr, T, lo, hi, cs, h1, h2, h3, h4, h5, h6⟩
        · rw [show pLen xs = 0 by simpa [pLen] using h2] at hin; omega
        · have hI : c.I s i' = some (.buf .sl t (List.length xs) (some (blk', base', roomOf c.w blk' base'))) := by simp [Cx.I, boxI, hb, h1]
          simp only [AVR, SlAt, hI] at hx
          obtain ⟨cap, hx, _⟩ := hx
          refine val_done hF hd h hfr hs (u := .pointer (some ⟨blk', base' + i.toNat * t.size, none⟩)) ?_ ?_
          · intro w'; rw [he, hx, e2, Sem.run_bind, run_indexAt_slice hu (info_size hty) hin]; simp
          · simp only [AVR, PtrAt, hI]
            exact ⟨i, [], 0, rfl, offT_nil, blk', base', _, rfl, hin.1, hin.2, by simp⟩
      · exact hs.elim
    · rename_i i' off len
      split at hs
      · rename_i t xs t' hb hel
        replace hs := sat_ok hs; obtain ⟨hk, hs⟩ := hs
        obtain ⟨hin, hs⟩ := hs
        have hin := in_of hin
        cases Ty.eqt_eq hk
        obtain ⟨e, htd, hu, hty⟩ := elem_spec hK hel
        have hI : c.I s i' = some (.buf .sl t (List.length xs) ((c.ρ i').map fun x => (x.1, x.2, roomOf c.w x.1 x.2))) := by simp [Cx.I, boxI, hb]
        simp only [AVR, SlrAt, hI] at hx
        obtain ⟨a1, a2, a3, ad, cap, hx, a4, a5, _⟩ := hx
        rcases a5 with a5 | ⟨blk, base, room, a6, rfl⟩
        · exfalso; rw [a5] at hin; omega
        · refine val_done hF hd h hfr hs (u := .pointer (some ⟨blk, base + off.toNat * t.size + i.toNat * t.size, none⟩)) ?_ ?_
          · intro w'; rw [he, hx, e2, Sem.run_bind, run_indexAt_slice hu (info_size hty) (by rw [Int.toNat_of_nonneg a2]; exact hin)]; simp
          · simp only [AVR, PtrAt, hI]
            refine ⟨pIAdd off i, [], 0, rfl, offT_nil, blk, base, room, a6, ?_, ?_, ?_⟩
            · exact Int.add_nonneg a1 hin.1
            · exact Int.lt_of_lt_of_le (Int.add_lt_add_left hin.2 off) a3
            · have : Int.toNat (pIAdd off i) = off.toNat + i.toNat := Int.toNat_add a1 hin.1
              rw [this, Nat.add_mul, Nat.add_zero, Nat.add_assoc]
      · exact hs.elim
    · rename_i i' p
      split at hs
      · rename_i n' t xs m t' hat htd
        replace hs := sat_ok hs; obtain ⟨hk, hs⟩ := hs
        obtain ⟨hin, hs⟩ := hs
        have hin := in_of hin
        obtain ⟨rfl, rfl⟩ := eqtN hk
        obtain ⟨e, hu, hty, _⟩ := tyB_arr (td_pure hK htd).1
        obtain ⟨blk, o', cs, hu2, hc, hvc, hnext⟩ := place h hx (by rw [hat]; simp)
        rw [hat] at hnext
        have := hnext (.idx i) (i.toNat * t.size) (by
          simp only [offA, offT]
          rw [if_pos hin]
          simp [offT_nil])
        refine val_done hF hd h hfr hs (u := .pointer (some ⟨blk, o' + i.toNat * t.size, none⟩)) ?_ (by simp only [AVR]; exact this)
        intro w'
        rw [he, hu2, e2, Sem.run_bind, run_indexAt_arr hu (info_size hty) hin]; simp
      · exact hs.elim
    · rename_i b' t xs
      split at hs
      · rename_i t' hel
        replace hs := sat_ok hs; obtain ⟨hk, hs⟩ := hs
        obtain ⟨hin, hs⟩ := hs
        have hin := in_of hin
        cases Ty.eqt_eq hk
        obtain ⟨e, htd, hu, hty⟩ := elem_spec hK hel
        simp only [AVR, RepC, IsV, Ty.isAgg] at hx
        obtain ⟨cs, ⟨ad, cap, rfl, h1, h2, h3⟩, h4⟩ := hx
        simp at h4
        rcases h3 with h3 | ⟨blk, off, cs', rfl, hE, h5, h6⟩
        · rw [show pLen xs = 0 by simpa [pLen] using h3] at hin; omega
        · obtain ⟨c1, k1, k2⟩ := RepL.sub (RepC.len t) xs cs' i.toNat t.dflt (toNat_lt' hin) h5
          refine val_done hF hd h hfr hs (u := .pointer (some ⟨blk, off + i.toNat * t.size, none⟩)) ?_ (AVR_fad.2 ⟨b', blk, _, c1, rfl, hE, k2, h6.sub k1⟩)
          intro w'
          rw [he, ← h4, e2, Sem.run_bind, run_indexAt_slice hu (info_size hty) hin]; simp
      · exact hs.elim
    · rename_i n' t xs
      split at hs
      · rename_i m t' htd
        replace hs := sat_ok hs; obtain ⟨hk, hs⟩ := hs
        obtain ⟨hin, hs⟩ := hs
        have hin := in_of hin
        obtain ⟨rfl, rfl⟩ := eqtN hk
        obtain ⟨e, hu, hty, _⟩ := tyB_arr (td_pure hK htd).1
        obtain ⟨b', blk, off, cs, hu2, hE, ⟨hl, hr⟩, hc⟩ := AVR_fad.1 hx
        obtain ⟨c1, k1, k2⟩ := RepL.sub (RepC.len t) xs cs i.toNat t.dflt (by rw [hl]; exact toNat_lt' hin) hr
        refine val_done hF hd h hfr hs (u := .pointer (some ⟨blk, off + i.toNat * t.size, none⟩)) ?_ (AVR_fad.2 ⟨b', blk, _, c1, rfl, hE, k2, hc.sub k1⟩)
        intro w'
        rw [he, hu2, e2, Sem.run_bind, run_indexAt_arr hu (info_size hty) hin]; simp
      · exact hs.elim
    · exact hs.elim
  · exact hs.elim
theorem AVR_str {E : Bool → Nat → Prop} {I : Nat → Option BI} {x : List Int} : AVR w E I (.pv .str x) u ↔ ∃ z : ByteArray, u = .string z ∧ x = z.data.toList.map (fun b => (b.toNat : Int)) ∧ z.size ≤ maxL := by
  simp only [AVR, RepC, IsV, Ty.isAgg]
  constructor
  · rintro ⟨cs, ⟨z, rfl, h1, h2⟩, h3⟩
    simp at h3
    exact ⟨z, h3.symm, h1, h2⟩
  · rintro ⟨z, rfl, h1, h2⟩
    exact ⟨_, ⟨z, rfl, h1, h2⟩, by simp⟩
theorem pure_str (hK : KitOK P K) (h : K.td T = .pure .str) : P.underlying T = some .string := tyB_str (td_pure hK h).1
theorem u8_has (x : UInt8) : IntKind.has .u8 (x.toNat : Int) := by
  have := x.toNat_lt
  constructor <;> simp [IntKind.min, IntKind.max, IntKind.signed, IntKind.bits] <;> omega
theorem indexT_sound (hF : HF F) (hK : KitOK P K) {call : Oper → AV → List AV → AS → Tree} (h : St c us s a) (hfr : Fr b c s) {x y : Operand} (ho : o.op = .index T x y) (hs : (opT K call s o).sat Q) : StepV F n P o a c.w (Abs b us Q) Qx := by
  have hd : ∀ c, o.op ≠ .defer c := by intro c; rw [ho]; simp
  have hx := h.ev x
  have hy := h.ev y
  have he : execOp a.eval o = (do let v ← Instr.index T (a.eval x) (a.eval y); pure (.value v)) := by simp only [execOp, ho]
  unfold opT at hs
  rw [ho] at hs
  simp only at hs
  generalize s.ev x = X at *
  generalize s.ev y = Y at *
  split at hs
  · rename_i n' t xs k i m t' htd
    replace hs := sat_ok hs; obtain ⟨hk, hs⟩ := hs
    obtain ⟨hin, hs⟩ := hs
    have hin := in_of hin
    obtain ⟨rfl, rfl⟩ := eqtN hk
    obtain ⟨e, hu, hty, _⟩ := tyB_arr (td_pure hK htd).1
    obtain ⟨e2, hki⟩ := AVR_int.1 hy
    simp only [AVR, IsV, Ty.isAgg, if_true] at hx
    obtain ⟨cs, ⟨hl, hr⟩, hx⟩ := hx
    obtain ⟨c1, k1, k2⟩ := RepL.sub (RepC.len t) xs cs i.toNat t.dflt (by rw [hl]; exact toNat_lt' hin) hr
    refine val_done hF hd h hfr hs ?_ (AVR_of_rep hty k2)
    intro w'
    rw [he, hx, e2]
    have hin1 : 0 ≤ i := hin.1
    have hin2 : i < (n' : Int) := hin.2
    simp [Instr.index, asIntOf, underlying_of hu, info_size hty, run_part_sub hty k1 (RepC.len t _ _ k2), hin1, hin2]
  · rename_i xs k i htd
    obtain ⟨hin, hs⟩ := hs
    have hin := in_of hin
    obtain ⟨e2, hki⟩ := AVR_int.1 hy
    obtain ⟨z, hz, rfl, hz2⟩ := AVR_str.1 hx
    have hu := pure_str hK htd
    have hlt : i.toNat < z.size := by have := toNat_lt' hin; simpa [pBytes] using this
    have hv : pGet (pI 0) (pBytes (z.data.toList.map fun b => (b.toNat : Int))) i = ((z[i.toNat]'hlt).toNat : Int) := by
      simp only [pGet, pBytes]
      rw [List.getD_eq_getElem?_getD, List.getElem?_map]
      have : z.data.toList[i.toNat]? = some (z[i.toNat]'hlt) := by
        rw [Array.getElem?_toList]
        exact Array.getElem?_eq_getElem hlt
      rw [this]
      rfl
    refine val_done hF hd h hfr hs (u := .int .u8 (z[i.toNat]'hlt).toNat) ?_ (AVR_int.2 ⟨by rw [hv], by rw [hv]; exact u8_has _⟩)
    intro w'
    rw [he, hz, e2]
    have hin1 : 0 ≤ i := hin.1
    have : z[i.toNat]? = some (z[i.toNat]'hlt) := getElem?_pos z _ hlt
    simp [Instr.index, asIntOf, underlying_of hu, hin1, this]
  · exact hs.elim
end
end Go.Xr
namespace Go.Xr
open Go
section
variable {F : Fence} {n : Nat} {P : Program} {K : Kit} {o : Oper} {a : Act} {w w' : World} {R : Act → World → Prop} {Qx : Exit → Act → World → Prop} {u : Value}
variable {b : Base} {us : List (Array Value)} {c : Cx} {s : AS} {Q : Ex → AS → Prop} {T : TypeId} {call : Oper → AV → List AV → AS → Tree}
theorem AVRL_get {E : Bool → Nat → Prop} {I : Nat → Option BI} : ∀ (fs : List AV) (vs : List Value) (i : Nat), AVRL w E I fs vs → i < fs.length → ∃ v, vs[i]? = some v ∧ AVR w E I (nthD .undef fs i) v
  | f :: fs, vs, 0, h, _ => by
    obtain ⟨u, q, rfl, h1, h2⟩ := AVRL_cons.1 h
    exact ⟨u, rfl, h1⟩
  | f :: fs, vs, i + 1, h, hi => by
    obtain ⟨u, q, rfl, h1, h2⟩ := AVRL_cons.1 h
    obtain ⟨v, k1, k2⟩ := AVRL_get fs q i h2 (by simpa using hi)
    exact ⟨v, by simpa using k1, k2⟩
theorem AVRL_map (h : St c us s a) : ∀ xs : List Operand, AVRL c.w c.E (c.I s) (xs.map s.ev) (xs.map a.eval)
  | [] => AVRL_nil.2 rfl
  | x :: r => AVRL_cons.2 ⟨_, _, rfl, h.ev x, AVRL_map h r⟩
theorem blt_of {m n : Nat} (h : Nat.blt m n = true) : m < n := Nat.le_of_ble_eq_true h
theorem extract_sound (hF : HF F) (h : St c us s a) (hfr : Fr b c s) {x : Operand} {i : Nat} (ho : o.op = .extract x i) (hs : (opT K call s o).sat Q) : StepV F n P o a c.w (Abs b us Q) Qx := by
  have hd : ∀ c, o.op ≠ .defer c := by intro c; rw [ho]; simp
  have hx := h.ev x
  have he : execOp a.eval o = (do let v ← Instr.extract (a.eval x) i; pure (.value v)) := by simp only [execOp, ho]
  unfold opT at hs
  rw [ho] at hs
  simp only at hs
  generalize s.ev x = X at *
  split at hs
  · rename_i fs
    replace hs := sat_ok hs; obtain ⟨hk, hs⟩ := hs
    have hlt := blt_of hk
    rw [len_eq] at hlt
    simp only [AVR] at hx
    obtain ⟨vs, hu, hl⟩ := hx
    obtain ⟨v, h1, h2⟩ := AVRL_get fs vs i hl hlt
    refine val_done hF hd h hfr hs ?_ h2
    intro w'
    rw [he, hu]
    simp [Instr.extract, h1]
  · exact hs.elim
theorem makeFunc_sound (hF : HF F) (h : St c us s a) (hfr : Fr b c s) {fn : Fn} {first cs : Array Operand} (ho : o.op = .makeFunc fn first cs) (hs : (opT K call s o).sat Q) : StepV F n P o a c.w (Abs b us Q) Qx := by
  have hd : ∀ c, o.op ≠ .defer c := by intro c; rw [ho]; simp
  have he : execOp a.eval o = (do let v ← Instr.makeFunc fn (first.map a.eval) (cs.map a.eval); pure (.value v)) := by simp only [execOp, ho]
  unfold opT at hs
  rw [ho] at hs
  cases fn with
  | func f =>
    simp only at hs
    replace hs := sat_ok hs; obtain ⟨hk, hs⟩ := hs
    have hf : first = #[] := by
      cases first with
      | mk l => cases l <;> simp_all
    refine val_done hF hd h hfr hs (u := .func (.func f) #[] (cs.toList.map a.eval).toArray) ?_ (by simp only [AVR]; exact ⟨_, rfl, AVRL_map h cs.toList⟩)
    intro w'
    rw [he, hf]
    cases cs
    simp [Instr.makeFunc]
  | _ => exact hs.elim
theorem nilCheck_sound (hF : HF F) (h : St c us s a) (hfr : Fr b c s) {x : Operand} (ho : o.op = .nilCheck x) (hs : (opT K call s o).sat Q) : StepV F n P o a c.w (Abs b us Q) Qx := by
  have hd : ∀ c, o.op ≠ .defer c := by intro c; rw [ho]; simp
  have hx := h.ev x
  unfold opT at hs
  rw [ho] at hs
  simp only at hs
  have done : ∀ ad, a.eval x = .pointer (some ad) → ∀ w', (execOp a.eval o).run P w' = .ok (.value (a.eval x)) w' := by
    intro ad e w'
    simp only [execOp, ho, e]
    rfl
  generalize s.ev x = X at *
  split at hs
  · rename_i i p
    replace hs := sat_ok hs; obtain ⟨hk, hs⟩ := hs
    obtain ⟨ad, hu⟩ := ptr_some h hk hx
    exact val_done hF hd h hfr hs (done ad hu) hx
  · rename_i t y
    obtain ⟨b', blk, off, cs, hu, _⟩ := AVR_fad.1 hx
    exact val_done hF hd h hfr hs (done _ hu) hx
  · exact hs.elim
  · exact hs.elim
theorem move_sound (hF : HF F) (h : St c us s a) (hfr : Fr b c s) {x : Operand} (ho : o.op = .move x ∨ o.op = .assign x) (hs : (retT s o (s.ev x)).sat Q) : StepV F n P o a c.w (Abs b us Q) Qx := by
  have hd : ∀ c, o.op ≠ .defer c := by intro c; rcases ho with ho | ho <;> rw [ho] <;> simp
  refine val_done hF hd h hfr hs ?_ (h.ev x)
  intro w'
  rcases ho with ho | ho <;> simp only [execOp, ho] <;> rfl
theorem AVR_lit {E : Bool → Nat → Prop} {I : Nat → Option BI} {x : Bool} : AVR w E I (.lit x) u ↔ u = .bool x := by simp only [AVR]
theorem pick_sound (hF : HF F) (h : St c us s a) (hfr : Fr b c s) {x y z : Operand} (ho : o.op = .pick x y z) (hs : (opT K call s o).sat Q) : StepV F n P o a c.w (Abs b us Q) Qx := by
  have hd : ∀ c, o.op ≠ .defer c := by intro c; rw [ho]; simp
  have hx := h.ev x
  have he : execOp a.eval o = (do pure (.value (if ← asBool (a.eval x) then a.eval y else a.eval z))) := by simp only [execOp, ho]
  unfold opT at hs
  rw [ho] at hs
  simp only at hs
  have done : ∀ b' : Bool, a.eval x = .bool b' → ∀ w', (execOp a.eval o).run P w' = .ok (.value (if b' then a.eval y else a.eval z)) w' := by
    intro b' e w'
    rw [he, e]
    simp [asBool]
  generalize s.ev x = X at *
  split at hs
  · rename_i b'
    have := done b' (AVR_lit.1 hx)
    cases b' with
    | true => exact val_done hF hd h hfr hs this (h.ev y)
    | false => exact val_done hF hd h hfr hs this (h.ev z)
  · rename_i b'
    have := done b' (AVR_bool.1 hx)
    cases b' with
    | true => exact val_done hF hd h hfr (hs.1 rfl) this (h.ev y)
    | false => exact val_done hF hd h hfr (hs.2 rfl) this (h.ev z)
  · exact hs.elim
theorem unT_sound (hF : HF F) (h : St c us s a) (hfr : Fr b c s) {op : UnOp} {x : Operand} (ho : o.op = .unOp op T x) (hs : (unT s o op (s.ev x)).sat Q) : StepV F n P o a c.w (Abs b us Q) Qx := by
  have hd : ∀ c, o.op ≠ .defer c := by intro c; rw [ho]; simp
  have hx := h.ev x
  have he : execOp a.eval o = (do let v ← Op.unary op (a.eval x); pure (.value v)) := by simp only [execOp, ho]
  generalize s.ev x = X at *
  unfold unT at hs
  split at hs
  · refine val_done hF hd h hfr hs ?_ (AVR_lit.2 rfl)
    intro w'
    rw [he, AVR_lit.1 hx]; simp [Op.unary]
  · refine val_done hF hd h hfr hs ?_ (AVR_bool.2 rfl)
    intro w'
    rw [he, AVR_bool.1 hx]; simp [Op.unary]
  · refine val_done hF hd h hfr hs ?_ (AVR_int.2 ⟨rfl, wrap_has _ _⟩)
    intro w'
    rw [he, (AVR_int.1 hx).1]; simp [Op.unary, Op.intArith, pI, pSub]
  · refine val_done hF hd h hfr hs ?_ (AVR_int.2 ⟨rfl, wrap_has _ _⟩)
    intro w'
    rw [he, (AVR_int.1 hx).1]; simp [Op.unary, Op.intBits, pCom]
  · exact hs.elim
theorem bytes_cells {E : Bool → Nat → Prop} : ∀ (xs : List Int) (cs : List Value), RepL (RepC w E (.int .u8)) xs cs → cs = xs.map (Value.int .u8) ∧ ∀ x ∈ xs, IntKind.has .u8 x
  | [], cs, h => ⟨h, by simp⟩
  | x :: xs, cs, ⟨c1, c2, e, h1, h2⟩ => by
    obtain ⟨k1, k2⟩ := bytes_cells xs c2 h2
    obtain ⟨j1, j2⟩ := h1
    refine ⟨by rw [e, j1, k1]; rfl, ?_⟩
    intro y hy
    rcases List.mem_cons.1 hy with rfl | hy
    · exact j2
    · exact k2 y hy
theorem u8_back {x : Int} (h : IntKind.has .u8 x) : ((UInt8.ofNat x.toNat).toNat : Int) = x := by
  obtain ⟨h1, h2⟩ := h
  simp [IntKind.min, IntKind.max, IntKind.signed, IntKind.bits] at h1 h2
  simp [UInt8.toNat_ofNat']
  omega
theorem push_bytes : ∀ (xs : List Int) (z : ByteArray), (∀ x ∈ xs, IntKind.has .u8 x) →
    ∃ z' : ByteArray, z'.data.toList = z.data.toList ++ xs.map (fun x => UInt8.ofNat x.toNat) ∧
      ∀ w, (forIn (m := Sem) (xs.map (Value.int .u8)) z fun c r => match c with
        | .int .u8 n => (pure (.yield (r.push (UInt8.ofNat n.toNat))) : Sem (ForInStep ByteArray))
        | _ => do
          stuck "bytesToString: byte expected"
          pure (.yield r)).run P w = .ok z' w
  | [], z, _ => ⟨z, by simp, fun w => by simp⟩
  | x :: xs, z, h => by
    obtain ⟨z', h1, h2⟩ := push_bytes xs (z.push (UInt8.ofNat x.toNat)) (fun y hy => h y (by simp [hy]))
    refine ⟨z', ?_, fun w => ?_⟩
    · rw [h1]
      simp [ByteArray.push]
    · simp only [List.map_cons, List.forIn_cons, Sem.run_bind, Sem.run_pure, Result.andThen_ok]
      exact h2 w
theorem bytesToString_run {E : Bool → Nat → Prop} {ad : Option Addr} {cap : Nat} {xs : List Int} (hl : List.length xs ≤ maxL)
    (h : List.length xs = 0 ∨ ∃ blk off cs, ad = some ⟨blk, off, none⟩ ∧ RepL (RepC w E (.int .u8)) xs cs ∧ Reads w blk off cs) :
    ∃ z : ByteArray, (Conv.bytesToString (.slice ad (List.length xs) cap)).run P w = .ok (.string z) w ∧ xs = z.data.toList.map (fun b => (b.toNat : Int)) ∧ z.size ≤ maxL := by
  have back : ∀ xs : List Int, (∀ x ∈ xs, IntKind.has .u8 x) → xs = (xs.map fun x => UInt8.ofNat x.toNat).map fun b => (b.toNat : Int) := by
    intro xs h
    rw [List.map_map]
    conv => lhs; rw [← List.map_id xs]
    exact List.map_congr_left fun x hx => (u8_back (h x hx)).symm
  cases ad with
  | none =>
    rcases h with h | ⟨_, _, _, h, _⟩
    · have : xs = [] := List.eq_nil_of_length_eq_zero h
      subst this
      exact ⟨.empty, by simp [Conv.bytesToString], by simp, by simp [maxL]⟩
    · cases h
  | some x =>
    have key : ∃ cs, (loadCells x (List.length xs)).run P w = .ok cs.toArray w ∧ cs = xs.map (Value.int .u8) ∧ ∀ x ∈ xs, IntKind.has .u8 x := by
      rcases h with h | ⟨blk, off, cs, h1, h2, h3⟩
      · have : xs = [] := List.eq_nil_of_length_eq_zero h
        subst this
        exact ⟨[], by simpa using run_loadCells_list (P := P) w x [] (by simp), rfl, by simp⟩
      · cases h1
        obtain ⟨k1, k2⟩ := bytes_cells xs cs h2
        refine ⟨cs, ?_, k1, k2⟩
        have := run_loadCells_list (P := P) w ⟨blk, off, none⟩ cs (fun j v hj => by rw [Addr.add_none]; exact h3 j v hj)
        rwa [show cs.length = List.length xs by rw [k1]; simp] at this
    obtain ⟨cs, k1, rfl, k3⟩ := key
    obtain ⟨z, h1, h2⟩ := push_bytes (P := P) xs .empty k3
    have h1' : z.data.toList = xs.map fun x => UInt8.ofNat x.toNat := by simpa using h1
    refine ⟨z, ?_, by rw [h1']; exact back xs k3, ?_⟩
    · simp only [Conv.bytesToString, Sem.run_bind, k1, Result.andThen_ok]
      rw [← Array.forIn_toList]
      simp only [List.toList_toArray]
      erw [h2 w]
      simp
    · have : z.size = xs.length := by
        have := congrArg List.length h1'
        simpa using this
      omega
theorem convT_sound1 (hF : HF F) (hK : KitOK P K) (h : St c us s a) (hfr : Fr b c s) {D : TypeId} {x : Operand} (ho : o.op = .convert T D x)
    (hs : (convT K s o T D (s.ev x)).sat Q) (hno : ∀ e, K.td D ≠ .slice e) : o.wpIn F n P a c.w (Abs b us Q) Qx := by
  have hd : ∀ c, o.op ≠ .defer c := by intro c; rw [ho]; simp
  have hx := h.ev x
  have he : execOp a.eval o = (do let v ← convert T D (a.eval x); pure (.value v)) := by simp only [execOp, ho]
  generalize s.ev x = X at *
  unfold convT at hs
  split at hs
  · rename_i k k' y hD
    replace hs := sat_ok hs; obtain ⟨hk, hs⟩ := hs
    split at hk
    · rename_i t ht
      refine val_one hF hd h hfr hs ?_ (AVR_int.2 ⟨rfl, wrap_has _ _⟩)
      rw [he, (AVR_int.1 hx).1]
      have hu := tyB_int (td_pure hK hD).1
      have hT : ∃ d, P.underlying T = some d := by
        obtain ⟨hT, _⟩ := td_pure hK ht
        cases t with
        | int k => exact ⟨_, tyB_int hT⟩
        | bool => exact ⟨_, tyB_bool hT⟩
        | str => exact ⟨_, tyB_str hT⟩
        | unit => simp [tyB] at hT
        | pair a b => simp [tyB] at hT
        | st a => obtain ⟨fs, hu, _⟩ := tyB_st hT; exact ⟨_, hu⟩
        | arr n a => obtain ⟨e, hu, _⟩ := tyB_arr hT; exact ⟨_, hu⟩
        | sl b a => obtain ⟨e, hu, _⟩ := tyB_sl hT; exact ⟨_, hu⟩
      obtain ⟨d, hT⟩ := hT
      simp [convert, underlying_of hT, underlying_of hu, Conv.intToInt]
    · cases hk
  · rename_i hD
    split at hs
    · rename_i t l hel hli
      split at hs
      · rename_i hl8
        replace hs := sat_ok hs; obtain ⟨hk, hs⟩ := hs
        obtain ⟨e, htd, hu, hty⟩ := elem_spec hK hel
        cases Ty.eqt_eq hk
        obtain ⟨lt, lxs⟩ := l
        cases hl8
        obtain ⟨h1, h2⟩ := list_spec h hli hx
        rcases h2 with ⟨y, rfl, h2⟩ | ⟨ad, cap, hu2, h3, h4⟩
        · cases h2
          obtain ⟨z, hz, hz1, hz2⟩ := AVR_str.1 hx
          have huD := pure_str hK hD
          refine val_one hF hd h hfr hs ?_ hx
          rw [he, hz]
          simp [convert, underlying_of hu, underlying_of huD]
        · obtain ⟨z, hz1, hz2, hz3⟩ := bytesToString_run (P := P) (cap := cap) h1 h4
          have huD := pure_str hK hD
          refine val_one hF hd h hfr hs ?_ (AVR_str.2 ⟨z, rfl, hz2, hz3⟩)
          rw [he, hu2]
          have hue := tyB_int hty
          simp only [convert, Sem.run_bind, underlying_of hu, underlying_of huD, Result.andThen_ok, underlying_of hue, hz1, Sem.run_pure]
      · exact hs.elim
    · exact hs.elim
  · rename_i e xs hD
    exact (hno _ hD).elim
  · rename_i e i hD
    exact (hno _ hD).elim
  · exact hs.elim
end
end Go.Xr
namespace Go.Xr
open Go
section
variable {F : Fence} {n : Nat} {P : Program} {K : Kit} {o : Oper} {a : Act} {w w' : World} {R : Act → World → Prop} {Qx : Exit → Act → World → Prop} {u : Value}
variable {b : Base} {us : List (Array Value)} {c : Cx} {s : AS} {Q : Ex → AS → Prop} {T : TypeId} {call : Oper → AV → List AV → AS → Tree}
theorem builtin_run {bi : Builtin} {cl : Call} (ho : o.op = .call cl) (hc : cl.callee = .builtin bi) : ∃ cs, (execOp a.eval o).run P w = (builtin bi cl.argTypes o.type cs (cl.args.map a.eval)).run P w :=
  ⟨_, by simp only [execOp, ho, resolve, hc, Sem.run_bind, Sem.run_pure, Result.andThen_ok, invoke]; rfl⟩
theorem isSlice_of (hK : KitOK P K) (h : (match K.td T with | .slice _ => true | _ => false) = true) : ∃ e, P.underlying T = some (.slice e) := by
  split at h
  · rename_i e he; exact ⟨e, (td_slice hK he).1⟩
  · cases h
theorem i64_has {m : Nat} (h : m ≤ maxL) : IntKind.has .i64 (m : Int) := by
  unfold maxL at h
  constructor <;> simp [IntKind.min, IntKind.max, IntKind.signed, IntKind.bits] <;> omega
theorem toList1 {α : Type} {x : Array α} {y : α} (h : x.toList = [y]) : x = #[y] := by cases x; simp_all
theorem toList2 {α : Type} {x : Array α} {y z : α} (h : x.toList = [y, z]) : x = #[y, z] := by cases x; simp_all
theorem map1 {xs : List Operand} {f : Operand → AV} {y : AV} (h : xs.map f = [y]) : ∃ x, xs = [x] ∧ f x = y := by
  match xs, h with
  | [x], h => simp at h; exact ⟨x, rfl, h⟩
theorem map2 {xs : List Operand} {f : Operand → AV} {y z : AV} (h : xs.map f = [y, z]) : ∃ x x', xs = [x, x'] ∧ f x = y ∧ f x' = z := by
  match xs, h with
  | [x, x'], h => simp at h; exact ⟨x, x', rfl, h⟩
theorem lenT_sound (hF : HF F) (hK : KitOK P K) (h : St c us s a) (hfr : Fr b c s) {cl : Call} {x : Operand} (ho : o.op = .call cl) (hc : cl.callee = .builtin .len) (hT : cl.argTypes = #[T]) (hA : cl.args = #[x]) (hs : (lenT K s o T (s.ev x)).sat Q) :
    StepV F n P o a c.w (Abs b us Q) Qx := by
  have hd : ∀ c, o.op ≠ .defer c := by intro c; rw [ho]; simp
  have hx := h.ev x
  have e2 : ∀ w', (execOp a.eval o).run P w' = (do let v ← Builtin.len_ #[T] o.type #[a.eval x]; pure (Next.value v) : Sem Next).run P w' := by
    intro w'
    obtain ⟨cs, he⟩ := builtin_run (P := P) (w := w') (a := a) ho hc
    rw [he, hT, hA]; simp [builtin]
  generalize s.ev x = X at *
  unfold lenT at hs
  split at hs
  · replace hs := sat_ok hs; obtain ⟨hk, hs⟩ := hs
    obtain ⟨e, hu⟩ := isSlice_of hK hk
    simp only [AVR] at hx
    refine val_done hF hd h hfr hs (u := .int .i64 0) ?_ (AVR_int.2 ⟨rfl, by constructor <;> simp [pI, IntKind.min, IntKind.max, IntKind.signed, IntKind.bits]⟩)
    intro w'
    rw [e2, hx]
    simp [Builtin.len_, underlying_of hu, goInt]
  · rename_i n' t xs
    replace hs := sat_ok hs; obtain ⟨hk, hs⟩ := hs
    simp only [Bool.and_eq_true] at hk
    obtain ⟨hk1, hk2⟩ := hk
    split at hk1
    · rename_i m t' htd
      have := Nat.eq_of_beq_eq_true hk1
      subst this
      obtain ⟨e, hu, _⟩ := tyB_arr (td_pure hK htd).1
      refine val_done hF hd h hfr hs (u := .int .i64 m) ?_ (AVR_int.2 ⟨rfl, i64_has (Nat.le_of_ble_eq_true hk2)⟩)
      intro w'
      rw [e2]
      simp [Builtin.len_, underlying_of hu, goInt]
    · cases hk1
  · rename_i xs
    replace hs := sat_ok hs; obtain ⟨hk, hs⟩ := hs
    split at hk
    · rename_i htd
      have hu := pure_str hK htd
      obtain ⟨z, hz, rfl, hz2⟩ := AVR_str.1 hx
      have hl : List.length (z.data.toList.map fun b => (b.toNat : Int)) = z.size := by simp
      refine val_done hF hd h hfr hs (u := .int .i64 z.size) ?_ (AVR_int.2 ⟨by simp only [pLen, pBytes]; rw [hl], by simp only [pLen, pBytes]; rw [hl]; exact i64_has hz2⟩)
      intro w'
      rw [e2, hz]
      simp [Builtin.len_, underlying_of hu, goInt]
    · cases hk
  · rename_i h1 h2 h3
    split at hs
    · rename_i l hl
      replace hs := sat_ok hs; obtain ⟨hk, hs⟩ := hs
      obtain ⟨e, hu⟩ := isSlice_of hK hk
      obtain ⟨k1, k2⟩ := list_spec h hl hx
      rcases k2 with ⟨y, rfl, _⟩ | ⟨ad, cap, hu2, k3, k4⟩
      · exact (h3 _ rfl).elim
      · refine val_done hF hd h hfr hs (u := .int .i64 (List.length l.xs)) ?_ (AVR_int.2 ⟨rfl, i64_has k1⟩)
        intro w'
        rw [e2, hu2]
        simp [Builtin.len_, underlying_of hu, goInt]
    · exact hs.elim
theorem nilT_sound (hF : HF F) (hK : KitOK P K) (h : St c us s a) (hfr : Fr b c s) {x y : Operand} {bb : Bool} {T' : TypeId} (ho : o.op = .binOp (bif bb then .eql else .neq) T x y T') (hy : s.ev y = .nil .sl) (hs : (nilT K s o T (s.ev x) bb).sat Q) :
    StepV F n P o a c.w (Abs b us Q) Qx := by
  have hd : ∀ c, o.op ≠ .defer c := by intro c; rw [ho]; simp
  have hx := h.ev x
  have hy' := h.ev y
  rw [hy] at hy'
  simp only [AVR] at hy'
  have he : execOp a.eval o = (do let v ← (do eqGuard (bif bb then .eql else .neq) T x y (a.eval x) (a.eval y); binOp (bif bb then .eql else .neq) T (a.eval x) (a.eval y) : Sem Value); pure (.value v)) := by simp only [execOp, ho]
  generalize s.ev x = X at *
  unfold nilT at hs
  split at hs
  · rename_i e l hT hl
    obtain ⟨hk, hs⟩ := sat_ok hs
    obtain ⟨hu, _⟩ := td_slice hK hT
    obtain ⟨k1, k2⟩ := list_spec h hl hx
    rcases k2 with ⟨z, rfl, _⟩ | ⟨ad, cap, hu2, k3, k4⟩
    · cases hk
    · have hrun : ∀ w', (execOp a.eval o).run P w' = .ok (.value (.bool (if bb then ad.isNone else !ad.isNone))) w' := by
        intro w'
        rw [he, hu2, hy']
        cases bb <;> simp [eqGuard, binOp, Op.equal, Op.maxDepth, run_equalIn_slice_nil _ _ _ _ _ _ _ hu]
      have key : ∀ r : Bool, (retT s o (.lit r)).sat Q → r = (if bb then ad.isNone else !ad.isNone) → StepV F n P o a c.w (Abs b us Q) Qx := by
        intro r hr e
        exact val_done hF hd h hfr hr hrun (by simp only [AVR]; rw [e])
      cases had : ad.isNone with
      | true =>
        have hlen : pEq (pLen l.xs) (pI 0) = true := by
          cases ad with
          | some q => cases had
          | none =>
            rcases k4 with k4 | ⟨_, _, _, e1, _⟩
            · exact decide_eq_true (by show (List.length l.xs : Int) = 0; rw [k4]; rfl)
            · cases e1
        exact key bb ((hs.1 hlen).1) (by rw [had]; cases bb <;> rfl)
      | false =>
        refine key (!bb) ?_ (by rw [had]; cases bb <;> rfl)
        cases hz : pEq (pLen l.xs) (pI 0) with
        | true => exact (hs.1 hz).2
        | false => exact hs.2 hz
  · exact hs.elim
theorem min_has {k : IntKind} {x y : Int} (hx : IntKind.has k x) (hy : IntKind.has k y) : IntKind.has k (pMin x y) := by
  unfold pMin; split <;> assumption
theorem max_has {k : IntKind} {x y : Int} (hx : IntKind.has k x) (hy : IntKind.has k y) : IntKind.has k (pMax x y) := by
  unfold pMax; split <;> assumption
theorem minmaxT_sound (hF : HF F) (h : St c us s a) (hfr : Fr b c s) {cl : Call} {x y : Operand} {mx : Bool} (ho : o.op = .call cl) (hc : cl.callee = .builtin (bif mx then .max else .min)) (hA : cl.args = #[x, y]) (hs : (minmaxT s o mx (s.ev x) (s.ev y)).sat Q) :
    StepV F n P o a c.w (Abs b us Q) Qx := by
  have hd : ∀ c, o.op ≠ .defer c := by intro c; rw [ho]; simp
  have hx := h.ev x
  have hy := h.ev y
  have he := fun w' => builtin_run (P := P) (w := w') (a := a) ho hc
  generalize s.ev x = X at *
  generalize s.ev y = Y at *
  unfold minmaxT at hs
  split at hs
  · rename_i k x' k' y'
    replace hs := sat_ok hs; obtain ⟨hk, hs⟩ := hs
    cases keq_eq hk
    obtain ⟨e1, k1⟩ := AVR_int.1 hx
    obtain ⟨e2, k2⟩ := AVR_int.1 hy
    cases mx with
    | true =>
      refine val_done hF hd h hfr hs ?_ (AVR_int.2 ⟨rfl, max_has k1 k2⟩)
      intro w'
      obtain ⟨cs, he⟩ := he w'
      rw [he, hA]
      simp [builtin, Builtin.max_, Builtin.max2, e1, e2, pMax]
    | false =>
      refine val_done hF hd h hfr hs ?_ (AVR_int.2 ⟨rfl, min_has k1 k2⟩)
      intro w'
      obtain ⟨cs, he⟩ := he w'
      rw [he, hA]
      simp [builtin, Builtin.min_, Builtin.min2, e1, e2, pMin]
  · exact hs.elim
def Bd (d l : Int) (lo : Option Value) : Prop := (lo = none ∧ l = d) ∨ ∃ k, lo = some (.int k l)
theorem run_sliceBounds {iss : Bool} {len cap : Nat} {lo hi : Option Value} {l h : Int} (hlo : Bd 0 l lo) (hhi : Bd len h hi) (h1 : 0 ≤ l ∧ l ≤ h ∧ h ≤ (len : Int)) (hc : len ≤ cap) :
    (Instr.sliceBounds iss len cap lo hi none).run P w = .ok (l.toNat, h.toNat, cap) w := by
  have a1 : h ≤ (cap : Int) := by omega
  have a2 : 0 ≤ h := by omega
  have a3 : l ≤ max h 0 := by omega
  unfold Instr.sliceBounds
  rcases hlo with ⟨rfl, rfl⟩ | ⟨k, rfl⟩ <;> rcases hhi with ⟨rfl, rfl⟩ | ⟨k', rfl⟩ <;>
    simp [Instr.sliceBound, asIntOf, a1, a2, a3, h1.1, h1.2.1, h1.2.2]
theorem run_slice_slice {e : TypeId} (hu : P.underlying T = some (.slice e)) {sz : Nat} (hs : (Go.sizeOf e).run P w = .ok sz w) {ad : Option Addr} {len cap : Nat} {lo hi : Option Value} {l h : Int} (hlo : Bd 0 l lo) (hhi : Bd len h hi)
    (h1 : 0 ≤ l ∧ l ≤ h ∧ h ≤ (len : Int)) (hc : len ≤ cap) :
    (Instr.sliceAt T (.slice ad len cap) lo hi none).run P w = .ok (.slice (if cap = l.toNat then ad else ad.map (·.add (l.toNat * sz))) (h.toNat - l.toNat) (cap - l.toNat)) w := by
  simp [Instr.sliceAt, Instr.slice, underlying_of hu, run_sliceBounds hlo hhi h1 hc, hs]
theorem run_slice_arr {e : TypeId} {m : Nat} (hu : P.underlying T = some (.array m e)) {sz : Nat} (hs : (Go.sizeOf e).run P w = .ok sz w) {ad : Addr} {lo hi : Option Value} {l h : Int} (hlo : Bd 0 l lo) (hhi : Bd m h hi)
    (h1 : 0 ≤ l ∧ l ≤ h ∧ h ≤ (m : Int)) :
    (Instr.sliceAt T (.pointer (some ad)) lo hi none).run P w = .ok (.slice (some (if m = l.toNat then ad else ad.add (l.toNat * sz))) (h.toNat - l.toNat) (m - l.toNat)) w := by
  simp [Instr.sliceAt, Instr.sureAddr, underlying_of hu, run_sliceBounds hlo hhi h1 (Nat.le_refl m), hs]
end
end Go.Xr
