/-
  No cell of these rows narrows 'for every input' (looked for: loops, veiled, ifaces, maps, wideKeys, modest, calm, conditions, laid).
  DERIVED. THE GIVEN ROWS OF THIS SEAT. 6 by the template 'for every input the law returns true; each argument reads behind the call as it read before'; 0 by the template 'total and deterministic' (their statements: YtjidecalfabkbaaTotals.lean).
  GIVEN WITH THE SEED: the statements are not yours to turn. If you find one false, say at which input.
  Laid BY PROGRAM, IN A SANDBOX (cutbox-rows.mjs): the forced cells as the released guide's own fill.sh prints them over the translation b1e784aad429a10c… (all of the seat's roots in one cut). By AI agents, Wed Nov 11 2026. No macro, syntax, notation, axiom, sorry.
-/
import Derived.Test.YtjidecalfabkbaaChecked
import GoSem.Claim
import GoSem.ClaimJoined
import GoSem.ClaimMapViews
import Derived.JoinedTies
import Derived.KernelRfl
namespace Go.Proofs.Ytjidecalfabkbaa
/- THE CELL 'sum', in the pinned program and in every row, IS THE sha256 OF THE DUMP (.gsa) THAT YtjidecalfabkbaaProg.lean LOADS. Nothing in Lean hashes anything: it is a label: what it is worth is what the hold of that sum in a sandbox is worth. -/
noncomputable def Try.pinned : Pinned := { name := "ytjidecalfabkbaa", sum := "b1e784aad429a10c1a2e3e8ee7bf1ad5a18e385eabf5d01ca2ff7a16a4bbdb30", checked := Try.checked }
namespace Rows
def none {H : Type} : Left H := { results := [], args := [] }

/-- 'wainscotlaw8.DiskBits': WHATEVER THE INPUT: true; the input reads as it did. -/
def diskBitsSpec : ChangeSpec := { name := "diskBits", fn := fun _ => fun
  | [d1, d2, d3, d4] => { results := [.lit (.bool true)], args := [d1, d2, d3, d4] }
  | _ => none }
def diskBitsRow : OpenClaim := { program := "ytjidecalfabkbaa", sum := "b1e784aad429a10c1a2e3e8ee7bf1ad5a18e385eabf5d01ca2ff7a16a4bbdb30", func := "wainscot/wainscotlaw8.DiskBits", spec := "diskBits", unfollowed := true, recurses := true, plainKeys := false, apart := false }
def DiskBitsSaid : Prop := diskBitsRow.holds Try.pinned (OpenSpec.ofChange diskBitsSpec)

/-- ITS FALSE NEIGHBOUR: 'it returns false'. Refute it at one input. -/
def diskBitsWrong : ChangeSpec := { name := "diskBits", fn := fun _ => fun
  | [d1, d2, d3, d4] => { results := [.lit (.bool false)], args := [d1, d2, d3, d4] }
  | _ => none }
def DiskBitsWrongFalsely : Prop := diskBitsRow.holds Try.pinned (OpenSpec.ofChange diskBitsWrong)

/-- 'wainscotlaw18.PoolActs': WHATEVER THE INPUT: true; the input reads as it did. -/
def poolActsSpec : ChangeSpec := { name := "poolActs", fn := fun _ => fun
  | [d1, d2, d3, d4] => { results := [.lit (.bool true)], args := [d1, d2, d3, d4] }
  | _ => none }
def poolActsRow : OpenClaim := { program := "ytjidecalfabkbaa", sum := "b1e784aad429a10c1a2e3e8ee7bf1ad5a18e385eabf5d01ca2ff7a16a4bbdb30", func := "wainscot/wainscotlaw18.PoolActs", spec := "poolActs", unfollowed := true, recurses := true, plainKeys := false, apart := false }
def PoolActsSaid : Prop := poolActsRow.holds Try.pinned (OpenSpec.ofChange poolActsSpec)

/-- ITS FALSE NEIGHBOUR: 'it returns false'. Refute it at one input. -/
def poolActsWrong : ChangeSpec := { name := "poolActs", fn := fun _ => fun
  | [d1, d2, d3, d4] => { results := [.lit (.bool false)], args := [d1, d2, d3, d4] }
  | _ => none }
def PoolActsWrongFalsely : Prop := poolActsRow.holds Try.pinned (OpenSpec.ofChange poolActsWrong)

/-- 'wainscotlaw18.PoolKeeps': WHATEVER THE INPUT: true; the input reads as it did. -/
def poolKeepsSpec : ChangeSpec := { name := "poolKeeps", fn := fun _ => fun
  | [d1, d2] => { results := [.lit (.bool true)], args := [d1, d2] }
  | _ => none }
def poolKeepsRow : OpenClaim := { program := "ytjidecalfabkbaa", sum := "b1e784aad429a10c1a2e3e8ee7bf1ad5a18e385eabf5d01ca2ff7a16a4bbdb30", func := "wainscot/wainscotlaw18.PoolKeeps", spec := "poolKeeps", unfollowed := true, recurses := true, plainKeys := false, apart := false }
def PoolKeepsSaid : Prop := poolKeepsRow.holds Try.pinned (OpenSpec.ofChange poolKeepsSpec)

/-- ITS FALSE NEIGHBOUR: 'it returns false'. Refute it at one input. -/
def poolKeepsWrong : ChangeSpec := { name := "poolKeeps", fn := fun _ => fun
  | [d1, d2] => { results := [.lit (.bool false)], args := [d1, d2] }
  | _ => none }
def PoolKeepsWrongFalsely : Prop := poolKeepsRow.holds Try.pinned (OpenSpec.ofChange poolKeepsWrong)

/-- 'wainscotlaw18.PoolBytes': WHATEVER THE INPUT: true; the input reads as it did. -/
def poolBytesSpec : ChangeSpec := { name := "poolBytes", fn := fun _ => fun
  | [d1, d2, d3] => { results := [.lit (.bool true)], args := [d1, d2, d3] }
  | _ => none }
def poolBytesRow : OpenClaim := { program := "ytjidecalfabkbaa", sum := "b1e784aad429a10c1a2e3e8ee7bf1ad5a18e385eabf5d01ca2ff7a16a4bbdb30", func := "wainscot/wainscotlaw18.PoolBytes", spec := "poolBytes", unfollowed := true, recurses := true, plainKeys := false, apart := false }
def PoolBytesSaid : Prop := poolBytesRow.holds Try.pinned (OpenSpec.ofChange poolBytesSpec)

/-- ITS FALSE NEIGHBOUR: 'it returns false'. Refute it at one input. -/
def poolBytesWrong : ChangeSpec := { name := "poolBytes", fn := fun _ => fun
  | [d1, d2, d3] => { results := [.lit (.bool false)], args := [d1, d2, d3] }
  | _ => none }
def PoolBytesWrongFalsely : Prop := poolBytesRow.holds Try.pinned (OpenSpec.ofChange poolBytesWrong)

/-- 'wainscotlaw12.DirBack': WHATEVER THE INPUT: true; the input reads as it did. -/
def dirBackSpec : ChangeSpec := { name := "dirBack", fn := fun _ => fun
  | [d1, d2, d3] => { results := [.lit (.bool true)], args := [d1, d2, d3] }
  | _ => none }
def dirBackRow : OpenClaim := { program := "ytjidecalfabkbaa", sum := "b1e784aad429a10c1a2e3e8ee7bf1ad5a18e385eabf5d01ca2ff7a16a4bbdb30", func := "wainscot/wainscotlaw12.DirBack", spec := "dirBack", unfollowed := true, recurses := true, plainKeys := false, apart := false }
def DirBackSaid : Prop := dirBackRow.holds Try.pinned (OpenSpec.ofChange dirBackSpec)

/-- ITS FALSE NEIGHBOUR: 'it returns false'. Refute it at one input. -/
def dirBackWrong : ChangeSpec := { name := "dirBack", fn := fun _ => fun
  | [d1, d2, d3] => { results := [.lit (.bool false)], args := [d1, d2, d3] }
  | _ => none }
def DirBackWrongFalsely : Prop := dirBackRow.holds Try.pinned (OpenSpec.ofChange dirBackWrong)

/-- 'wainscotlaw12.DirApart': WHATEVER THE INPUT: true; the input reads as it did. -/
def dirApartSpec : ChangeSpec := { name := "dirApart", fn := fun _ => fun
  | [d1, d2, d3, d4, d5, d6] => { results := [.lit (.bool true)], args := [d1, d2, d3, d4, d5, d6] }
  | _ => none }
def dirApartRow : OpenClaim := { program := "ytjidecalfabkbaa", sum := "b1e784aad429a10c1a2e3e8ee7bf1ad5a18e385eabf5d01ca2ff7a16a4bbdb30", func := "wainscot/wainscotlaw12.DirApart", spec := "dirApart", unfollowed := true, recurses := true, plainKeys := false, apart := false }
def DirApartSaid : Prop := dirApartRow.holds Try.pinned (OpenSpec.ofChange dirApartSpec)

/-- ITS FALSE NEIGHBOUR: 'it returns false'. Refute it at one input. -/
def dirApartWrong : ChangeSpec := { name := "dirApart", fn := fun _ => fun
  | [d1, d2, d3, d4, d5, d6] => { results := [.lit (.bool false)], args := [d1, d2, d3, d4, d5, d6] }
  | _ => none }
def DirApartWrongFalsely : Prop := dirApartRow.holds Try.pinned (OpenSpec.ofChange dirApartWrong)

/- THE SECOND FORM. 'bulk': how many values and letters a reading holds, each counted each time it is reached (what is shared counts as often as it is met; a slice's spare places count too). A statement '..UptoSaid' is the law's where the arguments, and the package variables that the reading takes, are together of bulk at most 1048576: NARROWER than '..Said'. Prove '..Said' where nothing that the law and all that it calls make is longer than what came in: it says more and counts as full. Else prove '..UptoSaid'. A law counts once. -/
mutual
def uptoBulk {H : Type} : DataW H → Nat
  | .lit (.string bytes) => bytes.length + 1
  | .lit _ => 1
  | .nil => 1
  | .ptr d => uptoBulk d + 1
  | .slice elems spare => uptoBulkAll elems + uptoBulkAll spare + 1
  | .agg parts => uptoBulkAll parts + 1
  | .iface _ d => uptoBulk d + 1
  | .map entries => uptoBulkEntries entries + 1
  | .held _ => 1
def uptoBulkAll {H : Type} : List (DataW H) → Nat
  | [] => 0
  | d :: r => uptoBulk d + uptoBulkAll r
def uptoBulkEntries {H : Type} : List (Lit × DataW H) → Nat
  | [] => 0
  | x :: r => uptoBulkEntry x + uptoBulkEntries r
def uptoBulkEntry {H : Type} : Lit × DataW H → Nat
  | (.string bytes, d) => bytes.length + uptoBulk d + 1
  | (_, d) => uptoBulk d + 1
 end
def uptoSmall : (H : Type) → List (DataW H) → Bool := fun _ ds => decide (uptoBulkAll ds ≤ 1048576)
def OpenSpec.upto (s : _root_.Go.ChangeSpec) : _root_.Go.OpenSpec := { _root_.Go.OpenSpec.ofChange s with cond := some uptoSmall }

/-- 'wainscotlaw8.DiskBits', WHERE WHAT IT READS IS OF BULK AT MOST 1048576: true; the input reads as it did. -/
def diskBitsUptoRow : OpenClaim := { program := "ytjidecalfabkbaa", sum := "b1e784aad429a10c1a2e3e8ee7bf1ad5a18e385eabf5d01ca2ff7a16a4bbdb30", func := "wainscot/wainscotlaw8.DiskBits", spec := "diskBits", unfollowed := true, recurses := true, plainKeys := false, apart := false, narrowed := true }
def DiskBitsUptoSaid : Prop := diskBitsUptoRow.holds Try.pinned (OpenSpec.upto diskBitsSpec)

/-- 'wainscotlaw18.PoolActs', WHERE WHAT IT READS IS OF BULK AT MOST 1048576: true; the input reads as it did. -/
def poolActsUptoRow : OpenClaim := { program := "ytjidecalfabkbaa", sum := "b1e784aad429a10c1a2e3e8ee7bf1ad5a18e385eabf5d01ca2ff7a16a4bbdb30", func := "wainscot/wainscotlaw18.PoolActs", spec := "poolActs", unfollowed := true, recurses := true, plainKeys := false, apart := false, narrowed := true }
def PoolActsUptoSaid : Prop := poolActsUptoRow.holds Try.pinned (OpenSpec.upto poolActsSpec)

/-- 'wainscotlaw18.PoolKeeps', WHERE WHAT IT READS IS OF BULK AT MOST 1048576: true; the input reads as it did. -/
def poolKeepsUptoRow : OpenClaim := { program := "ytjidecalfabkbaa", sum := "b1e784aad429a10c1a2e3e8ee7bf1ad5a18e385eabf5d01ca2ff7a16a4bbdb30", func := "wainscot/wainscotlaw18.PoolKeeps", spec := "poolKeeps", unfollowed := true, recurses := true, plainKeys := false, apart := false, narrowed := true }
def PoolKeepsUptoSaid : Prop := poolKeepsUptoRow.holds Try.pinned (OpenSpec.upto poolKeepsSpec)

/-- 'wainscotlaw18.PoolBytes', WHERE WHAT IT READS IS OF BULK AT MOST 1048576: true; the input reads as it did. -/
def poolBytesUptoRow : OpenClaim := { program := "ytjidecalfabkbaa", sum := "b1e784aad429a10c1a2e3e8ee7bf1ad5a18e385eabf5d01ca2ff7a16a4bbdb30", func := "wainscot/wainscotlaw18.PoolBytes", spec := "poolBytes", unfollowed := true, recurses := true, plainKeys := false, apart := false, narrowed := true }
def PoolBytesUptoSaid : Prop := poolBytesUptoRow.holds Try.pinned (OpenSpec.upto poolBytesSpec)

/-- 'wainscotlaw12.DirBack', WHERE WHAT IT READS IS OF BULK AT MOST 1048576: true; the input reads as it did. -/
def dirBackUptoRow : OpenClaim := { program := "ytjidecalfabkbaa", sum := "b1e784aad429a10c1a2e3e8ee7bf1ad5a18e385eabf5d01ca2ff7a16a4bbdb30", func := "wainscot/wainscotlaw12.DirBack", spec := "dirBack", unfollowed := true, recurses := true, plainKeys := false, apart := false, narrowed := true }
def DirBackUptoSaid : Prop := dirBackUptoRow.holds Try.pinned (OpenSpec.upto dirBackSpec)

/-- 'wainscotlaw12.DirApart', WHERE WHAT IT READS IS OF BULK AT MOST 1048576: true; the input reads as it did. -/
def dirApartUptoRow : OpenClaim := { program := "ytjidecalfabkbaa", sum := "b1e784aad429a10c1a2e3e8ee7bf1ad5a18e385eabf5d01ca2ff7a16a4bbdb30", func := "wainscot/wainscotlaw12.DirApart", spec := "dirApart", unfollowed := true, recurses := true, plainKeys := false, apart := false, narrowed := true }
def DirApartUptoSaid : Prop := dirApartUptoRow.holds Try.pinned (OpenSpec.upto dirApartSpec)

end Rows
end Go.Proofs.Ytjidecalfabkbaa
