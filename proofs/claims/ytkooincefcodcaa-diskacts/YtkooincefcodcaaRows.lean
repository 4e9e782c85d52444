/-
  No cell of these rows narrows 'for every input' (looked for: loops, veiled, ifaces, maps, wideKeys, modest, calm, conditions, laid).
  DERIVED. THE GIVEN ROWS OF THIS SEAT. 12 by the template 'for every input the law returns true; each argument reads behind the call as it read before'; 0 by the template 'total and deterministic' (their statements: YtkooincefcodcaaTotals.lean).
  GIVEN WITH THE SEED: the statements are not yours to turn. If you find one false, say at which input.
  Laid BY PROGRAM, IN A SANDBOX (cutbox-rows.mjs): the forced cells as the released guide's own fill.sh prints them over the translation 71eb8ebd4c9bad4f… (all of the seat's roots in one cut). By AI agents, Wed Nov 11 2026. No macro, syntax, notation, axiom, sorry.
-/
import Derived.Test.YtkooincefcodcaaChecked
import GoSem.Claim
import GoSem.ClaimJoined
import GoSem.ClaimMapViews
import Derived.JoinedTies
import Derived.KernelRfl
namespace Go.Proofs.Ytkooincefcodcaa
/- THE CELL 'sum', in the pinned program and in every row, IS THE sha256 OF THE DUMP (.gsa) THAT YtkooincefcodcaaProg.lean LOADS. Nothing in Lean hashes anything: it is a label: what it is worth is what the hold of that sum in a sandbox is worth. -/
noncomputable def Try.pinned : Pinned := { name := "ytkooincefcodcaa", sum := "71eb8ebd4c9bad4fc9c7262d8535ca8fa8b3a71bf63f65b61e911e73f80247fc", checked := Try.checked }
namespace Rows
def none {H : Type} : Left H := { results := [], args := [] }

/-- 'wainscotlaw6.MatchCopies': WHATEVER THE INPUT: true; the input reads as it did. -/
def matchCopiesSpec : ChangeSpec := { name := "matchCopies", fn := fun _ => fun
  | [d1, d2, d3] => { results := [.lit (.bool true)], args := [d1, d2, d3] }
  | _ => none }
def matchCopiesRow : OpenClaim := { program := "ytkooincefcodcaa", sum := "71eb8ebd4c9bad4fc9c7262d8535ca8fa8b3a71bf63f65b61e911e73f80247fc", func := "wainscot/wainscotlaw6.MatchCopies", spec := "matchCopies", unfollowed := true, recurses := true, plainKeys := false, apart := false }
def MatchCopiesSaid : Prop := matchCopiesRow.holds Try.pinned (OpenSpec.ofChange matchCopiesSpec)

/-- ITS FALSE NEIGHBOUR: 'it returns false'. Refute it at one input. -/
def matchCopiesWrong : ChangeSpec := { name := "matchCopies", fn := fun _ => fun
  | [d1, d2, d3] => { results := [.lit (.bool false)], args := [d1, d2, d3] }
  | _ => none }
def MatchCopiesWrongFalsely : Prop := matchCopiesRow.holds Try.pinned (OpenSpec.ofChange matchCopiesWrong)

/-- 'wainscotlaw6.MatchRuns': WHATEVER THE INPUT: true; the input reads as it did. -/
def matchRunsSpec : ChangeSpec := { name := "matchRuns", fn := fun _ => fun
  | [d1, d2, d3] => { results := [.lit (.bool true)], args := [d1, d2, d3] }
  | _ => none }
def matchRunsRow : OpenClaim := { program := "ytkooincefcodcaa", sum := "71eb8ebd4c9bad4fc9c7262d8535ca8fa8b3a71bf63f65b61e911e73f80247fc", func := "wainscot/wainscotlaw6.MatchRuns", spec := "matchRuns", unfollowed := true, recurses := true, plainKeys := false, apart := false }
def MatchRunsSaid : Prop := matchRunsRow.holds Try.pinned (OpenSpec.ofChange matchRunsSpec)

/-- ITS FALSE NEIGHBOUR: 'it returns false'. Refute it at one input. -/
def matchRunsWrong : ChangeSpec := { name := "matchRuns", fn := fun _ => fun
  | [d1, d2, d3] => { results := [.lit (.bool false)], args := [d1, d2, d3] }
  | _ => none }
def MatchRunsWrongFalsely : Prop := matchRunsRow.holds Try.pinned (OpenSpec.ofChange matchRunsWrong)

/-- 'wainscotlaw5.BitsTells': WHATEVER THE INPUT: true; the input reads as it did. -/
def bitsTellsSpec : ChangeSpec := { name := "bitsTells", fn := fun _ => fun
  | [d1, d2, d3] => { results := [.lit (.bool true)], args := [d1, d2, d3] }
  | _ => none }
def bitsTellsRow : OpenClaim := { program := "ytkooincefcodcaa", sum := "71eb8ebd4c9bad4fc9c7262d8535ca8fa8b3a71bf63f65b61e911e73f80247fc", func := "wainscot/wainscotlaw5.BitsTells", spec := "bitsTells", plainKeys := false, apart := false }
def BitsTellsSaid : Prop := bitsTellsRow.holds Try.pinned (OpenSpec.ofChange bitsTellsSpec)

/-- ITS FALSE NEIGHBOUR: 'it returns false'. Refute it at one input. -/
def bitsTellsWrong : ChangeSpec := { name := "bitsTells", fn := fun _ => fun
  | [d1, d2, d3] => { results := [.lit (.bool false)], args := [d1, d2, d3] }
  | _ => none }
def BitsTellsWrongFalsely : Prop := bitsTellsRow.holds Try.pinned (OpenSpec.ofChange bitsTellsWrong)

/-- 'wainscotlaw5.BitsBack': WHATEVER THE INPUT: true; the input reads as it did. -/
def bitsBackSpec : ChangeSpec := { name := "bitsBack", fn := fun _ => fun
  | [d] => { results := [.lit (.bool true)], args := [d] }
  | _ => none }
def bitsBackRow : OpenClaim := { program := "ytkooincefcodcaa", sum := "71eb8ebd4c9bad4fc9c7262d8535ca8fa8b3a71bf63f65b61e911e73f80247fc", func := "wainscot/wainscotlaw5.BitsBack", spec := "bitsBack", plainKeys := false, apart := false }
def BitsBackSaid : Prop := bitsBackRow.holds Try.pinned (OpenSpec.ofChange bitsBackSpec)

/-- ITS FALSE NEIGHBOUR: 'it returns false'. Refute it at one input. -/
def bitsBackWrong : ChangeSpec := { name := "bitsBack", fn := fun _ => fun
  | [d] => { results := [.lit (.bool false)], args := [d] }
  | _ => none }
def BitsBackWrongFalsely : Prop := bitsBackRow.holds Try.pinned (OpenSpec.ofChange bitsBackWrong)

/-- 'wainscotlaw5.BitsBytes': WHATEVER THE INPUT: true; the input reads as it did. -/
def bitsBytesSpec : ChangeSpec := { name := "bitsBytes", fn := fun _ => fun
  | [d1, d2] => { results := [.lit (.bool true)], args := [d1, d2] }
  | _ => none }
def bitsBytesRow : OpenClaim := { program := "ytkooincefcodcaa", sum := "71eb8ebd4c9bad4fc9c7262d8535ca8fa8b3a71bf63f65b61e911e73f80247fc", func := "wainscot/wainscotlaw5.BitsBytes", spec := "bitsBytes", plainKeys := false, apart := false }
def BitsBytesSaid : Prop := bitsBytesRow.holds Try.pinned (OpenSpec.ofChange bitsBytesSpec)

/-- ITS FALSE NEIGHBOUR: 'it returns false'. Refute it at one input. -/
def bitsBytesWrong : ChangeSpec := { name := "bitsBytes", fn := fun _ => fun
  | [d1, d2] => { results := [.lit (.bool false)], args := [d1, d2] }
  | _ => none }
def BitsBytesWrongFalsely : Prop := bitsBytesRow.holds Try.pinned (OpenSpec.ofChange bitsBytesWrong)

/-- 'wainscotlaw7.LzTells': WHATEVER THE INPUT: true; the input reads as it did. -/
def lzTellsSpec : ChangeSpec := { name := "lzTells", fn := fun _ => fun
  | [d1, d2, d3] => { results := [.lit (.bool true)], args := [d1, d2, d3] }
  | _ => none }
def lzTellsRow : OpenClaim := { program := "ytkooincefcodcaa", sum := "71eb8ebd4c9bad4fc9c7262d8535ca8fa8b3a71bf63f65b61e911e73f80247fc", func := "wainscot/wainscotlaw7.LzTells", spec := "lzTells", unfollowed := true, recurses := true, plainKeys := false, apart := false }
def LzTellsSaid : Prop := lzTellsRow.holds Try.pinned (OpenSpec.ofChange lzTellsSpec)

/-- ITS FALSE NEIGHBOUR: 'it returns false'. Refute it at one input. -/
def lzTellsWrong : ChangeSpec := { name := "lzTells", fn := fun _ => fun
  | [d1, d2, d3] => { results := [.lit (.bool false)], args := [d1, d2, d3] }
  | _ => none }
def LzTellsWrongFalsely : Prop := lzTellsRow.holds Try.pinned (OpenSpec.ofChange lzTellsWrong)

/-- 'wainscotlaw7.LzBack': WHATEVER THE INPUT: true; the input reads as it did. -/
def lzBackSpec : ChangeSpec := { name := "lzBack", fn := fun _ => fun
  | [d1, d2, d3] => { results := [.lit (.bool true)], args := [d1, d2, d3] }
  | _ => none }
def lzBackRow : OpenClaim := { program := "ytkooincefcodcaa", sum := "71eb8ebd4c9bad4fc9c7262d8535ca8fa8b3a71bf63f65b61e911e73f80247fc", func := "wainscot/wainscotlaw7.LzBack", spec := "lzBack", unfollowed := true, recurses := true, plainKeys := false, apart := false }
def LzBackSaid : Prop := lzBackRow.holds Try.pinned (OpenSpec.ofChange lzBackSpec)

/-- ITS FALSE NEIGHBOUR: 'it returns false'. Refute it at one input. -/
def lzBackWrong : ChangeSpec := { name := "lzBack", fn := fun _ => fun
  | [d1, d2, d3] => { results := [.lit (.bool false)], args := [d1, d2, d3] }
  | _ => none }
def LzBackWrongFalsely : Prop := lzBackRow.holds Try.pinned (OpenSpec.ofChange lzBackWrong)

/-- 'wainscotlaw7.LzStrict': WHATEVER THE INPUT: true; the input reads as it did. -/
def lzStrictSpec : ChangeSpec := { name := "lzStrict", fn := fun _ => fun
  | [d1, d2, d3, d4, d5] => { results := [.lit (.bool true)], args := [d1, d2, d3, d4, d5] }
  | _ => none }
def lzStrictRow : OpenClaim := { program := "ytkooincefcodcaa", sum := "71eb8ebd4c9bad4fc9c7262d8535ca8fa8b3a71bf63f65b61e911e73f80247fc", func := "wainscot/wainscotlaw7.LzStrict", spec := "lzStrict", unfollowed := true, recurses := true, plainKeys := false, apart := false }
def LzStrictSaid : Prop := lzStrictRow.holds Try.pinned (OpenSpec.ofChange lzStrictSpec)

/-- ITS FALSE NEIGHBOUR: 'it returns false'. Refute it at one input. -/
def lzStrictWrong : ChangeSpec := { name := "lzStrict", fn := fun _ => fun
  | [d1, d2, d3, d4, d5] => { results := [.lit (.bool false)], args := [d1, d2, d3, d4, d5] }
  | _ => none }
def LzStrictWrongFalsely : Prop := lzStrictRow.holds Try.pinned (OpenSpec.ofChange lzStrictWrong)

/-- 'wainscotlaw7.LzShort': WHATEVER THE INPUT: true; the input reads as it did. -/
def lzShortSpec : ChangeSpec := { name := "lzShort", fn := fun _ => fun
  | [d1, d2] => { results := [.lit (.bool true)], args := [d1, d2] }
  | _ => none }
def lzShortRow : OpenClaim := { program := "ytkooincefcodcaa", sum := "71eb8ebd4c9bad4fc9c7262d8535ca8fa8b3a71bf63f65b61e911e73f80247fc", func := "wainscot/wainscotlaw7.LzShort", spec := "lzShort", unfollowed := true, recurses := true, plainKeys := false, apart := false }
def LzShortSaid : Prop := lzShortRow.holds Try.pinned (OpenSpec.ofChange lzShortSpec)

/-- ITS FALSE NEIGHBOUR: 'it returns false'. Refute it at one input. -/
def lzShortWrong : ChangeSpec := { name := "lzShort", fn := fun _ => fun
  | [d1, d2] => { results := [.lit (.bool false)], args := [d1, d2] }
  | _ => none }
def LzShortWrongFalsely : Prop := lzShortRow.holds Try.pinned (OpenSpec.ofChange lzShortWrong)

/-- 'wainscotlaw8.DiskFlushed': WHATEVER THE INPUT: true; the input reads as it did. -/
def diskFlushedSpec : ChangeSpec := { name := "diskFlushed", fn := fun _ => fun
  | [d1, d2, d3] => { results := [.lit (.bool true)], args := [d1, d2, d3] }
  | _ => none }
def diskFlushedRow : OpenClaim := { program := "ytkooincefcodcaa", sum := "71eb8ebd4c9bad4fc9c7262d8535ca8fa8b3a71bf63f65b61e911e73f80247fc", func := "wainscot/wainscotlaw8.DiskFlushed", spec := "diskFlushed", unfollowed := true, recurses := true, plainKeys := false, apart := false }
def DiskFlushedSaid : Prop := diskFlushedRow.holds Try.pinned (OpenSpec.ofChange diskFlushedSpec)

/-- ITS FALSE NEIGHBOUR: 'it returns false'. Refute it at one input. -/
def diskFlushedWrong : ChangeSpec := { name := "diskFlushed", fn := fun _ => fun
  | [d1, d2, d3] => { results := [.lit (.bool false)], args := [d1, d2, d3] }
  | _ => none }
def DiskFlushedWrongFalsely : Prop := diskFlushedRow.holds Try.pinned (OpenSpec.ofChange diskFlushedWrong)

/-- 'wainscotlaw8.DiskLast': WHATEVER THE INPUT: true; the input reads as it did. -/
def diskLastSpec : ChangeSpec := { name := "diskLast", fn := fun _ => fun
  | [d1, d2, d3] => { results := [.lit (.bool true)], args := [d1, d2, d3] }
  | _ => none }
def diskLastRow : OpenClaim := { program := "ytkooincefcodcaa", sum := "71eb8ebd4c9bad4fc9c7262d8535ca8fa8b3a71bf63f65b61e911e73f80247fc", func := "wainscot/wainscotlaw8.DiskLast", spec := "diskLast", unfollowed := true, recurses := true, plainKeys := false, apart := false }
def DiskLastSaid : Prop := diskLastRow.holds Try.pinned (OpenSpec.ofChange diskLastSpec)

/-- ITS FALSE NEIGHBOUR: 'it returns false'. Refute it at one input. -/
def diskLastWrong : ChangeSpec := { name := "diskLast", fn := fun _ => fun
  | [d1, d2, d3] => { results := [.lit (.bool false)], args := [d1, d2, d3] }
  | _ => none }
def DiskLastWrongFalsely : Prop := diskLastRow.holds Try.pinned (OpenSpec.ofChange diskLastWrong)

/-- 'wainscotlaw8.DiskActs': WHATEVER THE INPUT: true; the input reads as it did. -/
def diskActsSpec : ChangeSpec := { name := "diskActs", fn := fun _ => fun
  | [d1, d2] => { results := [.lit (.bool true)], args := [d1, d2] }
  | _ => none }
def diskActsRow : OpenClaim := { program := "ytkooincefcodcaa", sum := "71eb8ebd4c9bad4fc9c7262d8535ca8fa8b3a71bf63f65b61e911e73f80247fc", func := "wainscot/wainscotlaw8.DiskActs", spec := "diskActs", unfollowed := true, recurses := true, plainKeys := false, apart := false }
def DiskActsSaid : Prop := diskActsRow.holds Try.pinned (OpenSpec.ofChange diskActsSpec)

/-- ITS FALSE NEIGHBOUR: 'it returns false'. Refute it at one input. -/
def diskActsWrong : ChangeSpec := { name := "diskActs", fn := fun _ => fun
  | [d1, d2] => { results := [.lit (.bool false)], args := [d1, d2] }
  | _ => none }
def DiskActsWrongFalsely : Prop := diskActsRow.holds Try.pinned (OpenSpec.ofChange diskActsWrong)

/- THE SECOND FORM. 'bulk': how many values and letters a reading holds, each counted each time it is reached (what is shared counts as often as it is met; a slice's spare places count too). A statement '..UptoSaid' is the law's where the arguments, and the package variables that the reading takes, are together of bulk at most 1048576: NARROWER than '..Said'. Prove '..Said' where nothing that the law and all that it calls make is longer than what came in: it says more and counts as full. Else prove '..UptoSaid'. A law counts once. -/
mutual
def uptoBulk {H : Type} : DataW H → Nat
  | .lit (.string bytes) => bytes.length + 1
  | .lit _ => 1
  | .nil => 1
  | .ptr d => uptoBulk d + 1
  | .slice elems spare => uptoBulkAll elems + uptoBulkAll spare + 1
  | .agg parts => uptoBulkAll parts + 1
  | .iface _ d => uptoBulk d + 1
  | .map entries => uptoBulkEntries entries + 1
  | .held _ => 1
def uptoBulkAll {H : Type} : List (DataW H) → Nat
  | [] => 0
  | d :: r => uptoBulk d + uptoBulkAll r
def uptoBulkEntries {H : Type} : List (Lit × DataW H) → Nat
  | [] => 0
  | x :: r => uptoBulkEntry x + uptoBulkEntries r
def uptoBulkEntry {H : Type} : Lit × DataW H → Nat
  | (.string bytes, d) => bytes.length + uptoBulk d + 1
  | (_, d) => uptoBulk d + 1
 end
def uptoSmall : (H : Type) → List (DataW H) → Bool := fun _ ds => decide (uptoBulkAll ds ≤ 1048576)
def OpenSpec.upto (s : _root_.Go.ChangeSpec) : _root_.Go.OpenSpec := { _root_.Go.OpenSpec.ofChange s with cond := some uptoSmall }

/-- 'wainscotlaw6.MatchCopies', WHERE WHAT IT READS IS OF BULK AT MOST 1048576: true; the input reads as it did. -/
def matchCopiesUptoRow : OpenClaim := { program := "ytkooincefcodcaa", sum := "71eb8ebd4c9bad4fc9c7262d8535ca8fa8b3a71bf63f65b61e911e73f80247fc", func := "wainscot/wainscotlaw6.MatchCopies", spec := "matchCopies", unfollowed := true, recurses := true, plainKeys := false, apart := false, narrowed := true }
def MatchCopiesUptoSaid : Prop := matchCopiesUptoRow.holds Try.pinned (OpenSpec.upto matchCopiesSpec)

/-- 'wainscotlaw6.MatchRuns', WHERE WHAT IT READS IS OF BULK AT MOST 1048576: true; the input reads as it did. -/
def matchRunsUptoRow : OpenClaim := { program := "ytkooincefcodcaa", sum := "71eb8ebd4c9bad4fc9c7262d8535ca8fa8b3a71bf63f65b61e911e73f80247fc", func := "wainscot/wainscotlaw6.MatchRuns", spec := "matchRuns", unfollowed := true, recurses := true, plainKeys := false, apart := false, narrowed := true }
def MatchRunsUptoSaid : Prop := matchRunsUptoRow.holds Try.pinned (OpenSpec.upto matchRunsSpec)

/-- 'wainscotlaw5.BitsTells', WHERE WHAT IT READS IS OF BULK AT MOST 1048576: true; the input reads as it did. -/
def bitsTellsUptoRow : OpenClaim := { program := "ytkooincefcodcaa", sum := "71eb8ebd4c9bad4fc9c7262d8535ca8fa8b3a71bf63f65b61e911e73f80247fc", func := "wainscot/wainscotlaw5.BitsTells", spec := "bitsTells", plainKeys := false, apart := false, narrowed := true }
def BitsTellsUptoSaid : Prop := bitsTellsUptoRow.holds Try.pinned (OpenSpec.upto bitsTellsSpec)

/-- 'wainscotlaw5.BitsBack', WHERE WHAT IT READS IS OF BULK AT MOST 1048576: true; the input reads as it did. -/
def bitsBackUptoRow : OpenClaim := { program := "ytkooincefcodcaa", sum := "71eb8ebd4c9bad4fc9c7262d8535ca8fa8b3a71bf63f65b61e911e73f80247fc", func := "wainscot/wainscotlaw5.BitsBack", spec := "bitsBack", plainKeys := false, apart := false, narrowed := true }
def BitsBackUptoSaid : Prop := bitsBackUptoRow.holds Try.pinned (OpenSpec.upto bitsBackSpec)

/-- 'wainscotlaw5.BitsBytes', WHERE WHAT IT READS IS OF BULK AT MOST 1048576: true; the input reads as it did. -/
def bitsBytesUptoRow : OpenClaim := { program := "ytkooincefcodcaa", sum := "71eb8ebd4c9bad4fc9c7262d8535ca8fa8b3a71bf63f65b61e911e73f80247fc", func := "wainscot/wainscotlaw5.BitsBytes", spec := "bitsBytes", plainKeys := false, apart := false, narrowed := true }
def BitsBytesUptoSaid : Prop := bitsBytesUptoRow.holds Try.pinned (OpenSpec.upto bitsBytesSpec)

/-- 'wainscotlaw7.LzTells', WHERE WHAT IT READS IS OF BULK AT MOST 1048576: true; the input reads as it did. -/
def lzTellsUptoRow : OpenClaim := { program := "ytkooincefcodcaa", sum := "71eb8ebd4c9bad4fc9c7262d8535ca8fa8b3a71bf63f65b61e911e73f80247fc", func := "wainscot/wainscotlaw7.LzTells", spec := "lzTells", unfollowed := true, recurses := true, plainKeys := false, apart := false, narrowed := true }
def LzTellsUptoSaid : Prop := lzTellsUptoRow.holds Try.pinned (OpenSpec.upto lzTellsSpec)

/-- 'wainscotlaw7.LzBack', WHERE WHAT IT READS IS OF BULK AT MOST 1048576: true; the input reads as it did. -/
def lzBackUptoRow : OpenClaim := { program := "ytkooincefcodcaa", sum := "71eb8ebd4c9bad4fc9c7262d8535ca8fa8b3a71bf63f65b61e911e73f80247fc", func := "wainscot/wainscotlaw7.LzBack", spec := "lzBack", unfollowed := true, recurses := true, plainKeys := false, apart := false, narrowed := true }
def LzBackUptoSaid : Prop := lzBackUptoRow.holds Try.pinned (OpenSpec.upto lzBackSpec)

/-- 'wainscotlaw7.LzStrict', WHERE WHAT IT READS IS OF BULK AT MOST 1048576: true; the input reads as it did. -/
def lzStrictUptoRow : OpenClaim := { program := "ytkooincefcodcaa", sum := "71eb8ebd4c9bad4fc9c7262d8535ca8fa8b3a71bf63f65b61e911e73f80247fc", func := "wainscot/wainscotlaw7.LzStrict", spec := "lzStrict", unfollowed := true, recurses := true, plainKeys := false, apart := false, narrowed := true }
def LzStrictUptoSaid : Prop := lzStrictUptoRow.holds Try.pinned (OpenSpec.upto lzStrictSpec)

/-- 'wainscotlaw7.LzShort', WHERE WHAT IT READS IS OF BULK AT MOST 1048576: true; the input reads as it did. -/
def lzShortUptoRow : OpenClaim := { program := "ytkooincefcodcaa", sum := "71eb8ebd4c9bad4fc9c7262d8535ca8fa8b3a71bf63f65b61e911e73f80247fc", func := "wainscot/wainscotlaw7.LzShort", spec := "lzShort", unfollowed := true, recurses := true, plainKeys := false, apart := false, narrowed := true }
def LzShortUptoSaid : Prop := lzShortUptoRow.holds Try.pinned (OpenSpec.upto lzShortSpec)

/-- 'wainscotlaw8.DiskFlushed', WHERE WHAT IT READS IS OF BULK AT MOST 1048576: true; the input reads as it did. -/
def diskFlushedUptoRow : OpenClaim := { program := "ytkooincefcodcaa", sum := "71eb8ebd4c9bad4fc9c7262d8535ca8fa8b3a71bf63f65b61e911e73f80247fc", func := "wainscot/wainscotlaw8.DiskFlushed", spec := "diskFlushed", unfollowed := true, recurses := true, plainKeys := false, apart := false, narrowed := true }
def DiskFlushedUptoSaid : Prop := diskFlushedUptoRow.holds Try.pinned (OpenSpec.upto diskFlushedSpec)

/-- 'wainscotlaw8.DiskLast', WHERE WHAT IT READS IS OF BULK AT MOST 1048576: true; the input reads as it did. -/
def diskLastUptoRow : OpenClaim := { program := "ytkooincefcodcaa", sum := "71eb8ebd4c9bad4fc9c7262d8535ca8fa8b3a71bf63f65b61e911e73f80247fc", func := "wainscot/wainscotlaw8.DiskLast", spec := "diskLast", unfollowed := true, recurses := true, plainKeys := false, apart := false, narrowed := true }
def DiskLastUptoSaid : Prop := diskLastUptoRow.holds Try.pinned (OpenSpec.upto diskLastSpec)

/-- 'wainscotlaw8.DiskActs', WHERE WHAT IT READS IS OF BULK AT MOST 1048576: true; the input reads as it did. -/
def diskActsUptoRow : OpenClaim := { program := "ytkooincefcodcaa", sum := "71eb8ebd4c9bad4fc9c7262d8535ca8fa8b3a71bf63f65b61e911e73f80247fc", func := "wainscot/wainscotlaw8.DiskActs", spec := "diskActs", unfollowed := true, recurses := true, plainKeys := false, apart := false, narrowed := true }
def DiskActsUptoSaid : Prop := diskActsUptoRow.holds Try.pinned (OpenSpec.upto diskActsSpec)

end Rows
end Go.Proofs.Ytkooincefcodcaa
