/-
  No cell of these rows narrows 'for every input' (looked for: loops, veiled, ifaces, maps, wideKeys, modest, calm, conditions, laid).
  DERIVED. THE GIVEN ROWS OF THIS SEAT. 6 by the template 'for every input the law returns true; each argument reads behind the call as it read before'; 0 by the template 'total and deterministic' (their statements: YtkdhhafoohnlnaaTotals.lean).
  GIVEN WITH THE SEED: the statements are not yours to turn. If you find one false, say at which input.
  Laid BY PROGRAM, IN A SANDBOX (cutbox-rows.mjs): the forced cells as the released guide's own fill.sh prints them over the translation 4a015d35988e4675… (all of the seat's roots in one cut). By AI agents, Wed Nov 11 2026. No macro, syntax, notation, axiom, sorry.
-/
import Derived.Test.YtkdhhafoohnlnaaChecked
import GoSem.Claim
import GoSem.ClaimJoined
import GoSem.ClaimMapViews
import Derived.JoinedTies
import Derived.KernelRfl
namespace Go.Proofs.Ytkdhhafoohnlnaa
/- THE CELL 'sum', in the pinned program and in every row, IS THE sha256 OF THE DUMP (.gsa) THAT YtkdhhafoohnlnaaProg.lean LOADS. Nothing in Lean hashes anything: it is a label: what it is worth is what the hold of that sum in a sandbox is worth. -/
noncomputable def Try.pinned : Pinned := { name := "ytkdhhafoohnlnaa", sum := "4a015d35988e4675a5a43c9f88f7a59b12a732fd1f2c81e04d37ef5317dac0a6", checked := Try.checked }
namespace Rows
def none {H : Type} : Left H := { results := [], args := [] }

/-- 'lapidarylaw19.FoldGroups': WHATEVER THE INPUT: true; the input reads as it did. -/
def foldGroupsSpec : ChangeSpec := { name := "foldGroups", fn := fun _ => fun
  | [d1, d2] => { results := [.lit (.bool true)], args := [d1, d2] }
  | _ => none }
def foldGroupsRow : OpenClaim := { program := "ytkdhhafoohnlnaa", sum := "4a015d35988e4675a5a43c9f88f7a59b12a732fd1f2c81e04d37ef5317dac0a6", func := "lapidary/lapidarylaw19.FoldGroups", spec := "foldGroups", unfollowed := true, recurses := true, apart := false }
def FoldGroupsSaid : Prop := foldGroupsRow.holds Try.pinned (OpenSpec.ofChange foldGroupsSpec)

/-- ITS FALSE NEIGHBOUR: 'it returns false'. Refute it at one input. -/
def foldGroupsWrong : ChangeSpec := { name := "foldGroups", fn := fun _ => fun
  | [d1, d2] => { results := [.lit (.bool false)], args := [d1, d2] }
  | _ => none }
def FoldGroupsWrongFalsely : Prop := foldGroupsRow.holds Try.pinned (OpenSpec.ofChange foldGroupsWrong)

/-- 'lapidarylaw19.FoldSorts': WHATEVER THE INPUT: true; the input reads as it did. -/
def foldSortsSpec : ChangeSpec := { name := "foldSorts", fn := fun _ => fun
  | [d1, d2, d3] => { results := [.lit (.bool true)], args := [d1, d2, d3] }
  | _ => none }
def foldSortsRow : OpenClaim := { program := "ytkdhhafoohnlnaa", sum := "4a015d35988e4675a5a43c9f88f7a59b12a732fd1f2c81e04d37ef5317dac0a6", func := "lapidary/lapidarylaw19.FoldSorts", spec := "foldSorts", unfollowed := true, recurses := true, apart := false }
def FoldSortsSaid : Prop := foldSortsRow.holds Try.pinned (OpenSpec.ofChange foldSortsSpec)

/-- ITS FALSE NEIGHBOUR: 'it returns false'. Refute it at one input. -/
def foldSortsWrong : ChangeSpec := { name := "foldSorts", fn := fun _ => fun
  | [d1, d2, d3] => { results := [.lit (.bool false)], args := [d1, d2, d3] }
  | _ => none }
def FoldSortsWrongFalsely : Prop := foldSortsRow.holds Try.pinned (OpenSpec.ofChange foldSortsWrong)

/-- 'lapidarylaw19.FoldStable': WHATEVER THE INPUT: true; the input reads as it did. -/
def foldStableSpec : ChangeSpec := { name := "foldStable", fn := fun _ => fun
  | [d] => { results := [.lit (.bool true)], args := [d] }
  | _ => none }
def foldStableRow : OpenClaim := { program := "ytkdhhafoohnlnaa", sum := "4a015d35988e4675a5a43c9f88f7a59b12a732fd1f2c81e04d37ef5317dac0a6", func := "lapidary/lapidarylaw19.FoldStable", spec := "foldStable", unfollowed := true, recurses := true, apart := false }
def FoldStableSaid : Prop := foldStableRow.holds Try.pinned (OpenSpec.ofChange foldStableSpec)

/-- ITS FALSE NEIGHBOUR: 'it returns false'. Refute it at one input. -/
def foldStableWrong : ChangeSpec := { name := "foldStable", fn := fun _ => fun
  | [d] => { results := [.lit (.bool false)], args := [d] }
  | _ => none }
def FoldStableWrongFalsely : Prop := foldStableRow.holds Try.pinned (OpenSpec.ofChange foldStableWrong)

/-- 'lapidarylaw19.FoldKeys': WHATEVER THE INPUT: true; the input reads as it did. -/
def foldKeysSpec : ChangeSpec := { name := "foldKeys", fn := fun _ => fun
  | [d] => { results := [.lit (.bool true)], args := [d] }
  | _ => none }
def foldKeysRow : OpenClaim := { program := "ytkdhhafoohnlnaa", sum := "4a015d35988e4675a5a43c9f88f7a59b12a732fd1f2c81e04d37ef5317dac0a6", func := "lapidary/lapidarylaw19.FoldKeys", spec := "foldKeys", unfollowed := true, recurses := true, apart := false }
def FoldKeysSaid : Prop := foldKeysRow.holds Try.pinned (OpenSpec.ofChange foldKeysSpec)

/-- ITS FALSE NEIGHBOUR: 'it returns false'. Refute it at one input. -/
def foldKeysWrong : ChangeSpec := { name := "foldKeys", fn := fun _ => fun
  | [d] => { results := [.lit (.bool false)], args := [d] }
  | _ => none }
def FoldKeysWrongFalsely : Prop := foldKeysRow.holds Try.pinned (OpenSpec.ofChange foldKeysWrong)

/-- 'lapidarylaw19.FoldOrders': WHATEVER THE INPUT: true; the input reads as it did. -/
def foldOrdersSpec : ChangeSpec := { name := "foldOrders", fn := fun _ => fun
  | [d1, d2] => { results := [.lit (.bool true)], args := [d1, d2] }
  | _ => none }
def foldOrdersRow : OpenClaim := { program := "ytkdhhafoohnlnaa", sum := "4a015d35988e4675a5a43c9f88f7a59b12a732fd1f2c81e04d37ef5317dac0a6", func := "lapidary/lapidarylaw19.FoldOrders", spec := "foldOrders", unfollowed := true, recurses := true, apart := false }
def FoldOrdersSaid : Prop := foldOrdersRow.holds Try.pinned (OpenSpec.ofChange foldOrdersSpec)

/-- ITS FALSE NEIGHBOUR: 'it returns false'. Refute it at one input. -/
def foldOrdersWrong : ChangeSpec := { name := "foldOrders", fn := fun _ => fun
  | [d1, d2] => { results := [.lit (.bool false)], args := [d1, d2] }
  | _ => none }
def FoldOrdersWrongFalsely : Prop := foldOrdersRow.holds Try.pinned (OpenSpec.ofChange foldOrdersWrong)

/-- 'lapidarylaw19.FoldOnce': WHATEVER THE INPUT: true; the input reads as it did. -/
def foldOnceSpec : ChangeSpec := { name := "foldOnce", fn := fun _ => fun
  | [d1, d2, d3] => { results := [.lit (.bool true)], args := [d1, d2, d3] }
  | _ => none }
def foldOnceRow : OpenClaim := { program := "ytkdhhafoohnlnaa", sum := "4a015d35988e4675a5a43c9f88f7a59b12a732fd1f2c81e04d37ef5317dac0a6", func := "lapidary/lapidarylaw19.FoldOnce", spec := "foldOnce", unfollowed := true, recurses := true, apart := false }
def FoldOnceSaid : Prop := foldOnceRow.holds Try.pinned (OpenSpec.ofChange foldOnceSpec)

/-- ITS FALSE NEIGHBOUR: 'it returns false'. Refute it at one input. -/
def foldOnceWrong : ChangeSpec := { name := "foldOnce", fn := fun _ => fun
  | [d1, d2, d3] => { results := [.lit (.bool false)], args := [d1, d2, d3] }
  | _ => none }
def FoldOnceWrongFalsely : Prop := foldOnceRow.holds Try.pinned (OpenSpec.ofChange foldOnceWrong)

/- THE SECOND FORM. 'bulk': how many values and letters a reading holds, each counted each time it is reached (what is shared counts as often as it is met; a slice's spare places count too). A statement '..UptoSaid' is the law's where the arguments, and the package variables that the reading takes, are together of bulk at most 1048576: NARROWER than '..Said'. Prove '..Said' where nothing that the law and all that it calls make is longer than what came in: it says more and counts as full. Else prove '..UptoSaid'. A law counts once. -/
mutual
def uptoBulk {H : Type} : DataW H → Nat
  | .lit (.string bytes) => bytes.length + 1
  | .lit _ => 1
  | .nil => 1
  | .ptr d => uptoBulk d + 1
  | .slice elems spare => uptoBulkAll elems + uptoBulkAll spare + 1
  | .agg parts => uptoBulkAll parts + 1
  | .iface _ d => uptoBulk d + 1
  | .map entries => uptoBulkEntries entries + 1
  | .held _ => 1
def uptoBulkAll {H : Type} : List (DataW H) → Nat
  | [] => 0
  | d :: r => uptoBulk d + uptoBulkAll r
def uptoBulkEntries {H : Type} : List (Lit × DataW H) → Nat
  | [] => 0
  | x :: r => uptoBulkEntry x + uptoBulkEntries r
def uptoBulkEntry {H : Type} : Lit × DataW H → Nat
  | (.string bytes, d) => bytes.length + uptoBulk d + 1
  | (_, d) => uptoBulk d + 1
 end
def uptoSmall : (H : Type) → List (DataW H) → Bool := fun _ ds => decide (uptoBulkAll ds ≤ 1048576)
def OpenSpec.upto (s : _root_.Go.ChangeSpec) : _root_.Go.OpenSpec := { _root_.Go.OpenSpec.ofChange s with cond := some uptoSmall }

/-- 'lapidarylaw19.FoldGroups', WHERE WHAT IT READS IS OF BULK AT MOST 1048576: true; the input reads as it did. -/
def foldGroupsUptoRow : OpenClaim := { program := "ytkdhhafoohnlnaa", sum := "4a015d35988e4675a5a43c9f88f7a59b12a732fd1f2c81e04d37ef5317dac0a6", func := "lapidary/lapidarylaw19.FoldGroups", spec := "foldGroups", unfollowed := true, recurses := true, apart := false, narrowed := true }
def FoldGroupsUptoSaid : Prop := foldGroupsUptoRow.holds Try.pinned (OpenSpec.upto foldGroupsSpec)

/-- 'lapidarylaw19.FoldSorts', WHERE WHAT IT READS IS OF BULK AT MOST 1048576: true; the input reads as it did. -/
def foldSortsUptoRow : OpenClaim := { program := "ytkdhhafoohnlnaa", sum := "4a015d35988e4675a5a43c9f88f7a59b12a732fd1f2c81e04d37ef5317dac0a6", func := "lapidary/lapidarylaw19.FoldSorts", spec := "foldSorts", unfollowed := true, recurses := true, apart := false, narrowed := true }
def FoldSortsUptoSaid : Prop := foldSortsUptoRow.holds Try.pinned (OpenSpec.upto foldSortsSpec)

/-- 'lapidarylaw19.FoldStable', WHERE WHAT IT READS IS OF BULK AT MOST 1048576: true; the input reads as it did. -/
def foldStableUptoRow : OpenClaim := { program := "ytkdhhafoohnlnaa", sum := "4a015d35988e4675a5a43c9f88f7a59b12a732fd1f2c81e04d37ef5317dac0a6", func := "lapidary/lapidarylaw19.FoldStable", spec := "foldStable", unfollowed := true, recurses := true, apart := false, narrowed := true }
def FoldStableUptoSaid : Prop := foldStableUptoRow.holds Try.pinned (OpenSpec.upto foldStableSpec)

/-- 'lapidarylaw19.FoldKeys', WHERE WHAT IT READS IS OF BULK AT MOST 1048576: true; the input reads as it did. -/
def foldKeysUptoRow : OpenClaim := { program := "ytkdhhafoohnlnaa", sum := "4a015d35988e4675a5a43c9f88f7a59b12a732fd1f2c81e04d37ef5317dac0a6", func := "lapidary/lapidarylaw19.FoldKeys", spec := "foldKeys", unfollowed := true, recurses := true, apart := false, narrowed := true }
def FoldKeysUptoSaid : Prop := foldKeysUptoRow.holds Try.pinned (OpenSpec.upto foldKeysSpec)

/-- 'lapidarylaw19.FoldOrders', WHERE WHAT IT READS IS OF BULK AT MOST 1048576: true; the input reads as it did. -/
def foldOrdersUptoRow : OpenClaim := { program := "ytkdhhafoohnlnaa", sum := "4a015d35988e4675a5a43c9f88f7a59b12a732fd1f2c81e04d37ef5317dac0a6", func := "lapidary/lapidarylaw19.FoldOrders", spec := "foldOrders", unfollowed := true, recurses := true, apart := false, narrowed := true }
def FoldOrdersUptoSaid : Prop := foldOrdersUptoRow.holds Try.pinned (OpenSpec.upto foldOrdersSpec)

/-- 'lapidarylaw19.FoldOnce', WHERE WHAT IT READS IS OF BULK AT MOST 1048576: true; the input reads as it did. -/
def foldOnceUptoRow : OpenClaim := { program := "ytkdhhafoohnlnaa", sum := "4a015d35988e4675a5a43c9f88f7a59b12a732fd1f2c81e04d37ef5317dac0a6", func := "lapidary/lapidarylaw19.FoldOnce", spec := "foldOnce", unfollowed := true, recurses := true, apart := false, narrowed := true }
def FoldOnceUptoSaid : Prop := foldOnceUptoRow.holds Try.pinned (OpenSpec.upto foldOnceSpec)

end Rows
end Go.Proofs.Ytkdhhafoohnlnaa
