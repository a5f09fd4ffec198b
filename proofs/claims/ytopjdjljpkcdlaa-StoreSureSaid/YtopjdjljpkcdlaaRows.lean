/-
  No cell of these rows narrows 'for every input' (looked for: loops, veiled, ifaces, maps, wideKeys, modest, calm, conditions, laid).
  DERIVED. THE GIVEN ROWS OF THIS SEAT. 6 by the template 'for every input the law returns true; each argument reads behind the call as it read before'; 0 by the template 'total and deterministic' (their statements: YtopjdjljpkcdlaaTotals.lean).
  GIVEN WITH THE SEED: the statements are not yours to turn. If you find one false, say at which input.
  Laid BY PROGRAM, IN A SANDBOX (cutbox-rows.mjs): the forced cells as the released guide's own fill.sh prints them over the translation 5b82047c18cb1259… (all of the seat's roots in one cut). By AI agents, Wed Nov 11 2026. No macro, syntax, notation, axiom, sorry.
-/
import Derived.Test.YtopjdjljpkcdlaaChecked
import GoSem.Claim
import GoSem.ClaimJoined
import GoSem.ClaimMapViews
import Derived.JoinedTies
import Derived.KernelRfl
namespace Go.Proofs.Ytopjdjljpkcdlaa
/- THE CELL 'sum', in the pinned program and in every row, IS THE sha256 OF THE DUMP (.gsa) THAT YtopjdjljpkcdlaaProg.lean LOADS. Nothing in Lean hashes anything: it is a label: what it is worth is what the hold of that sum in a sandbox is worth. -/
noncomputable def Try.pinned : Pinned := { name := "ytopjdjljpkcdlaa", sum := "5b82047c18cb1259bedb15ff85fc849ef0b2c4d5b0b03a98172186044a8b6dcb", checked := Try.checked }
namespace Rows
def none {H : Type} : Left H := { results := [], args := [] }

/-- 'dragnetlaw16.StoreDoes': WHATEVER THE INPUT: true; the input reads as it did. -/
def storeDoesSpec : ChangeSpec := { name := "storeDoes", fn := fun _ => fun
  | [d1, d2] => { results := [.lit (.bool true)], args := [d1, d2] }
  | _ => none }
def storeDoesRow : OpenClaim := { program := "ytopjdjljpkcdlaa", sum := "5b82047c18cb1259bedb15ff85fc849ef0b2c4d5b0b03a98172186044a8b6dcb", func := "dragnet/dragnetlaw16.StoreDoes", spec := "storeDoes", inPlace := ["internal/bytealg.abigen_runtime_cmpstring", "slices.overlaps[dragnet/api.File]"], unfollowed := true, recurses := true, apart := false }
def StoreDoesSaid : Prop := storeDoesRow.holds Try.pinned (OpenSpec.ofChange storeDoesSpec)

/-- ITS FALSE NEIGHBOUR: 'it returns false'. Refute it at one input. -/
def storeDoesWrong : ChangeSpec := { name := "storeDoes", fn := fun _ => fun
  | [d1, d2] => { results := [.lit (.bool false)], args := [d1, d2] }
  | _ => none }
def StoreDoesWrongFalsely : Prop := storeDoesRow.holds Try.pinned (OpenSpec.ofChange storeDoesWrong)

/-- 'dragnetlaw16.StoreCrashes': WHATEVER THE INPUT: true; the input reads as it did. -/
def storeCrashesSpec : ChangeSpec := { name := "storeCrashes", fn := fun _ => fun
  | [d1, d2] => { results := [.lit (.bool true)], args := [d1, d2] }
  | _ => none }
def storeCrashesRow : OpenClaim := { program := "ytopjdjljpkcdlaa", sum := "5b82047c18cb1259bedb15ff85fc849ef0b2c4d5b0b03a98172186044a8b6dcb", func := "dragnet/dragnetlaw16.StoreCrashes", spec := "storeCrashes", inPlace := ["internal/bytealg.abigen_runtime_cmpstring", "slices.overlaps[dragnet/api.File]"], unfollowed := true, recurses := true, apart := false }
def StoreCrashesSaid : Prop := storeCrashesRow.holds Try.pinned (OpenSpec.ofChange storeCrashesSpec)

/-- ITS FALSE NEIGHBOUR: 'it returns false'. Refute it at one input. -/
def storeCrashesWrong : ChangeSpec := { name := "storeCrashes", fn := fun _ => fun
  | [d1, d2] => { results := [.lit (.bool false)], args := [d1, d2] }
  | _ => none }
def StoreCrashesWrongFalsely : Prop := storeCrashesRow.holds Try.pinned (OpenSpec.ofChange storeCrashesWrong)

/-- 'dragnetlaw16.StoreSure': WHATEVER THE INPUT: true; the input reads as it did. -/
def storeSureSpec : ChangeSpec := { name := "storeSure", fn := fun _ => fun
  | [d1, d2] => { results := [.lit (.bool true)], args := [d1, d2] }
  | _ => none }
def storeSureRow : OpenClaim := { program := "ytopjdjljpkcdlaa", sum := "5b82047c18cb1259bedb15ff85fc849ef0b2c4d5b0b03a98172186044a8b6dcb", func := "dragnet/dragnetlaw16.StoreSure", spec := "storeSure", inPlace := ["internal/bytealg.abigen_runtime_cmpstring", "slices.overlaps[dragnet/api.File]"], unfollowed := true, recurses := true, apart := false }
def StoreSureSaid : Prop := storeSureRow.holds Try.pinned (OpenSpec.ofChange storeSureSpec)

/-- ITS FALSE NEIGHBOUR: 'it returns false'. Refute it at one input. -/
def storeSureWrong : ChangeSpec := { name := "storeSure", fn := fun _ => fun
  | [d1, d2] => { results := [.lit (.bool false)], args := [d1, d2] }
  | _ => none }
def StoreSureWrongFalsely : Prop := storeSureRow.holds Try.pinned (OpenSpec.ofChange storeSureWrong)

/-- 'dragnetlaw16.StoreCounts': WHATEVER THE INPUT: true; the input reads as it did. -/
def storeCountsSpec : ChangeSpec := { name := "storeCounts", fn := fun _ => fun
  | [d1, d2, d3] => { results := [.lit (.bool true)], args := [d1, d2, d3] }
  | _ => none }
def storeCountsRow : OpenClaim := { program := "ytopjdjljpkcdlaa", sum := "5b82047c18cb1259bedb15ff85fc849ef0b2c4d5b0b03a98172186044a8b6dcb", func := "dragnet/dragnetlaw16.StoreCounts", spec := "storeCounts", inPlace := ["internal/bytealg.abigen_runtime_cmpstring", "slices.overlaps[dragnet/api.File]"], unfollowed := true, recurses := true, apart := false }
def StoreCountsSaid : Prop := storeCountsRow.holds Try.pinned (OpenSpec.ofChange storeCountsSpec)

/-- ITS FALSE NEIGHBOUR: 'it returns false'. Refute it at one input. -/
def storeCountsWrong : ChangeSpec := { name := "storeCounts", fn := fun _ => fun
  | [d1, d2, d3] => { results := [.lit (.bool false)], args := [d1, d2, d3] }
  | _ => none }
def StoreCountsWrongFalsely : Prop := storeCountsRow.holds Try.pinned (OpenSpec.ofChange storeCountsWrong)

/-- 'dragnetlaw16.StoreReads': WHATEVER THE INPUT: true; the input reads as it did. -/
def storeReadsSpec : ChangeSpec := { name := "storeReads", fn := fun _ => fun
  | [d1, d2, d3] => { results := [.lit (.bool true)], args := [d1, d2, d3] }
  | _ => none }
def storeReadsRow : OpenClaim := { program := "ytopjdjljpkcdlaa", sum := "5b82047c18cb1259bedb15ff85fc849ef0b2c4d5b0b03a98172186044a8b6dcb", func := "dragnet/dragnetlaw16.StoreReads", spec := "storeReads", inPlace := ["internal/bytealg.abigen_runtime_cmpstring", "slices.overlaps[dragnet/api.File]"], unfollowed := true, recurses := true, apart := false }
def StoreReadsSaid : Prop := storeReadsRow.holds Try.pinned (OpenSpec.ofChange storeReadsSpec)

/-- ITS FALSE NEIGHBOUR: 'it returns false'. Refute it at one input. -/
def storeReadsWrong : ChangeSpec := { name := "storeReads", fn := fun _ => fun
  | [d1, d2, d3] => { results := [.lit (.bool false)], args := [d1, d2, d3] }
  | _ => none }
def StoreReadsWrongFalsely : Prop := storeReadsRow.holds Try.pinned (OpenSpec.ofChange storeReadsWrong)

/-- 'dragnetlaw16.StoreSets': WHATEVER THE INPUT: true; the input reads as it did. -/
def storeSetsSpec : ChangeSpec := { name := "storeSets", fn := fun _ => fun
  | [d1, d2, d3] => { results := [.lit (.bool true)], args := [d1, d2, d3] }
  | _ => none }
def storeSetsRow : OpenClaim := { program := "ytopjdjljpkcdlaa", sum := "5b82047c18cb1259bedb15ff85fc849ef0b2c4d5b0b03a98172186044a8b6dcb", func := "dragnet/dragnetlaw16.StoreSets", spec := "storeSets", inPlace := ["internal/bytealg.abigen_runtime_cmpstring", "slices.overlaps[dragnet/api.File]"], unfollowed := true, recurses := true, apart := false }
def StoreSetsSaid : Prop := storeSetsRow.holds Try.pinned (OpenSpec.ofChange storeSetsSpec)

/-- ITS FALSE NEIGHBOUR: 'it returns false'. Refute it at one input. -/
def storeSetsWrong : ChangeSpec := { name := "storeSets", fn := fun _ => fun
  | [d1, d2, d3] => { results := [.lit (.bool false)], args := [d1, d2, d3] }
  | _ => none }
def StoreSetsWrongFalsely : Prop := storeSetsRow.holds Try.pinned (OpenSpec.ofChange storeSetsWrong)

/- THE SECOND FORM. 'bulk': how many values and letters a reading holds, each counted each time it is reached (what is shared counts as often as it is met; a slice's spare places count too). A statement '..UptoSaid' is the law's where the arguments, and the package variables that the reading takes, are together of bulk at most 1048576: NARROWER than '..Said'. Prove '..Said' where nothing that the law and all that it calls make is longer than what came in: it says more and counts as full. Else prove '..UptoSaid'. A law counts once. -/
mutual
def uptoBulk {H : Type} : DataW H → Nat
  | .lit (.string bytes) => bytes.length + 1
  | .lit _ => 1
  | .nil => 1
  | .ptr d => uptoBulk d + 1
  | .slice elems spare => uptoBulkAll elems + uptoBulkAll spare + 1
  | .agg parts => uptoBulkAll parts + 1
  | .iface _ d => uptoBulk d + 1
  | .map entries => uptoBulkEntries entries + 1
  | .held _ => 1
def uptoBulkAll {H : Type} : List (DataW H) → Nat
  | [] => 0
  | d :: r => uptoBulk d + uptoBulkAll r
def uptoBulkEntries {H : Type} : List (Lit × DataW H) → Nat
  | [] => 0
  | x :: r => uptoBulkEntry x + uptoBulkEntries r
def uptoBulkEntry {H : Type} : Lit × DataW H → Nat
  | (.string bytes, d) => bytes.length + uptoBulk d + 1
  | (_, d) => uptoBulk d + 1
 end
def uptoSmall : (H : Type) → List (DataW H) → Bool := fun _ ds => decide (uptoBulkAll ds ≤ 1048576)
def OpenSpec.upto (s : _root_.Go.ChangeSpec) : _root_.Go.OpenSpec := { _root_.Go.OpenSpec.ofChange s with cond := some uptoSmall }

/-- 'dragnetlaw16.StoreDoes', WHERE WHAT IT READS IS OF BULK AT MOST 1048576: true; the input reads as it did. -/
def storeDoesUptoRow : OpenClaim := { program := "ytopjdjljpkcdlaa", sum := "5b82047c18cb1259bedb15ff85fc849ef0b2c4d5b0b03a98172186044a8b6dcb", func := "dragnet/dragnetlaw16.StoreDoes", spec := "storeDoes", inPlace := ["internal/bytealg.abigen_runtime_cmpstring", "slices.overlaps[dragnet/api.File]"], unfollowed := true, recurses := true, apart := false, narrowed := true }
def StoreDoesUptoSaid : Prop := storeDoesUptoRow.holds Try.pinned (OpenSpec.upto storeDoesSpec)

/-- 'dragnetlaw16.StoreCrashes', WHERE WHAT IT READS IS OF BULK AT MOST 1048576: true; the input reads as it did. -/
def storeCrashesUptoRow : OpenClaim := { program := "ytopjdjljpkcdlaa", sum := "5b82047c18cb1259bedb15ff85fc849ef0b2c4d5b0b03a98172186044a8b6dcb", func := "dragnet/dragnetlaw16.StoreCrashes", spec := "storeCrashes", inPlace := ["internal/bytealg.abigen_runtime_cmpstring", "slices.overlaps[dragnet/api.File]"], unfollowed := true, recurses := true, apart := false, narrowed := true }
def StoreCrashesUptoSaid : Prop := storeCrashesUptoRow.holds Try.pinned (OpenSpec.upto storeCrashesSpec)

/-- 'dragnetlaw16.StoreSure', WHERE WHAT IT READS IS OF BULK AT MOST 1048576: true; the input reads as it did. -/
def storeSureUptoRow : OpenClaim := { program := "ytopjdjljpkcdlaa", sum := "5b82047c18cb1259bedb15ff85fc849ef0b2c4d5b0b03a98172186044a8b6dcb", func := "dragnet/dragnetlaw16.StoreSure", spec := "storeSure", inPlace := ["internal/bytealg.abigen_runtime_cmpstring", "slices.overlaps[dragnet/api.File]"], unfollowed := true, recurses := true, apart := false, narrowed := true }
def StoreSureUptoSaid : Prop := storeSureUptoRow.holds Try.pinned (OpenSpec.upto storeSureSpec)

/-- 'dragnetlaw16.StoreCounts', WHERE WHAT IT READS IS OF BULK AT MOST 1048576: true; the input reads as it did. -/
def storeCountsUptoRow : OpenClaim := { program := "ytopjdjljpkcdlaa", sum := "5b82047c18cb1259bedb15ff85fc849ef0b2c4d5b0b03a98172186044a8b6dcb", func := "dragnet/dragnetlaw16.StoreCounts", spec := "storeCounts", inPlace := ["internal/bytealg.abigen_runtime_cmpstring", "slices.overlaps[dragnet/api.File]"], unfollowed := true, recurses := true, apart := false, narrowed := true }
def StoreCountsUptoSaid : Prop := storeCountsUptoRow.holds Try.pinned (OpenSpec.upto storeCountsSpec)

/-- 'dragnetlaw16.StoreReads', WHERE WHAT IT READS IS OF BULK AT MOST 1048576: true; the input reads as it did. -/
def storeReadsUptoRow : OpenClaim := { program := "ytopjdjljpkcdlaa", sum := "5b82047c18cb1259bedb15ff85fc849ef0b2c4d5b0b03a98172186044a8b6dcb", func := "dragnet/dragnetlaw16.StoreReads", spec := "storeReads", inPlace := ["internal/bytealg.abigen_runtime_cmpstring", "slices.overlaps[dragnet/api.File]"], unfollowed := true, recurses := true, apart := false, narrowed := true }
def StoreReadsUptoSaid : Prop := storeReadsUptoRow.holds Try.pinned (OpenSpec.upto storeReadsSpec)

/-- 'dragnetlaw16.StoreSets', WHERE WHAT IT READS IS OF BULK AT MOST 1048576: true; the input reads as it did. -/
def storeSetsUptoRow : OpenClaim := { program := "ytopjdjljpkcdlaa", sum := "5b82047c18cb1259bedb15ff85fc849ef0b2c4d5b0b03a98172186044a8b6dcb", func := "dragnet/dragnetlaw16.StoreSets", spec := "storeSets", inPlace := ["internal/bytealg.abigen_runtime_cmpstring", "slices.overlaps[dragnet/api.File]"], unfollowed := true, recurses := true, apart := false, narrowed := true }
def StoreSetsUptoSaid : Prop := storeSetsUptoRow.holds Try.pinned (OpenSpec.upto storeSetsSpec)

end Rows
end Go.Proofs.Ytopjdjljpkcdlaa
