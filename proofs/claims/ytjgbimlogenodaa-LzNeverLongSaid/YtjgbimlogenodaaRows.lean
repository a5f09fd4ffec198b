/-
  No cell of these rows narrows 'for every input' (looked for: loops, veiled, ifaces, maps, wideKeys, modest, calm, conditions, laid).
  DERIVED. THE GIVEN ROWS OF THIS SEAT. 5 by the template 'for every input the law returns true; each argument reads behind the call as it read before'; 0 by the template 'total and deterministic' (their statements: YtjgbimlogenodaaTotals.lean).
  GIVEN WITH THE SEED: the statements are not yours to turn. If you find one false, say at which input.
  Laid BY PROGRAM, IN A SANDBOX (cutbox-rows.mjs): the forced cells as the released guide's own fill.sh prints them over the translation 431e5271ddd8d81b… (all of the seat's roots in one cut). By AI agents, Wed Nov 11 2026. No macro, syntax, notation, axiom, sorry.
-/
import Derived.Test.YtjgbimlogenodaaChecked
import GoSem.Claim
import GoSem.ClaimJoined
import GoSem.ClaimMapViews
import Derived.JoinedTies
import Derived.KernelRfl
namespace Go.Proofs.Ytjgbimlogenodaa
/- THE CELL 'sum', in the pinned program and in every row, IS THE sha256 OF THE DUMP (.gsa) THAT YtjgbimlogenodaaProg.lean LOADS. Nothing in Lean hashes anything: it is a label: what it is worth is what the hold of that sum in a sandbox is worth. -/
noncomputable def Try.pinned : Pinned := { name := "ytjgbimlogenodaa", sum := "431e5271ddd8d81ba3a628bc9368cdeceac4dd5b7f1b6a8eb5671e9501abe34d", checked := Try.checked }
namespace Rows
def none {H : Type} : Left H := { results := [], args := [] }

/-- 'dragnetlaw05.LzPacks': WHATEVER THE INPUT: true; the input reads as it did. -/
def lzPacksSpec : ChangeSpec := { name := "lzPacks", fn := fun _ => fun
  | [d] => { results := [.lit (.bool true)], args := [d] }
  | _ => none }
def lzPacksRow : OpenClaim := { program := "ytjgbimlogenodaa", sum := "431e5271ddd8d81ba3a628bc9368cdeceac4dd5b7f1b6a8eb5671e9501abe34d", func := "dragnet/dragnetlaw05.LzPacks", spec := "lzPacks", apart := false }
def LzPacksSaid : Prop := lzPacksRow.holds Try.pinned (OpenSpec.ofChange lzPacksSpec)

/-- ITS FALSE NEIGHBOUR: 'it returns false'. Refute it at one input. -/
def lzPacksWrong : ChangeSpec := { name := "lzPacks", fn := fun _ => fun
  | [d] => { results := [.lit (.bool false)], args := [d] }
  | _ => none }
def LzPacksWrongFalsely : Prop := lzPacksRow.holds Try.pinned (OpenSpec.ofChange lzPacksWrong)

/-- 'dragnetlaw05.LzUnpacks': WHATEVER THE INPUT: true; the input reads as it did. -/
def lzUnpacksSpec : ChangeSpec := { name := "lzUnpacks", fn := fun _ => fun
  | [d1, d2] => { results := [.lit (.bool true)], args := [d1, d2] }
  | _ => none }
def lzUnpacksRow : OpenClaim := { program := "ytjgbimlogenodaa", sum := "431e5271ddd8d81ba3a628bc9368cdeceac4dd5b7f1b6a8eb5671e9501abe34d", func := "dragnet/dragnetlaw05.LzUnpacks", spec := "lzUnpacks", apart := false }
def LzUnpacksSaid : Prop := lzUnpacksRow.holds Try.pinned (OpenSpec.ofChange lzUnpacksSpec)

/-- ITS FALSE NEIGHBOUR: 'it returns false'. Refute it at one input. -/
def lzUnpacksWrong : ChangeSpec := { name := "lzUnpacks", fn := fun _ => fun
  | [d1, d2] => { results := [.lit (.bool false)], args := [d1, d2] }
  | _ => none }
def LzUnpacksWrongFalsely : Prop := lzUnpacksRow.holds Try.pinned (OpenSpec.ofChange lzUnpacksWrong)

/-- 'dragnetlaw05.LzBack': WHATEVER THE INPUT: true; the input reads as it did. -/
def lzBackSpec : ChangeSpec := { name := "lzBack", fn := fun _ => fun
  | [d] => { results := [.lit (.bool true)], args := [d] }
  | _ => none }
def lzBackRow : OpenClaim := { program := "ytjgbimlogenodaa", sum := "431e5271ddd8d81ba3a628bc9368cdeceac4dd5b7f1b6a8eb5671e9501abe34d", func := "dragnet/dragnetlaw05.LzBack", spec := "lzBack", apart := false }
def LzBackSaid : Prop := lzBackRow.holds Try.pinned (OpenSpec.ofChange lzBackSpec)

/-- ITS FALSE NEIGHBOUR: 'it returns false'. Refute it at one input. -/
def lzBackWrong : ChangeSpec := { name := "lzBack", fn := fun _ => fun
  | [d] => { results := [.lit (.bool false)], args := [d] }
  | _ => none }
def LzBackWrongFalsely : Prop := lzBackRow.holds Try.pinned (OpenSpec.ofChange lzBackWrong)

/-- 'dragnetlaw05.LzNeverLong': WHATEVER THE INPUT: true; the input reads as it did. -/
def lzNeverLongSpec : ChangeSpec := { name := "lzNeverLong", fn := fun _ => fun
  | [d1, d2] => { results := [.lit (.bool true)], args := [d1, d2] }
  | _ => none }
def lzNeverLongRow : OpenClaim := { program := "ytjgbimlogenodaa", sum := "431e5271ddd8d81ba3a628bc9368cdeceac4dd5b7f1b6a8eb5671e9501abe34d", func := "dragnet/dragnetlaw05.LzNeverLong", spec := "lzNeverLong", apart := false }
def LzNeverLongSaid : Prop := lzNeverLongRow.holds Try.pinned (OpenSpec.ofChange lzNeverLongSpec)

/-- ITS FALSE NEIGHBOUR: 'it returns false'. Refute it at one input. -/
def lzNeverLongWrong : ChangeSpec := { name := "lzNeverLong", fn := fun _ => fun
  | [d1, d2] => { results := [.lit (.bool false)], args := [d1, d2] }
  | _ => none }
def LzNeverLongWrongFalsely : Prop := lzNeverLongRow.holds Try.pinned (OpenSpec.ofChange lzNeverLongWrong)

/-- 'dragnetlaw05.LzRoom': WHATEVER THE INPUT: true; the input reads as it did. -/
def lzRoomSpec : ChangeSpec := { name := "lzRoom", fn := fun _ => fun
  | [d1, d2, d3] => { results := [.lit (.bool true)], args := [d1, d2, d3] }
  | _ => none }
def lzRoomRow : OpenClaim := { program := "ytjgbimlogenodaa", sum := "431e5271ddd8d81ba3a628bc9368cdeceac4dd5b7f1b6a8eb5671e9501abe34d", func := "dragnet/dragnetlaw05.LzRoom", spec := "lzRoom", apart := false }
def LzRoomSaid : Prop := lzRoomRow.holds Try.pinned (OpenSpec.ofChange lzRoomSpec)

/-- ITS FALSE NEIGHBOUR: 'it returns false'. Refute it at one input. -/
def lzRoomWrong : ChangeSpec := { name := "lzRoom", fn := fun _ => fun
  | [d1, d2, d3] => { results := [.lit (.bool false)], args := [d1, d2, d3] }
  | _ => none }
def LzRoomWrongFalsely : Prop := lzRoomRow.holds Try.pinned (OpenSpec.ofChange lzRoomWrong)

/- THE SECOND FORM. 'bulk': how many values and letters a reading holds, each counted each time it is reached (what is shared counts as often as it is met; a slice's spare places count too). A statement '..UptoSaid' is the law's where the arguments, and the package variables that the reading takes, are together of bulk at most 1048576: NARROWER than '..Said'. Prove '..Said' where nothing that the law and all that it calls make is longer than what came in: it says more and counts as full. Else prove '..UptoSaid'. A law counts once. -/
mutual
def uptoBulk {H : Type} : DataW H → Nat
  | .lit (.string bytes) => bytes.length + 1
  | .lit _ => 1
  | .nil => 1
  | .ptr d => uptoBulk d + 1
  | .slice elems spare => uptoBulkAll elems + uptoBulkAll spare + 1
  | .agg parts => uptoBulkAll parts + 1
  | .iface _ d => uptoBulk d + 1
  | .map entries => uptoBulkEntries entries + 1
  | .held _ => 1
def uptoBulkAll {H : Type} : List (DataW H) → Nat
  | [] => 0
  | d :: r => uptoBulk d + uptoBulkAll r
def uptoBulkEntries {H : Type} : List (Lit × DataW H) → Nat
  | [] => 0
  | x :: r => uptoBulkEntry x + uptoBulkEntries r
def uptoBulkEntry {H : Type} : Lit × DataW H → Nat
  | (.string bytes, d) => bytes.length + uptoBulk d + 1
  | (_, d) => uptoBulk d + 1
 end
def uptoSmall : (H : Type) → List (DataW H) → Bool := fun _ ds => decide (uptoBulkAll ds ≤ 1048576)
def OpenSpec.upto (s : _root_.Go.ChangeSpec) : _root_.Go.OpenSpec := { _root_.Go.OpenSpec.ofChange s with cond := some uptoSmall }

/-- 'dragnetlaw05.LzPacks', WHERE WHAT IT READS IS OF BULK AT MOST 1048576: true; the input reads as it did. -/
def lzPacksUptoRow : OpenClaim := { program := "ytjgbimlogenodaa", sum := "431e5271ddd8d81ba3a628bc9368cdeceac4dd5b7f1b6a8eb5671e9501abe34d", func := "dragnet/dragnetlaw05.LzPacks", spec := "lzPacks", apart := false, narrowed := true }
def LzPacksUptoSaid : Prop := lzPacksUptoRow.holds Try.pinned (OpenSpec.upto lzPacksSpec)

/-- 'dragnetlaw05.LzUnpacks', WHERE WHAT IT READS IS OF BULK AT MOST 1048576: true; the input reads as it did. -/
def lzUnpacksUptoRow : OpenClaim := { program := "ytjgbimlogenodaa", sum := "431e5271ddd8d81ba3a628bc9368cdeceac4dd5b7f1b6a8eb5671e9501abe34d", func := "dragnet/dragnetlaw05.LzUnpacks", spec := "lzUnpacks", apart := false, narrowed := true }
def LzUnpacksUptoSaid : Prop := lzUnpacksUptoRow.holds Try.pinned (OpenSpec.upto lzUnpacksSpec)

/-- 'dragnetlaw05.LzBack', WHERE WHAT IT READS IS OF BULK AT MOST 1048576: true; the input reads as it did. -/
def lzBackUptoRow : OpenClaim := { program := "ytjgbimlogenodaa", sum := "431e5271ddd8d81ba3a628bc9368cdeceac4dd5b7f1b6a8eb5671e9501abe34d", func := "dragnet/dragnetlaw05.LzBack", spec := "lzBack", apart := false, narrowed := true }
def LzBackUptoSaid : Prop := lzBackUptoRow.holds Try.pinned (OpenSpec.upto lzBackSpec)

/-- 'dragnetlaw05.LzNeverLong', WHERE WHAT IT READS IS OF BULK AT MOST 1048576: true; the input reads as it did. -/
def lzNeverLongUptoRow : OpenClaim := { program := "ytjgbimlogenodaa", sum := "431e5271ddd8d81ba3a628bc9368cdeceac4dd5b7f1b6a8eb5671e9501abe34d", func := "dragnet/dragnetlaw05.LzNeverLong", spec := "lzNeverLong", apart := false, narrowed := true }
def LzNeverLongUptoSaid : Prop := lzNeverLongUptoRow.holds Try.pinned (OpenSpec.upto lzNeverLongSpec)

/-- 'dragnetlaw05.LzRoom', WHERE WHAT IT READS IS OF BULK AT MOST 1048576: true; the input reads as it did. -/
def lzRoomUptoRow : OpenClaim := { program := "ytjgbimlogenodaa", sum := "431e5271ddd8d81ba3a628bc9368cdeceac4dd5b7f1b6a8eb5671e9501abe34d", func := "dragnet/dragnetlaw05.LzRoom", spec := "lzRoom", apart := false, narrowed := true }
def LzRoomUptoSaid : Prop := lzRoomUptoRow.holds Try.pinned (OpenSpec.upto lzRoomSpec)

end Rows
end Go.Proofs.Ytjgbimlogenodaa
