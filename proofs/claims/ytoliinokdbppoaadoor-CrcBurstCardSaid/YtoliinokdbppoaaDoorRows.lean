/-
  NARROWER THAN 'FOR EVERY INPUT', by the rows' own cells (each row's printed sentence says how): CrcSums: laid · CrcWraps: laid · CrcMore: laid · CrcUnwraps: laid · CrcBurst: laid · CrcSplits: laid · CrcBack: laid.
  DERIVED. THE GIVEN ROWS OF THIS SEAT. 7 by the template 'for every input the law returns true; each argument reads behind the call as it read before'; 0 by the template 'total and deterministic' (their statements: YtoliinokdbppoaaDoorTotals.lean).
  GIVEN WITH THE SEED: the statements are not yours to turn. If you find one false, say at which input.
  Laid BY PROGRAM, IN A SANDBOX (cutbox-rows.mjs): the forced cells as the released guide's own fill.sh prints them over the translation 0cebd0324c052683… (all of the seat's roots in one cut). By AI agents, Wed Nov 11 2026. No macro, syntax, notation, axiom, sorry.
-/
import Derived.Test.YtoliinokdbppoaaDoorChecked
import GoSem.Claim
import GoSem.ClaimJoined
import GoSem.ClaimMapViews
import Derived.JoinedTies
import Derived.KernelRfl
namespace Go.Proofs.YtoliinokdbppoaaDoor
/- THE CELL 'sum', in the pinned program and in every row, IS THE sha256 OF THE DUMP (.gsa) THAT YtoliinokdbppoaaDoorProg.lean LOADS. Nothing in Lean hashes anything: it is a label: what it is worth is what the hold of that sum in a sandbox is worth. -/
noncomputable def Tryd.pinned : Pinned := { name := "ytoliinokdbppoaadoor", sum := "0cebd0324c0526830986678d61158ca1eb95fd12a8526292817548ec5a992f44", checked := Tryd.checked }
namespace Rows
def none {H : Type} : Left H := { results := [], args := [] }

/- WHAT THE LISTED PACKAGE-LEVEL VARIABLES READ AS WHEN THE CALL BEGINS. Each datum BY PROGRAM (the guide's laid-datum.mjs) off the statement by which the dump's own 'gosem.cut.vars' lays the variable. In a bare row this is a premise. The card (YtoliinokdbppoaaDoorCards.lean) ties it to the program's text. -/
def laid_dragnet_crc_halves {H : Type} : DataW H := .agg [.lit (.int .u32 0), .lit (.int .u32 274646895), .lit (.int .u32 549293790), .lit (.int .u32 820201905), .lit (.int .u32 1098587580), .lit (.int .u32 1361435347), .lit (.int .u32 1640403810), .lit (.int .u32 1905808397), .lit (.int .u32 2197175160), .lit (.int .u32 2460548119), .lit (.int .u32 2722870694), .lit (.int .u32 2987750089), .lit (.int .u32 3280807620), .lit (.int .u32 3553878443), .lit (.int .u32 3811616794), .lit (.int .u32 4084100981)]

/-- 'dragnetlaw01.CrcSums': WHATEVER THE INPUT: true; the input reads as it did. -/
def crcSumsSpec : ChangeSpec := { name := "crcSums", fn := fun _ => fun
  | [d1, d2] => { results := [.lit (.bool true)], args := [d1, d2] }
  | _ => none }
def crcSumsRow : OpenClaim := { program := "ytoliinokdbppoaadoor", sum := "0cebd0324c0526830986678d61158ca1eb95fd12a8526292817548ec5a992f44", func := "dragnet/dragnetlaw01.CrcSums", spec := "crcSums", named := ["dragnet/crc.halves"], apart := false, laid := [("dragnet/crc.halves", laid_dragnet_crc_halves)] }
def CrcSumsSaid : Prop := crcSumsRow.holds Tryd.pinned (OpenSpec.ofChange crcSumsSpec)

/-- ITS FALSE NEIGHBOUR: 'it returns false'. Refute it at one input. -/
def crcSumsWrong : ChangeSpec := { name := "crcSums", fn := fun _ => fun
  | [d1, d2] => { results := [.lit (.bool false)], args := [d1, d2] }
  | _ => none }
def CrcSumsWrongFalsely : Prop := crcSumsRow.holds Tryd.pinned (OpenSpec.ofChange crcSumsWrong)

/-- 'dragnetlaw01.CrcWraps': WHATEVER THE INPUT: true; the input reads as it did. -/
def crcWrapsSpec : ChangeSpec := { name := "crcWraps", fn := fun _ => fun
  | [d] => { results := [.lit (.bool true)], args := [d] }
  | _ => none }
def crcWrapsRow : OpenClaim := { program := "ytoliinokdbppoaadoor", sum := "0cebd0324c0526830986678d61158ca1eb95fd12a8526292817548ec5a992f44", func := "dragnet/dragnetlaw01.CrcWraps", spec := "crcWraps", named := ["dragnet/crc.halves"], apart := false, laid := [("dragnet/crc.halves", laid_dragnet_crc_halves)] }
def CrcWrapsSaid : Prop := crcWrapsRow.holds Tryd.pinned (OpenSpec.ofChange crcWrapsSpec)

/-- ITS FALSE NEIGHBOUR: 'it returns false'. Refute it at one input. -/
def crcWrapsWrong : ChangeSpec := { name := "crcWraps", fn := fun _ => fun
  | [d] => { results := [.lit (.bool false)], args := [d] }
  | _ => none }
def CrcWrapsWrongFalsely : Prop := crcWrapsRow.holds Tryd.pinned (OpenSpec.ofChange crcWrapsWrong)

/-- 'dragnetlaw01.CrcMore': WHATEVER THE INPUT: true; the input reads as it did. -/
def crcMoreSpec : ChangeSpec := { name := "crcMore", fn := fun _ => fun
  | [d1, d2, d3] => { results := [.lit (.bool true)], args := [d1, d2, d3] }
  | _ => none }
def crcMoreRow : OpenClaim := { program := "ytoliinokdbppoaadoor", sum := "0cebd0324c0526830986678d61158ca1eb95fd12a8526292817548ec5a992f44", func := "dragnet/dragnetlaw01.CrcMore", spec := "crcMore", named := ["dragnet/crc.halves"], apart := false, laid := [("dragnet/crc.halves", laid_dragnet_crc_halves)] }
def CrcMoreSaid : Prop := crcMoreRow.holds Tryd.pinned (OpenSpec.ofChange crcMoreSpec)

/-- ITS FALSE NEIGHBOUR: 'it returns false'. Refute it at one input. -/
def crcMoreWrong : ChangeSpec := { name := "crcMore", fn := fun _ => fun
  | [d1, d2, d3] => { results := [.lit (.bool false)], args := [d1, d2, d3] }
  | _ => none }
def CrcMoreWrongFalsely : Prop := crcMoreRow.holds Tryd.pinned (OpenSpec.ofChange crcMoreWrong)

/-- 'dragnetlaw01.CrcUnwraps': WHATEVER THE INPUT: true; the input reads as it did. -/
def crcUnwrapsSpec : ChangeSpec := { name := "crcUnwraps", fn := fun _ => fun
  | [d] => { results := [.lit (.bool true)], args := [d] }
  | _ => none }
def crcUnwrapsRow : OpenClaim := { program := "ytoliinokdbppoaadoor", sum := "0cebd0324c0526830986678d61158ca1eb95fd12a8526292817548ec5a992f44", func := "dragnet/dragnetlaw01.CrcUnwraps", spec := "crcUnwraps", named := ["dragnet/crc.halves"], apart := false, laid := [("dragnet/crc.halves", laid_dragnet_crc_halves)] }
def CrcUnwrapsSaid : Prop := crcUnwrapsRow.holds Tryd.pinned (OpenSpec.ofChange crcUnwrapsSpec)

/-- ITS FALSE NEIGHBOUR: 'it returns false'. Refute it at one input. -/
def crcUnwrapsWrong : ChangeSpec := { name := "crcUnwraps", fn := fun _ => fun
  | [d] => { results := [.lit (.bool false)], args := [d] }
  | _ => none }
def CrcUnwrapsWrongFalsely : Prop := crcUnwrapsRow.holds Tryd.pinned (OpenSpec.ofChange crcUnwrapsWrong)

/-- 'dragnetlaw01.CrcBurst': WHATEVER THE INPUT: true; the input reads as it did. -/
def crcBurstSpec : ChangeSpec := { name := "crcBurst", fn := fun _ => fun
  | [d1, d2, d3] => { results := [.lit (.bool true)], args := [d1, d2, d3] }
  | _ => none }
def crcBurstRow : OpenClaim := { program := "ytoliinokdbppoaadoor", sum := "0cebd0324c0526830986678d61158ca1eb95fd12a8526292817548ec5a992f44", func := "dragnet/dragnetlaw01.CrcBurst", spec := "crcBurst", named := ["dragnet/crc.halves"], apart := false, laid := [("dragnet/crc.halves", laid_dragnet_crc_halves)] }
def CrcBurstSaid : Prop := crcBurstRow.holds Tryd.pinned (OpenSpec.ofChange crcBurstSpec)

/-- ITS FALSE NEIGHBOUR: 'it returns false'. Refute it at one input. -/
def crcBurstWrong : ChangeSpec := { name := "crcBurst", fn := fun _ => fun
  | [d1, d2, d3] => { results := [.lit (.bool false)], args := [d1, d2, d3] }
  | _ => none }
def CrcBurstWrongFalsely : Prop := crcBurstRow.holds Tryd.pinned (OpenSpec.ofChange crcBurstWrong)

/-- 'dragnetlaw01.CrcSplits': WHATEVER THE INPUT: true; the input reads as it did. -/
def crcSplitsSpec : ChangeSpec := { name := "crcSplits", fn := fun _ => fun
  | [d] => { results := [.lit (.bool true)], args := [d] }
  | _ => none }
def crcSplitsRow : OpenClaim := { program := "ytoliinokdbppoaadoor", sum := "0cebd0324c0526830986678d61158ca1eb95fd12a8526292817548ec5a992f44", func := "dragnet/dragnetlaw01.CrcSplits", spec := "crcSplits", named := ["dragnet/crc.halves"], apart := false, laid := [("dragnet/crc.halves", laid_dragnet_crc_halves)] }
def CrcSplitsSaid : Prop := crcSplitsRow.holds Tryd.pinned (OpenSpec.ofChange crcSplitsSpec)

/-- ITS FALSE NEIGHBOUR: 'it returns false'. Refute it at one input. -/
def crcSplitsWrong : ChangeSpec := { name := "crcSplits", fn := fun _ => fun
  | [d] => { results := [.lit (.bool false)], args := [d] }
  | _ => none }
def CrcSplitsWrongFalsely : Prop := crcSplitsRow.holds Tryd.pinned (OpenSpec.ofChange crcSplitsWrong)

/-- 'dragnetlaw01.CrcBack': WHATEVER THE INPUT: true; the input reads as it did. -/
def crcBackSpec : ChangeSpec := { name := "crcBack", fn := fun _ => fun
  | [d1, d2] => { results := [.lit (.bool true)], args := [d1, d2] }
  | _ => none }
def crcBackRow : OpenClaim := { program := "ytoliinokdbppoaadoor", sum := "0cebd0324c0526830986678d61158ca1eb95fd12a8526292817548ec5a992f44", func := "dragnet/dragnetlaw01.CrcBack", spec := "crcBack", named := ["dragnet/crc.halves"], apart := false, laid := [("dragnet/crc.halves", laid_dragnet_crc_halves)] }
def CrcBackSaid : Prop := crcBackRow.holds Tryd.pinned (OpenSpec.ofChange crcBackSpec)

/-- ITS FALSE NEIGHBOUR: 'it returns false'. Refute it at one input. -/
def crcBackWrong : ChangeSpec := { name := "crcBack", fn := fun _ => fun
  | [d1, d2] => { results := [.lit (.bool false)], args := [d1, d2] }
  | _ => none }
def CrcBackWrongFalsely : Prop := crcBackRow.holds Tryd.pinned (OpenSpec.ofChange crcBackWrong)

/- THE SECOND FORM. 'bulk': how many values and letters a reading holds, each counted each time it is reached (what is shared counts as often as it is met; a slice's spare places count too). A statement '..UptoSaid' is the law's where the arguments, and the package variables that the reading takes, are together of bulk at most 1048576: NARROWER than '..Said'. Prove '..Said' where nothing that the law and all that it calls make is longer than what came in: it says more and counts as full. Else prove '..UptoSaid'. A law counts once. -/
mutual
def uptoBulk {H : Type} : DataW H → Nat
  | .lit (.string bytes) => bytes.length + 1
  | .lit _ => 1
  | .nil => 1
  | .ptr d => uptoBulk d + 1
  | .slice elems spare => uptoBulkAll elems + uptoBulkAll spare + 1
  | .agg parts => uptoBulkAll parts + 1
  | .iface _ d => uptoBulk d + 1
  | .map entries => uptoBulkEntries entries + 1
  | .held _ => 1
def uptoBulkAll {H : Type} : List (DataW H) → Nat
  | [] => 0
  | d :: r => uptoBulk d + uptoBulkAll r
def uptoBulkEntries {H : Type} : List (Lit × DataW H) → Nat
  | [] => 0
  | x :: r => uptoBulkEntry x + uptoBulkEntries r
def uptoBulkEntry {H : Type} : Lit × DataW H → Nat
  | (.string bytes, d) => bytes.length + uptoBulk d + 1
  | (_, d) => uptoBulk d + 1
 end
def uptoSmall : (H : Type) → List (DataW H) → Bool := fun _ ds => decide (uptoBulkAll ds ≤ 1048576)
def OpenSpec.upto (s : _root_.Go.ChangeSpec) : _root_.Go.OpenSpec := { _root_.Go.OpenSpec.ofChange s with cond := some uptoSmall }

/-- 'dragnetlaw01.CrcSums', WHERE WHAT IT READS IS OF BULK AT MOST 1048576: true; the input reads as it did. -/
def crcSumsUptoRow : OpenClaim := { program := "ytoliinokdbppoaadoor", sum := "0cebd0324c0526830986678d61158ca1eb95fd12a8526292817548ec5a992f44", func := "dragnet/dragnetlaw01.CrcSums", spec := "crcSums", named := ["dragnet/crc.halves"], apart := false, laid := [("dragnet/crc.halves", laid_dragnet_crc_halves)], narrowed := true }
def CrcSumsUptoSaid : Prop := crcSumsUptoRow.holds Tryd.pinned (OpenSpec.upto crcSumsSpec)

/-- 'dragnetlaw01.CrcWraps', WHERE WHAT IT READS IS OF BULK AT MOST 1048576: true; the input reads as it did. -/
def crcWrapsUptoRow : OpenClaim := { program := "ytoliinokdbppoaadoor", sum := "0cebd0324c0526830986678d61158ca1eb95fd12a8526292817548ec5a992f44", func := "dragnet/dragnetlaw01.CrcWraps", spec := "crcWraps", named := ["dragnet/crc.halves"], apart := false, laid := [("dragnet/crc.halves", laid_dragnet_crc_halves)], narrowed := true }
def CrcWrapsUptoSaid : Prop := crcWrapsUptoRow.holds Tryd.pinned (OpenSpec.upto crcWrapsSpec)

/-- 'dragnetlaw01.CrcMore', WHERE WHAT IT READS IS OF BULK AT MOST 1048576: true; the input reads as it did. -/
def crcMoreUptoRow : OpenClaim := { program := "ytoliinokdbppoaadoor", sum := "0cebd0324c0526830986678d61158ca1eb95fd12a8526292817548ec5a992f44", func := "dragnet/dragnetlaw01.CrcMore", spec := "crcMore", named := ["dragnet/crc.halves"], apart := false, laid := [("dragnet/crc.halves", laid_dragnet_crc_halves)], narrowed := true }
def CrcMoreUptoSaid : Prop := crcMoreUptoRow.holds Tryd.pinned (OpenSpec.upto crcMoreSpec)

/-- 'dragnetlaw01.CrcUnwraps', WHERE WHAT IT READS IS OF BULK AT MOST 1048576: true; the input reads as it did. -/
def crcUnwrapsUptoRow : OpenClaim := { program := "ytoliinokdbppoaadoor", sum := "0cebd0324c0526830986678d61158ca1eb95fd12a8526292817548ec5a992f44", func := "dragnet/dragnetlaw01.CrcUnwraps", spec := "crcUnwraps", named := ["dragnet/crc.halves"], apart := false, laid := [("dragnet/crc.halves", laid_dragnet_crc_halves)], narrowed := true }
def CrcUnwrapsUptoSaid : Prop := crcUnwrapsUptoRow.holds Tryd.pinned (OpenSpec.upto crcUnwrapsSpec)

/-- 'dragnetlaw01.CrcBurst', WHERE WHAT IT READS IS OF BULK AT MOST 1048576: true; the input reads as it did. -/
def crcBurstUptoRow : OpenClaim := { program := "ytoliinokdbppoaadoor", sum := "0cebd0324c0526830986678d61158ca1eb95fd12a8526292817548ec5a992f44", func := "dragnet/dragnetlaw01.CrcBurst", spec := "crcBurst", named := ["dragnet/crc.halves"], apart := false, laid := [("dragnet/crc.halves", laid_dragnet_crc_halves)], narrowed := true }
def CrcBurstUptoSaid : Prop := crcBurstUptoRow.holds Tryd.pinned (OpenSpec.upto crcBurstSpec)

/-- 'dragnetlaw01.CrcSplits', WHERE WHAT IT READS IS OF BULK AT MOST 1048576: true; the input reads as it did. -/
def crcSplitsUptoRow : OpenClaim := { program := "ytoliinokdbppoaadoor", sum := "0cebd0324c0526830986678d61158ca1eb95fd12a8526292817548ec5a992f44", func := "dragnet/dragnetlaw01.CrcSplits", spec := "crcSplits", named := ["dragnet/crc.halves"], apart := false, laid := [("dragnet/crc.halves", laid_dragnet_crc_halves)], narrowed := true }
def CrcSplitsUptoSaid : Prop := crcSplitsUptoRow.holds Tryd.pinned (OpenSpec.upto crcSplitsSpec)

/-- 'dragnetlaw01.CrcBack', WHERE WHAT IT READS IS OF BULK AT MOST 1048576: true; the input reads as it did. -/
def crcBackUptoRow : OpenClaim := { program := "ytoliinokdbppoaadoor", sum := "0cebd0324c0526830986678d61158ca1eb95fd12a8526292817548ec5a992f44", func := "dragnet/dragnetlaw01.CrcBack", spec := "crcBack", named := ["dragnet/crc.halves"], apart := false, laid := [("dragnet/crc.halves", laid_dragnet_crc_halves)], narrowed := true }
def CrcBackUptoSaid : Prop := crcBackUptoRow.holds Tryd.pinned (OpenSpec.upto crcBackSpec)

end Rows
end Go.Proofs.YtoliinokdbppoaaDoor
