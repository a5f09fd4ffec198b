/- Walks: each Go function that is told here comes to what the plain function beside it says, wherever that one answers. Written by a program of this session (wip/tools/pr.sh), after the manner of print.sh. -/
import Derived.Test.YtdcifmonhaklcaaDoorTbMx0
import Derived.Test.YtdcifmonhaklcaaDoorTbMx5
namespace Go.Proofs.YtdcifmonhaklcaaDoor.M
open Go.RowKit Go.Proofs.YtdcifmonhaklcaaDoorW.PrintWords Go.Proofs.YtdcifmonhaklcaaDoorW.PrintLast Go.Proofs.YtdcifmonhaklcaaDoorW.PrintMore
attribute [local go_sem] min2_int min_two -- for this text's walks alone
set_option linter.unusedVariables false
set_option linter.unusedSimpArgs false
def dragnetref01_length.f (l0 : List Int) : Option (Int) := if 0 < (l0.length : Int) then (if 1 < (l0.length : Int) then (if 2 < (l0.length : Int) then (if 3 < (l0.length : Int) then (some (wrap64 ((wrap64 ((wrap64 ((wrap64 (rd l0 0)) + (wrap64 ((wrap64 (rd l0 1)) * 256)))) + (wrap64 ((wrap64 (rd l0 2)) * 65536)))) + (wrap64 ((wrap64 (rd l0 3)) * 16777216))))) else (none)) else (none)) else (none)) else (none)
def dragnetref01_Same.f (l0 : List Int) (l1 : List Int) : Option (Bool) := some ((strOfNums l0).toList == (strOfNums l1).toList)
def dragnetref01_Four.f (a0 : Int) : Option (List Int) := some (([(a0) % 256, (a0 / 256) % 256, (a0 / 65536) % 256, (a0 / 16777216) % 256] : List Int))
mutual
def dragnetref01_Sum.l0 : Nat → List Int → Int → Int → Option (Int)
  | 0, _, _, _ => none
  | k + 1, x0, x3, x4 => if x4 < (x0.length : Int) then (if 0 ≤ x4 then (dragnetref01_Sum.l1 k x0 (Go.bits .xor .u32 x3 ((rd x0 x4) % 4294967296)) x4 0) else (none)) else (some ((4294967295 - x3) % 4294967296))
def dragnetref01_Sum.l1 : Nat → List Int → Int → Int → Int → Option (Int)
  | 0, _, _, _, _ => none
  | k + 1, x0, x3, x4, x5 => if x5 < 8 then (if (Int.tmod x3 2) = 1 then (dragnetref01_Sum.l1 k x0 (Go.bits .xor .u32 ((Int.tdiv x3 2) % 4294967296) 2197175160) x4 (wrap64 (x5 + 1))) else (dragnetref01_Sum.l1 k x0 ((Int.tdiv x3 2) % 4294967296) x4 (wrap64 (x5 + 1)))) else (dragnetref01_Sum.l0 k x0 x3 (wrap64 (x4 + 1)))
end
def dragnetref01_Sum.f (k : Nat) (l0 : List Int) : Option (Int) := dragnetref01_Sum.l0 k l0 4294967295 0
def dragnetref01_Frame.f (k : Nat) (l0 : List Int) : Option (List Int) := (dragnetref01_Four.f (((l0.length : Int)) % 4294967296)).bind fun t183 => (if t183.length + l0.length < 140737488355328 then ((some (t183 ++ l0 : List Int)).bind fun y186 => ((dragnetref01_Sum.f k y186).bind fun t189 => ((dragnetref01_Four.f t189).bind fun t190 => (if y186.length + t190.length < 140737488355328 then (some (y186 ++ t190)) else (none))))) else (none))
def dragnetref01_First.f (k : Nat) (l0 : List Int) : Option (List Int × Int × Int) := if (l0.length : Int) < 8 then (some (([] : List Int), 0, 3)) else ((dragnetref01_length.f l0).bind fun t196 => (if t196 > 16777216 then (some (([] : List Int), 0, 5)) else (if t196 > (wrap64 ((l0.length : Int) - 8)) then (some (([] : List Int), 0, 3)) else (if 4 ≤ (wrap64 (4 + t196)) then (if (wrap64 (4 + t196)) ≤ (l0.length : Int) then ((dragnetref01_Copy.f ((l0.take ((wrap64 (4 + t196)) : Int).toNat).drop 4)).bind fun t198 => ((dragnetref01_Frame.f k t198).bind fun t201 => (if 0 ≤ (wrap64 (t196 + 8)) then (if (wrap64 (t196 + 8)) ≤ (l0.length : Int) then ((dragnetref01_Same.f t201 (l0.take ((wrap64 (t196 + 8)) : Int).toNat)).bind fun t205 => (if t205 = true then (some (t198, wrap64 (t196 + 8), 0)) else (some (([] : List Int), 0, 4)))) else (none)) else (none)))) else (none)) else (none)))))
def dragnetref01_Unwrap.j0 : Nat → List Int → Bool → Option (List Int × Int)
  | 0, _, _ => none
  | k + 1, x0, x22 => if x22 = true then (some (([] : List Int), 2)) else ((dragnetref01_First.f k x0).bind fun bt207 => (some (bt207.1, bt207.2.2)))
end Go.Proofs.YtdcifmonhaklcaaDoor.M
