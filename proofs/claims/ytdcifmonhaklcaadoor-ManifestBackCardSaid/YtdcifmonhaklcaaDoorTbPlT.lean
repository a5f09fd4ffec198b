/- Walks by hand. -/
import Derived.Test.YtdcifmonhaklcaaDoorTbMx9
import Derived.Test.YtdcifmonhaklcaaDoorTbMx8
import Derived.Test.YtdcifmonhaklcaaDoorTbCx
namespace Go.Proofs.YtdcifmonhaklcaaDoor.M
open Go.RowKit Go.Proofs.YtdcifmonhaklcaaDoorW.PrintWords Go.Proofs.YtdcifmonhaklcaaDoorW.PrintLast Go.Proofs.YtdcifmonhaklcaaDoorW.PrintMore
attribute [local go_sem] min2_int min_two -- for this text's walks alone
set_option linter.unusedVariables false
set_option linter.unusedSimpArgs false
theorem same18_l0 (l : List S63) (a b : Int) (hl : l.length ≤ 140737488355328) (n : Nat) : ∀ (e i : Nat), i + n = l.length → dragnetref18_Same.l0 (n + 1 + e) (i : Int) l a b l a b = some true := by
  induction n with
  | zero =>
    intro e i h
    rw [show 0 + 1 + e = e + 1 by omega, dragnetref18_Same.l0, if_neg (by omega)]
  | succ n ih =>
    intro e i h
    rw [show n + 1 + 1 + e = (n + 1 + e) + 1 by omega, dragnetref18_Same.l0, if_pos (by omega), if_pos (by omega), if_pos (by omega), if_neg (by simp), show wrap64 ((i : Int) + 1) = ((i + 1 : Nat) : Int) by unfold wrap64; omega]
    exact ih e (i + 1) (by omega)
theorem same18_refl (l : List S63) (a b : Int) (hl : l.length ≤ 140737488355328) : dragnetref18_Same.f (l.length + 2) l a b l a b = some true := by
  unfold dragnetref18_Same.f
  rw [if_pos rfl, if_pos rfl, show ((l.length : Int) != (l.length : Int)) = false by simp, dragnetref18_Same.j0, if_neg Bool.false_ne_true]
  exact same18_l0 l a b hl l.length 0 0 (by omega)
def takeF (l : List Int) : List S63 × Int × Int × Int := if (unwrap l).2 = 0 then takeM (unwrap l).1 else ([], 0, 0, 13)
theorem mtake_f {l : List Int} (h : Bytes l) (hl : l.length < 140737488355328) : manifest_Take.f l = some (takeF l) := by
  unfold manifest_Take.f takeF
  rw [unwrap_f h hl, Option.bind_some]
  by_cases e : (unwrap l).2 = 0
  · rw [if_pos e, if_pos e, if_pos (unwrap_ok h e)]
  · rw [if_neg e, if_neg e]
end Go.Proofs.YtdcifmonhaklcaaDoor.M
