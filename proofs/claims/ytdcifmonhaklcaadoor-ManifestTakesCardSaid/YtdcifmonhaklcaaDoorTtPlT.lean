/- Walks by hand. -/
import Derived.Test.YtdcifmonhaklcaaDoorTtMx9
import Derived.Test.YtdcifmonhaklcaaDoorTtMx8
import Derived.Test.YtdcifmonhaklcaaDoorTtCx
namespace Go.Proofs.YtdcifmonhaklcaaDoor.M
open Go.RowKit Go.Proofs.YtdcifmonhaklcaaDoorW.PrintWords Go.Proofs.YtdcifmonhaklcaaDoorW.PrintLast Go.Proofs.YtdcifmonhaklcaaDoorW.PrintMore
attribute [local go_sem] min2_int min_two -- for this text's walks alone
set_option linter.unusedVariables false
set_option linter.unusedSimpArgs false
theorem same18_l0 (l : List S63) (a b : Int) (hl : l.length ≤ 140737488355328) (n : Nat) : ∀ (e i : Nat), i + n = l.length → dragnetref18_Same.l0 (n + 1 + e) (i : Int) l a b l a b = some true := by
  induction n with
  | zero =>
    intro e i h
    rw [show 0 + 1 + e = e + 1 by omega, dragnetref18_Same.l0, if_neg (by omega)]
  | succ n ih =>
    intro e i h
    rw [show n + 1 + 1 + e = (n + 1 + e) + 1 by omega, dragnetref18_Same.l0, if_pos (by omega), if_pos (by omega), if_pos (by omega), if_neg (by simp), show wrap64 ((i : Int) + 1) = ((i + 1 : Nat) : Int) by unfold wrap64; omega]
    exact ih e (i + 1) (by omega)
theorem same18_refl (l : List S63) (a b : Int) (hl : l.length ≤ 140737488355328) : dragnetref18_Same.f (l.length + 2) l a b l a b = some true := by
  unfold dragnetref18_Same.f
  rw [if_pos rfl, if_pos rfl, show ((l.length : Int) != (l.length : Int)) = false by simp, dragnetref18_Same.j0, if_neg Bool.false_ne_true]
  exact same18_l0 l a b hl l.length 0 0 (by omega)
theorem takeM_len (p : List Int) : (takeM p).1.length ≤ 64 := by
  unfold takeM
  simp only []
  split
  · exact Nat.zero_le _
  · next h =>
    have := Decidable.not_not.1 (fun hf => h (.inr (.inr hf)))
    exact this.1
def takeF (l : List Int) : List S63 × Int × Int × Int := if (unwrap l).2 = 0 then takeM (unwrap l).1 else ([], 0, 0, 13)
theorem takeF_len (l : List Int) : (takeF l).1.length ≤ 64 := by
  unfold takeF
  split
  · exact takeM_len _
  · exact Nat.zero_le _
theorem mtake_f {l : List Int} (h : Bytes l) (hl : l.length < 140737488355328) : manifest_Take.f l = some (takeF l) := by
  unfold manifest_Take.f takeF
  rw [unwrap_f h hl, Option.bind_some]
  by_cases e : (unwrap l).2 = 0
  · rw [if_pos e, if_pos e, if_pos (unwrap_ok h e)]
  · rw [if_neg e, if_neg e]
theorem rtake18_f {l : List Int} (h : Bytes l) (hl : l.length < 140737488355328) : dragnetref18_Take.f l = some (takeF l) := by
  unfold dragnetref18_Take.f takeF
  rw [refUnwrap_f h hl _ (Nat.le_refl _), Option.bind_some]
  by_cases e : (unwrap l).2 = 0
  · rw [if_pos e, if_pos e, if_pos (unwrap_ok h e), take_eq (unwrap_ok h e).1]
  · rw [if_neg e, if_neg e]
theorem takes_law (l0 : List Int) (h : Bytes l0) (hl : l0.length < 140737488355328) : ∃ k, dragnetlaw18_ManifestTakes.f k l0 = some true := by
  refine ⟨(takeF l0).1.length + 2, ?_⟩
  unfold dragnetlaw18_ManifestTakes.f dragnetlaw18_alive.f
  rw [Option.bind_some, if_pos rfl, copy_f l0 hl, Option.bind_some, mtake_f h hl, Option.bind_some, rtake18_f h hl, Option.bind_some, same18_refl _ _ _ (by have := takeF_len l0; omega), Option.bind_some, if_pos rfl, if_pos rfl, same_refl, Option.bind_some]
def QB5 (b : List Int) : Prop := b.length * Tryd.prog.bytesOf 5 ≤ 140737488351232 ∧ ∀ u ∈ b, (Lit.int .u8 u).wf = true
theorem QB5_len {b : List Int} (h : QB5 b) : b.length ≤ 140737488351232 := by
  have e : Tryd.prog.bytesOf 5 = 1 := by kernel_rfl
  have := h.1
  rw [e] at this
  omega
theorem takes_q (l0 : List Int) (hq0 : QB5 l0) : ∃ k, dragnetlaw18_ManifestTakes.f k l0 = some true :=
  takes_law l0 (bytes_of_wf hq0.2) (by have := QB5_len hq0; omega)
end Go.Proofs.YtdcifmonhaklcaaDoor.M
