/- Walks by hand. -/
import Derived.Test.YtdcifmonhaklcaaDoorTbMx20
namespace Go.Proofs.YtdcifmonhaklcaaDoor.M
open Go.RowKit Go.Proofs.YtdcifmonhaklcaaDoorW.PrintWords Go.Proofs.YtdcifmonhaklcaaDoorW.PrintLast Go.Proofs.YtdcifmonhaklcaaDoorW.PrintMore
attribute [local go_sem] min2_int min_two -- for this text's walks alone
set_option linter.unusedVariables false
set_option linter.unusedSimpArgs false
def QCh (l : List S63) (a b : Int) : Prop := (l.length * Tryd.prog.bytesOf 63 ≤ 140737488351232 ∧ ∀ x ∈ l, (Lit.int .i64 x.f0).wf = true ∧ (Lit.int .i64 x.f1).wf = true ∧ (Lit.int .i64 x.f2).wf = true ∧ (Lit.int .i64 x.f3).wf = true) ∧ (Lit.int .i64 a).wf = true ∧ (Lit.int .i64 b).wf = true
theorem QCh_len {l : List S63} {a b : Int} (h : QCh l a b) : l.length * 32 ≤ 140737488351232 := by
  have e : Tryd.prog.bytesOf 63 = 32 := by kernel_rfl
  have := h.1.1
  rw [e] at this
  exact this
theorem back_q (l : List S63) (a b c : Int) (hq0 : QCh l a b) (hq1 : (Lit.int .u16 c).wf = true) : dragnetlaw18_ManifestBack.f l a b c = some true := by
  have h1 := QCh_len hq0
  simp [Lit.wf, IntKind.min, IntKind.max, IntKind.signed, IntKind.bits] at hq1
  unfold dragnetlaw18_ManifestBack.f
  rw [if_pos ⟨by omega, by omega, by omega⟩]
end Go.Proofs.YtdcifmonhaklcaaDoor.M
