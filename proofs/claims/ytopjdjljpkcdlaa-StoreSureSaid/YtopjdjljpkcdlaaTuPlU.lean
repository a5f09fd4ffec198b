/- Walk and plain law of StoreSure, by hand. -/
import Derived.Test.YtopjdjljpkcdlaaTuUx0
namespace Go.Proofs.Ytopjdjljpkcdlaa.U
open Go.Proofs.Ytopjdjljpkcdlaa.D
open Go.RowKit Go.Proofs.YtopjdjljpkcdlaaW.PrintWords Go.Proofs.YtopjdjljpkcdlaaW.PrintLast Go.Proofs.YtopjdjljpkcdlaaW.PrintMore
attribute [local go_sem] max2_int min2_int max_two min_two -- for this text's walks alone
set_option linter.unusedVariables false
set_option linter.unusedSimpArgs false
def QS (l : List S46) : Prop := l.length * Try.prog.bytesOf 46 ≤ 140737488351232 ∧ ∀ x ∈ l, (Lit.int .u8 x.f0).wf = true ∧ (x.f1.length * Try.prog.bytesOf 5 ≤ 140737488351232 ∧ ∀ u ∈ x.f1, (Lit.int .u8 u).wf = true)
def QK (l : List S59) : Prop := l.length * Try.prog.bytesOf 59 ≤ 140737488351232 ∧ ∀ x ∈ l, x.f0.size ≤ 140737488351232 ∧ (Lit.int .i64 x.f1).wf = true
theorem bytes59 : Try.prog.bytesOf 59 = 24 := by kernel_rfl
theorem bytes5 : Try.prog.bytesOf 5 = 1 := by kernel_rfl
theorem wf64 {q : Int} (h : (Lit.int .i64 q).wf = true) : -9223372036854775808 ≤ q ∧ q ≤ 9223372036854775807 := by
  simp [Lit.wf, IntKind.min, IntKind.max, IntKind.signed, IntKind.bits] at h
  omega
theorem wf8 {q : Int} (h : (Lit.int .u8 q).wf = true) : 0 ≤ q ∧ q ≤ 255 := by
  simp [Lit.wf, IntKind.min, IntKind.max, IntKind.signed, IntKind.bits] at h
  omega
theorem keeps_q {l : List S59} (h : QK l) : KeepsOK l := by
  obtain ⟨h1, h2⟩ := h
  rw [bytes59] at h1
  exact ⟨by omega, fun x hx => ⟨(h2 x hx).1, wf64 (h2 x hx).2⟩⟩
theorem law_q (l0 : List S46) (l1 : List S59) (hq0 : QS l0) (hq1 : QK l1) : dragnetlaw16_StoreSure.f l0 l1 = some true := by
  have h : SureOK l0 l1 := ⟨fun x hx => by
    obtain ⟨h1, h2, h3⟩ := hq0.2 x hx
    rw [bytes5] at h2
    exact ⟨by omega, (wf8 h1).1, (wf8 h1).2, fun u hu => wf8 (h3 u hu)⟩, keeps_q hq1⟩
  unfold dragnetlaw16_StoreSure.f
  exact if_pos h
end Go.Proofs.Ytopjdjljpkcdlaa.U
