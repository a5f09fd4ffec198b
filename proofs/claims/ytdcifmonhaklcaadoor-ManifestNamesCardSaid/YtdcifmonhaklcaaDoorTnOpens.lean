/- From what a row's argument reads as (its datum) to what the printed contracts ask of it: whole numbers, strings, bools, slices of whatever is so opened. -/
import Derived.Test.YtdcifmonhaklcaaDoorTnW0
import Derived.Deep.Slices
import Derived.SizedLaws
import Derived.Lib.LaidTab
import Derived.Deep.Strs
import Derived.Lib.SmallJoins
namespace Go.Proofs.YtdcifmonhaklcaaDoor.Opens
open Go.ChangeShapes Go.WideShapes Go.Deep Go.Proofs.YtdcifmonhaklcaaDoorW.PrintWords
section
variable {H : Type} {enc : TypeId × Value → H} {P : Program} {w : World} {base : Nat} {spare : Nat → Bool} {held : Bool} {α : Type}
def Op {H : Type} (enc : TypeId × Value → H) (P : Program) (w : World) (base : Nat) (spare : Nat → Bool) (held : Bool) {α : Type} (d : Kd α) (t : TypeId) (Q : α → Prop) : Prop :=
  ∀ (fuel : Nat) (cs : List Value) (D : DataW H) (ps : List MemPlace), DataW.trod enc P w base spare held fuel t cs = some (D, ps) → (D.weights P t).all (· ≤ reachBytes) = true → ∃ a, d.K w a cs ∧ Q a
theorem op_int {t : TypeId} {k : IntKind} (ht : P.underlying t = some (.int k)) : Op enc P w base spare held (Kd.int k) t (fun x => (Lit.int k x).wf = true) := by
  intro fuel cs D ps h _
  obtain ⟨n, rfl, _, hw⟩ := DataW.trod_int ht h
  exact ⟨n, rfl, hw⟩
theorem weights_each {ts : List TypeId} {ds : List (DataW H)} (h : (DataW.weightsEach P ts ds).all (· ≤ reachBytes) = true) {j : Nat} {t : TypeId} {d : DataW H} (ht : ts[j]? = some t) (hd : ds[j]? = some d) : (d.weights P t).all (· ≤ reachBytes) = true := by
  rw [List.all_eq_true] at h ⊢
  exact fun x hx => h x (DataW.weights_mem_each ht hd x hx)
variable {β γ δ : Type}
theorem any_arg {d : Kd α} {t : TypeId} {Q : α → Prop} (h : Op enc P w base spare held d t Q) {v : Value} {D : DataW H} {ps : List MemPlace} (ht : DataW.Trod enc P w base spare held t v D ps) (hs : (D.weights P t).all (· ≤ reachBytes) = true) :
    ∃ a cs, v.cells.toList = cs ∧ d.K w a cs ∧ Q a := by
  obtain ⟨fuel, hf⟩ := ht
  obtain ⟨a, h1, h2⟩ := h fuel _ D ps hf hs
  exact ⟨a, _, rfl, h1, h2⟩
end
end Go.Proofs.YtdcifmonhaklcaaDoor.Opens
