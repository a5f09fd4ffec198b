/- The law StoreDoes: the row over the printed walk and the plain theorem. -/
import Derived.Test.YtopjdjljpkcdlaaRows
import Derived.Test.YtopjdjljpkcdlaaTdDx14
import Derived.Test.YtopjdjljpkcdlaaTdOpens
import Derived.WalkKit
import Derived.ProofKit
import Derived.OpenShut
import Derived.ShutString
import Derived.ChangeOld
import Derived.Below
import Derived.SizedLaws
import Derived.Deep.DeepHandedRow
import Derived.Lib.LaidTab
import Derived.Test.YtopjdjljpkcdlaaTdW0
namespace Go.Proofs.Ytopjdjljpkcdlaa.storeDoes
open Go.ChangeShapes Go.WideShapes Go.ChangeAt Go.RowKit
open Go.Proofs.YtopjdjljpkcdlaaW.PrintWords Go.Proofs.Ytopjdjljpkcdlaa.D
theorem own : ownKnob Try.prog.godebug = none := by kernel_rfl
theorem laidOut : laidOutB Try.prog = true := by kernel_rfl
set_option maxHeartbeats 1600000 in
theorem contract (H : Type) (enc : TypeId × Value → H) (W : World) (base : Nat) (args : Array Value) (ds gs : List (DataW H)) (before : List MemPlace)
    (hval0 : ∀ (j : Nat) t v, Try.f3.params[j]? = some t → args[j]? = some v → Value.okWide Try.prog W .any base t v)
    (hW : DataW.Whole enc Try.prog Try.f3.params.toList Rows.storeDoesSpec.vars false W args.toList ds gs before)
    (hsz0 : (DataW.weightsEach Try.prog (Try.f3.params.toList ++ Rows.storeDoesSpec.plain.varTypes Try.prog) (ds ++ gs)).all (· ≤ reachBytes) = true) :
    Calls Try.prog 3 args W fun e W' => ∃ v, e = .returned v ∧ Rows.storeDoesSpec.post enc Try.prog Try.f3 false true false false W args v W' := by
  have hsz := hsz0
  have hval := hval0
  have hW' := hW
  obtain ⟨p, q, hA0, hV, rfl, hfz, hnd⟩ := hW
  have hA : DataW.TrodAll enc Try.prog W 0 (fun _ => true) true Try.f3.params.toList args.toList ds p := hA0
  rw [Try.params3] at hA hval hsz
  obtain ⟨v0, vs0, d0, ds0, p0, q0, hargs, rfl, rfl, h0, r0⟩ := trodAll_cons hA
  obtain ⟨v1, vs1, d1, ds1, p1, q1, rfl, rfl, rfl, h1, r1⟩ := trodAll_cons r0
  obtain ⟨rfl, rfl, rfl⟩ := trodAll_nil r1
  obtain rfl : args = #[v0, v1] := by cases args; simp_all
  obtain ⟨rfl, rfl⟩ := trodVars_none hV
  have k0 := h0
  have lt0 : ∀ x ∈ p0, x.block < W.heap.size := by obtain ⟨m, hm⟩ := k0; exact DataW.trod_lt m _ _ _ hm
  obtain ⟨cs0, rfl, _⟩ := okWide_struct Try.underlying24 (hval 0 24 v0 rfl rfl)
  obtain ⟨x0, w0_, e0, hk0, hq0⟩ := Opens.any_arg (Opens.op_struct2 Try.underlying24 (by kernel_rfl) (by kernel_rfl) (by kernel_rfl) (by kernel_rfl) (by kernel_rfl) (Opens.op_int Try.underlying3) (Opens.op_slice Try.underlying22 (by kernel_rfl) (Opens.op_iso (fun x : S61 => (x.f0, x.f1, x.f2)) (fun a => ⟨a.1, a.2.1, a.2.2⟩) (fun _ => rfl) (Opens.op_struct3 Try.underlying61 (by kernel_rfl) (by kernel_rfl) (by kernel_rfl) (by kernel_rfl) (by kernel_rfl) (by kernel_rfl) (by kernel_rfl) (Opens.op_string Try.underlying9) (Opens.op_slice Try.underlying25 (by kernel_rfl) (Opens.op_int Try.underlying5)) (Opens.op_int Try.underlying3))))) h0 (Opens.weights_each hsz (j := 0) rfl rfl)
  obtain ⟨a0_0, l0_1⟩ := x0
  obtain ⟨_, _, rfl, rfl, ⟨A0_1, c0_1, rfl, hc0_1, hr0_1⟩⟩ := hk0
  obtain rfl : cs0 = #[.int .i64 a0_0, .slice A0_1 l0_1.length c0_1] := by simpa [Value.cells] using congrArg List.toArray e0
  clear e0
  have k1 := h1
  have lt1 : ∀ x ∈ p1, x.block < W.heap.size := by obtain ⟨m, hm⟩ := k1; exact DataW.trod_lt m _ _ _ hm
  obtain ⟨cs1, rfl, _⟩ := okWide_struct Try.underlying27 (hval 1 27 v1 rfl rfl)
  obtain ⟨x1, w1_, e1, hk1, hq1⟩ := Opens.any_arg (Opens.op_struct4 Try.underlying27 (by kernel_rfl) (by kernel_rfl) (by kernel_rfl) (by kernel_rfl) (by kernel_rfl) (by kernel_rfl) (by kernel_rfl) (by kernel_rfl) (by kernel_rfl) (Opens.op_int Try.underlying3) (Opens.op_string Try.underlying9) (Opens.op_string Try.underlying9) (Opens.op_slice Try.underlying25 (by kernel_rfl) (Opens.op_int Try.underlying5))) h1 (Opens.weights_each hsz (j := 1) rfl rfl)
  obtain ⟨a1_0, ⟨a1_1, ⟨a1_2, l1_3⟩⟩⟩ := x1
  obtain ⟨_, _, rfl, rfl, ⟨_, _, rfl, rfl, ⟨_, _, rfl, rfl, ⟨A1_3, c1_3, rfl, hc1_3, hr1_3⟩⟩⟩⟩ := hk1
  obtain rfl : cs1 = #[.int .i64 a1_0, .string a1_1, .string a1_2, .slice A1_3 l1_3.length c1_3] := by simpa [Value.cells] using congrArg List.toArray e1
  clear e1
  clear hA0 hval0 hsz0 hsz
  have hk_ := law_q a0_0 l0_1 a1_0 a1_1 a1_2 l1_3 hq0 hq1
  refine (D.dragnetlaw16_StoreDoes.calls a0_0 _ _ l0_1 a1_0 a1_1 a1_2 _ _ l1_3 true W hr0_1 hc0_1 hr1_3 hc1_3 hk_).mono fun e W' ⟨he, bel⟩ => ?_
  subst he
  exact ⟨_, rfl, _, _, _, [], _, [], hW', trodAll_mk1 (shut_bool Try.underlying4 _), (trodAll_cons_mk (Below.trod laidOut (by kernel_rfl) (of_decide_eq_true (by kernel_rfl)) k0 bel lt0) (trodAll_cons_mk (Below.trod laidOut (by kernel_rfl) (of_decide_eq_true (by kernel_rfl)) k1 bel lt1) trodAll_mk0)), rfl, bel.frame _, fun h => by cases h⟩
set_option maxRecDepth 100000 in
theorem lifted (os : Os) (started : os.Started) (H : Type) (enc : TypeId × Value → H) :
    ReturnsInHanded {} Try.checked os 3 .any (Rows.storeDoesSpec.pre6 enc Try.prog Try.f3 Rows.storeDoesRow.domain false) (Rows.storeDoesSpec.post enc Try.prog Try.f3 false true false false) := by
  refine returnsInHanded_of_change_sized (C := Try.checked) own started (by kernel_rfl) Try.func3
    (ChangeSpec.witness6 (enc := enc) (C := Try.checked) false ⟨#[], #[.agg #[.int .i64 0, .slice none 0 0], .agg #[.int .i64 0, .string ⟨#[]⟩, .string ⟨#[]⟩, .slice none 0 0]], []⟩ 8 (by kernel_rfl) (by kernel_rfl) (by kernel_rfl) (by kernel_rfl)) ?_
  intro W base args ds gs before hval hW _ hsz _
  exact contract H enc W base args ds gs before hval hW hsz
theorem over : Rows.storeDoesRow.holds Try.pinned (OpenSpec.ofChange Rows.storeDoesSpec) :=
  OpenClaim.holds_of_wide 3 Try.f3 rfl rfl rfl rfl rfl rfl rfl ⟨rfl, rfl, rfl, rfl, rfl⟩ rfl rfl rfl rfl rfl (by kernel_rfl) Try.func3 (by kernel_rfl)
    (of_decide_eq_true (by kernel_rfl)) (by unfold Func.isWrapper; first | (rw [if_pos (by decide +kernel)]; kernel_rfl) | (rw [if_neg (by decide +kernel)]; exact ⟨rfl, rfl⟩))
    (fun os started H enc _ => lifted os started H enc)
theorem said : Rows.StoreDoesSaid := over
end Go.Proofs.Ytopjdjljpkcdlaa.storeDoes
