/- Walks by hand. -/
import Derived.Test.YtdcifmonhaklcaaDoorTaAl1
import Derived.Test.YtdcifmonhaklcaaDoorTaAl2
namespace Go.Proofs.YtdcifmonhaklcaaDoor.A
open Go.RowKit YtdcifmonhaklcaaDoorW.PrintWords YtdcifmonhaklcaaDoorW.PrintLast YtdcifmonhaklcaaDoorW.PrintMore
attribute [local go_sem] max2_int min2_int max_two min_two
set_option linter.unusedVariables false
set_option linter.unusedSimpArgs false
def AllOK (l0_1 : List S84) (l1_0 : List S63) (l2 : List S97) : Prop := Reach l0_1 ∧ BytesD l0_1 ∧ l1_0.length * 32 ≤ 140737488351232 ∧ KeepsOK l2
instance (l : List Int) : Decidable (Bytes l) := by unfold Bytes; exact inferInstance
instance (l0_1 : List S84) (l1_0 : List S63) (l2 : List S97) : Decidable (AllOK l0_1 l1_0 l2) := by unfold AllOK Reach BytesD; exact inferInstance
def dragnetlaw18_ManifestAll.f (a0_0 : Int) (l0_1 : List S84) (l1_0 : List S63) (a1_1 : Int) (a1_2 : Int) (l2 : List S97) : Option Bool := if AllOK l0_1 l1_0 l2 then some true else none
theorem dragnetlaw18_ManifestAll.calls (a0_0 : Int) (A0_1 : Option Addr) (c0_1 : Nat) (l0_1 : List (S84)) (A1_0 : Option Addr) (c1_0 : Nat) (l1_0 : List (S63)) (a1_1 : Int) (a1_2 : Int) (A2 : Option Addr) (c2 : Nat) (l2 : List (S97)) (r : Bool) (w : World) (hr0_1 : Kd.C k84 w A0_1 l0_1.length l0_1) (hc0_1 : l0_1.length ≤ c0_1) (hr1_0 : Kd.C k63 w A1_0 l1_0.length l1_0) (hc1_0 : l1_0.length ≤ c1_0) (hr2 : Kd.C k97 w A2 l2.length l2) (hc2 : l2.length ≤ c2) (hG : GT w) (h : dragnetlaw18_ManifestAll.f a0_0 l0_1 l1_0 a1_1 a1_2 l2 = some r) :
  Calls Tryd.prog 8 #[.agg #[.int .i64 a0_0, .slice A0_1 l0_1.length c0_1], .agg #[.slice A1_0 l1_0.length c1_0, .int .i64 a1_1, .int .i64 a1_2], .slice A2 l2.length c2] w fun e w' => e = .returned (.bool r) ∧ Below w.heap.size w w' := by
 unfold dragnetlaw18_ManifestAll.f at h
 by_cases hh : AllOK l0_1 l1_0 l2
 ·rw [if_pos hh] at h
  obtain rfl := Option.some.inj h
  obtain ⟨h1, h2, h3, h4⟩ := hh
  have hrec := own_rec a0_0 l0_1 h1 h2
  by_cases he : (recF a0_0 l0_1).2.2.2.2 = 0
  ·have hg := good_of_rec h2 he
   have hq := rec_of_good hg
   obtain ⟨⟨rs, nx, sq, ops, e⟩, hp⟩ : ∃ p, p = recF a0_0 l0_1 := ⟨_, rfl⟩
   rw [← hp] at hrec he hg hq
   replace he : e = 0 := he
   subst he
   have ho : ops = (goL l0_1 rs).map opR := by
    have := congrArg (fun p : List S63 × Int × Int × List S60 × Int => p.2.2.2.1) hq
    exact this
   exact all_good a0_0 A0_1 c0_1 l0_1 A1_0 c1_0 l1_0 a1_1 a1_2 A2 c2 l2 w hr0_1 hc0_1 hr1_0 hc1_0 hr2 hc2 hG rs nx sq ops (goL l0_1 rs) hrec hg ho rfl h3 h4
  ·have hb := rec_bad he
   obtain ⟨⟨rs, nx, sq, ops, e⟩, hp⟩ : ∃ p, p = recF a0_0 l0_1 := ⟨_, rfl⟩
   rw [← hp] at hrec he hb
   replace hb : ops = [] := hb
   subst hb
   exact all_bad a0_0 A0_1 c0_1 l0_1 A1_0 c1_0 l1_0 a1_1 a1_2 A2 c2 l2 w hr0_1 hc0_1 hr1_0 hc1_0 hr2 hc2 hG rs nx sq e hrec he
 ·rw [if_neg hh] at h
  cases h
theorem bytesD_q {room : Int} {l : List S84} (h : QD room l) : BytesD l := fun x hx => bytes_of_wf (h.2.2 x hx).2.1.2
def QCh (l : List S63) (a b : Int) : Prop := (l.length * Tryd.prog.bytesOf 63 ≤ 140737488351232 ∧ ∀ x ∈ l, (Lit.int .i64 x.f0).wf = true ∧ (Lit.int .i64 x.f1).wf = true ∧ (Lit.int .i64 x.f2).wf = true ∧ (Lit.int .i64 x.f3).wf = true) ∧ (Lit.int .i64 a).wf = true ∧ (Lit.int .i64 b).wf = true
theorem QCh_len {l : List S63} {a b : Int} (h : QCh l a b) : l.length * 32 ≤ 140737488351232 := by
 have e : Tryd.prog.bytesOf 63 = 32 := by kernel_rfl
 have := h.1.1
 rw [e] at this
 exact this
def QKe (l : List S97) : Prop := l.length * Tryd.prog.bytesOf 97 ≤ 140737488351232 ∧ ∀ x ∈ l, x.f0.size ≤ 140737488351232 ∧ (Lit.int .i64 x.f1).wf = true
theorem keeps_q {l : List S97} (h : QKe l) : KeepsOK l := by
 have e : Tryd.prog.bytesOf 97 = 24 := by kernel_rfl
 have h1 := h.1
 rw [e] at h1
 refine ⟨by omega, fun x hx => ?_⟩
 have h2 := h.2 x hx
 have h3 := h2.2
 simp [Lit.wf, IntKind.min, IntKind.max, IntKind.signed, IntKind.bits] at h3
 exact ⟨h2.1, by omega, by omega⟩
theorem all_q (room : Int) (l : List S84) (rl : List S63) (a b : Int) (ks : List S97) (hq0 : QD room l) (hq1 : QCh rl a b) (hq2 : QKe ks) : dragnetlaw18_ManifestAll.f room l rl a b ks = some true := by
 unfold dragnetlaw18_ManifestAll.f
 rw [if_pos ⟨reach_q hq0, bytesD_q hq0, QCh_len hq1, keeps_q hq2⟩]
end Go.Proofs.YtdcifmonhaklcaaDoor.A
