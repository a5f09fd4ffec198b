/- Walks: each Go function told here comes to what the plain function beside it says, wherever that one answers. -/
import Derived.Test.YtdcifmonhaklcaaDoorTaAx0
import Derived.Test.YtdcifmonhaklcaaDoorTaAx2
import Derived.Test.YtdcifmonhaklcaaDoorTaAx3
namespace Go.Proofs.YtdcifmonhaklcaaDoor.A
open Go.RowKit YtdcifmonhaklcaaDoorW.PrintWords YtdcifmonhaklcaaDoorW.PrintLast YtdcifmonhaklcaaDoorW.PrintMore
attribute [local go_sem] max2_int min2_int max_two min_two
set_option linter.unusedVariables false
set_option linter.unusedSimpArgs false
def dragnetref18_Formed.f (l0_0 : List S63) (a0_1 : Int) (a0_2 : Int) : Option Bool := if l0_0.length < 140737488355328 then some (decide (FormedC l0_0 a0_1 a0_2)) else none
set_option maxHeartbeats 8000000 in
set_option maxRecDepth 100000 in
theorem dragnetref18_Formed.calls (A0_0 : Option Addr) (c0_0 : Nat) (l0_0 : List (S63)) (a0_1 : Int) (a0_2 : Int) (r : Bool) (w : World) (hr0_0 : Kd.C k63 w A0_0 l0_0.length l0_0) (hc0_0 : l0_0.length ≤ c0_0) (h : dragnetref18_Formed.f l0_0 a0_1 a0_2 = some r) :
  Calls Tryd.prog 16 #[.agg #[.slice A0_0 l0_0.length c0_0, .int .i64 a0_1, .int .i64 a0_2]] w fun e w' => e = .returned (.bool r) ∧ Below w.heap.size w w' := by
 unfold dragnetref18_Formed.f at h
 by_cases hl : l0_0.length < 140737488355328
 case neg => rw [if_neg hl] at h; cases h
 rw [if_pos hl] at h
 have HRR := Aside0.mk (Option.some.inj h)
 clear h
 have HR := Aside0.mk hr0_0
 have HC := Aside0.mk hc0_0
 have HB := Aside0.mk (Below.refl w.heap.size w)
 have HL := Aside0.mk hl
 clear hr0_0 hc0_0 hl
 have hu27 := Tryd.underlying27
 have hu63 := Tryd.underlying63
 have hu25 := Tryd.underlying25
 by_cases c0 : 64 < (l0_0.length : Int)
 ·have c0b : decide (64 < (l0_0.length : Int)) = true := decide_eq_true c0
  have hno : decide (FormedC l0_0 a0_1 a0_2) = false := decide_eq_false (fun h => by have := h.1; omega)
  clear c0
  obtain rfl : r = false := HRR.out.symm.trans hno
  go_enter Tryd.func16, Tryd.ntmps16
  go_wp2_with (first
   | ((with_reducible refine gate_dst (N := 1) rfl ?_); refine box_event ?hg (N := 1) ?hd (cs := #[.slice A0_0 l0_0.length c0_0, .int .i64 a0_1, .int .i64 a0_2]) (t := 27) ?hr ?_; (case hd => rfl); (case hg => rfl); (case hr => first | (go_simp; done) | (go_simp; rfl)); intro g1 hg1 w1 hbox hb; have HB_ := Aside0.mk (below_step HB.out hb); have CB1 := Aside0.mk hbox; clear hb hbox hg1 HB; have HB := HB_; clear HB_; have v10 : w1.cell? ⟨g1, 0, none⟩ = some (.slice A0_0 l0_0.length c0_0) := (blk_cell CB1.out 0).trans rfl; have v11 : w1.cell? ⟨g1, 1, none⟩ = some (.int .i64 a0_1) := (blk_cell CB1.out 1).trans rfl; have v12 : w1.cell? ⟨g1, 2, none⟩ = some (.int .i64 a0_2) := (blk_cell CB1.out 2).trans rfl))
  go_ret
  exact ⟨rfl, HB.out⟩
 ·have c0b : decide (64 < (l0_0.length : Int)) = false := decide_eq_false c0
  have C0 := Aside0.mk c0
  clear c0
  by_cases c1 : a0_1 < 0
  ·have c1b : decide (a0_1 < 0) = true := decide_eq_true c1
   have hno : decide (FormedC l0_0 a0_1 a0_2) = false := decide_eq_false (fun h => by have := h.2.1; omega)
   clear c1
   obtain rfl : r = false := HRR.out.symm.trans hno
   go_enter Tryd.func16, Tryd.ntmps16
   go_wp2_with (first
    | ((with_reducible refine gate_dst (N := 1) rfl ?_); refine box_event ?hg (N := 1) ?hd (cs := #[.slice A0_0 l0_0.length c0_0, .int .i64 a0_1, .int .i64 a0_2]) (t := 27) ?hr ?_; (case hd => rfl); (case hg => rfl); (case hr => first | (go_simp; done) | (go_simp; rfl)); intro g1 hg1 w1 hbox hb; have HB_ := Aside0.mk (below_step HB.out hb); have CB1 := Aside0.mk hbox; clear hb hbox hg1 HB; have HB := HB_; clear HB_; have v10 : w1.cell? ⟨g1, 0, none⟩ = some (.slice A0_0 l0_0.length c0_0) := (blk_cell CB1.out 0).trans rfl; have v11 : w1.cell? ⟨g1, 1, none⟩ = some (.int .i64 a0_1) := (blk_cell CB1.out 1).trans rfl; have v12 : w1.cell? ⟨g1, 2, none⟩ = some (.int .i64 a0_2) := (blk_cell CB1.out 2).trans rfl))
   go_ret
   exact ⟨rfl, HB.out⟩
  ·have c1b : decide (a0_1 < 0) = false := decide_eq_false c1
   have C1 := Aside0.mk c1
   clear c1
   by_cases c2 : 2147483647 < a0_1
   ·have c2b : decide (2147483647 < a0_1) = true := decide_eq_true c2
    have hno : decide (FormedC l0_0 a0_1 a0_2) = false := decide_eq_false (fun h => by have := h.2.2.1; omega)
    clear c2
    obtain rfl : r = false := HRR.out.symm.trans hno
    go_enter Tryd.func16, Tryd.ntmps16
    go_wp2_with (first
     | ((with_reducible refine gate_dst (N := 1) rfl ?_); refine box_event ?hg (N := 1) ?hd (cs := #[.slice A0_0 l0_0.length c0_0, .int .i64 a0_1, .int .i64 a0_2]) (t := 27) ?hr ?_; (case hd => rfl); (case hg => rfl); (case hr => first | (go_simp; done) | (go_simp; rfl)); intro g1 hg1 w1 hbox hb; have HB_ := Aside0.mk (below_step HB.out hb); have CB1 := Aside0.mk hbox; clear hb hbox hg1 HB; have HB := HB_; clear HB_; have v10 : w1.cell? ⟨g1, 0, none⟩ = some (.slice A0_0 l0_0.length c0_0) := (blk_cell CB1.out 0).trans rfl; have v11 : w1.cell? ⟨g1, 1, none⟩ = some (.int .i64 a0_1) := (blk_cell CB1.out 1).trans rfl; have v12 : w1.cell? ⟨g1, 2, none⟩ = some (.int .i64 a0_2) := (blk_cell CB1.out 2).trans rfl))
    go_ret
    exact ⟨rfl, HB.out⟩
   ·have c2b : decide (2147483647 < a0_1) = false := decide_eq_false c2
    have C2 := Aside0.mk c2
    clear c2
    by_cases c3 : a0_2 < 0
    ·have c3b : decide (a0_2 < 0) = true := decide_eq_true c3
     have hno : decide (FormedC l0_0 a0_1 a0_2) = false := decide_eq_false (fun h => by have := h.2.2.2.1; omega)
     clear c3
     obtain rfl : r = false := HRR.out.symm.trans hno
     go_enter Tryd.func16, Tryd.ntmps16
     go_wp2_with (first
      | ((with_reducible refine gate_dst (N := 1) rfl ?_); refine box_event ?hg (N := 1) ?hd (cs := #[.slice A0_0 l0_0.length c0_0, .int .i64 a0_1, .int .i64 a0_2]) (t := 27) ?hr ?_; (case hd => rfl); (case hg => rfl); (case hr => first | (go_simp; done) | (go_simp; rfl)); intro g1 hg1 w1 hbox hb; have HB_ := Aside0.mk (below_step HB.out hb); have CB1 := Aside0.mk hbox; clear hb hbox hg1 HB; have HB := HB_; clear HB_; have v10 : w1.cell? ⟨g1, 0, none⟩ = some (.slice A0_0 l0_0.length c0_0) := (blk_cell CB1.out 0).trans rfl; have v11 : w1.cell? ⟨g1, 1, none⟩ = some (.int .i64 a0_1) := (blk_cell CB1.out 1).trans rfl; have v12 : w1.cell? ⟨g1, 2, none⟩ = some (.int .i64 a0_2) := (blk_cell CB1.out 2).trans rfl))
     go_ret
     exact ⟨rfl, HB.out⟩
    ·have c3b : decide (a0_2 < 0) = false := decide_eq_false c3
     have C3 := Aside0.mk c3
     clear c3
     by_cases c4 : 1099511627776 < a0_2
     ·have c4b : decide (1099511627776 < a0_2) = true := decide_eq_true c4
      have hno : decide (FormedC l0_0 a0_1 a0_2) = false := decide_eq_false (fun h => by have := h.2.2.2.2.1; omega)
      clear c4
      obtain rfl : r = false := HRR.out.symm.trans hno
      go_enter Tryd.func16, Tryd.ntmps16
      go_wp2_with (first
       | ((with_reducible refine gate_dst (N := 1) rfl ?_); refine box_event ?hg (N := 1) ?hd (cs := #[.slice A0_0 l0_0.length c0_0, .int .i64 a0_1, .int .i64 a0_2]) (t := 27) ?hr ?_; (case hd => rfl); (case hg => rfl); (case hr => first | (go_simp; done) | (go_simp; rfl)); intro g1 hg1 w1 hbox hb; have HB_ := Aside0.mk (below_step HB.out hb); have CB1 := Aside0.mk hbox; clear hb hbox hg1 HB; have HB := HB_; clear HB_; have v10 : w1.cell? ⟨g1, 0, none⟩ = some (.slice A0_0 l0_0.length c0_0) := (blk_cell CB1.out 0).trans rfl; have v11 : w1.cell? ⟨g1, 1, none⟩ = some (.int .i64 a0_1) := (blk_cell CB1.out 1).trans rfl; have v12 : w1.cell? ⟨g1, 2, none⟩ = some (.int .i64 a0_2) := (blk_cell CB1.out 2).trans rfl))
      go_ret
      exact ⟨rfl, HB.out⟩
     ·have c4b : decide (1099511627776 < a0_2) = false := decide_eq_false c4
      have C4 := Aside0.mk c4
      clear c4
      go_enter Tryd.func16, Tryd.ntmps16
      go_upto_region 3 with (first
       | ((with_reducible refine gate_dst (N := 1) rfl ?_); refine box_event ?hg (N := 1) ?hd (cs := #[.slice A0_0 l0_0.length c0_0, .int .i64 a0_1, .int .i64 a0_2]) (t := 27) ?hr ?_; (case hd => rfl); (case hg => rfl); (case hr => first | (go_simp; done) | (go_simp; rfl)); intro g1 hg1 w1 hbox hb; have HB_ := Aside0.mk (below_step HB.out hb); have CB1 := Aside0.mk hbox; clear hb hbox hg1 HB; have HB := HB_; clear HB_; have v10 : w1.cell? ⟨g1, 0, none⟩ = some (.slice A0_0 l0_0.length c0_0) := (blk_cell CB1.out 0).trans rfl; have v11 : w1.cell? ⟨g1, 1, none⟩ = some (.int .i64 a0_1) := (blk_cell CB1.out 1).trans rfl; have v12 : w1.cell? ⟨g1, 2, none⟩ = some (.int .i64 a0_2) := (blk_cell CB1.out 2).trans rfl))
      go_wp2
      go_loopw [3] (fun v3 w' => ∃ i : Nat, v3 = .int .i64 i ∧ i ≤ l0_0.length ∧ Aside0 (∀ j, j < i → okC l0_0 a0_1 a0_2 j) ∧ Aside0 (w'.heap[g1]? = some (.cells #[.slice A0_0 l0_0.length c0_0, .int .i64 a0_1, .int .i64 a0_2] 27 (0, 0))) ∧ Aside0 (Below w.heap.size w w')) (fun v3 _ => l0_0.length - (intOf v3).toNat)
      case atStart => exact ⟨0, rfl, Nat.zero_le _, ⟨fun j hj => absurd hj (Nat.not_lt_zero j)⟩, CB1, HB⟩
      case round =>
       clear CB1 HB v10 v11 v12 c0b c1b c2b c3b c4b
       obtain ⟨i, rfl, hil, HOK, CB1, HB⟩ := hrel
       have v10 : wr.cell? ⟨g1, 0, none⟩ = some (.slice A0_0 l0_0.length c0_0) := (blk_cell CB1.out 0).trans rfl
       have v11 : wr.cell? ⟨g1, 1, none⟩ = some (.int .i64 a0_1) := (blk_cell CB1.out 1).trans rfl
       have v12 : wr.cell? ⟨g1, 2, none⟩ = some (.int .i64 a0_2) := (blk_cell CB1.out 2).trans rfl
       by_cases cs : i < l0_0.length
       ·have csd := decide_eq_true (show (i : Int) < (l0_0.length : Int) by omega)
        obtain ⟨ad, rfl, hx0, hx1, hx2, hx3⟩ := at_T63 HR.out (i : Int) (by omega) (by omega)
        obtain ⟨x, hx⟩ : ∃ x, x = rd_T63 l0_0 (i : Int) := ⟨_, rfl⟩
        have HX := Aside0.mk hx
        rw [← hx] at hx0 hx1 hx2 hx3
        replace hx0 := (HB.out.cell (World.block_lt_of_cell? w _ hx0)).trans hx0
        replace hx1 := (HB.out.cell (World.block_lt_of_cell? w _ hx1)).trans hx1
        replace hx2 := (HB.out.cell (World.block_lt_of_cell? w _ hx2)).trans hx2
        replace hx3 := (HB.out.cell (World.block_lt_of_cell? w _ hx3)).trans hx3
        rw [Int.toNat_natCast] at hx0 hx1 hx2 hx3
        clear hx
        have q0 := eq_true (show (0 : Int) ≤ (i : Int) by omega)
        have q1 := eq_true (show (i : Int) < (l0_0.length : Int) by omega)
        have hwr : IntKind.i64.wrap ((i : Int) + 1) = ((i + 1 : Nat) : Int) := by rw [IntKind.wrap_i64]; have := HL.out; omega
        have HE := Aside0.mk (endC_ge HOK.out)
        go_upto_region 7 with (first
         | fail)
        have BX := Aside0.mk (blk_new wr (.cells #[.int .i64 x.f0, .int .i64 x.f1, .int .i64 x.f2, .int .i64 x.f3] 63 (0, 0)))
        have CB1_ := Aside0.mk (blk_alloc CB1.out (.cells #[.int .i64 x.f0, .int .i64 x.f1, .int .i64 x.f2, .int .i64 x.f3] 63 (0, 0)))
        have HB_ := Aside0.mk (below_alloc HB.out (.cells #[.int .i64 x.f0, .int .i64 x.f1, .int .i64 x.f2, .int .i64 x.f3] 63 (0, 0)))
        clear CB1 HB hx0 hx1 hx2 hx3 v10 v11 v12
        generalize wr.alloc (.cells #[.int .i64 x.f0, .int .i64 x.f1, .int .i64 x.f2, .int .i64 x.f3] 63 (0, 0)) = W2 at *
        generalize wr.heap.size = g4 at *
        have HB := HB_
        have CB1 := CB1_
        clear HB_ CB1_
        have v10 : W2.cell? ⟨g1, 0, none⟩ = some (.slice (some ad) l0_0.length c0_0) := (blk_cell CB1.out 0).trans rfl
        have v11 : W2.cell? ⟨g1, 1, none⟩ = some (.int .i64 a0_1) := (blk_cell CB1.out 1).trans rfl
        have v12 : W2.cell? ⟨g1, 2, none⟩ = some (.int .i64 a0_2) := (blk_cell CB1.out 2).trans rfl
        have y0 : W2.cell? ⟨g4, 0, none⟩ = some (.int .i64 x.f0) := (blk_cell BX.out 0).trans rfl
        have y1 : W2.cell? ⟨g4, 1, none⟩ = some (.int .i64 x.f1) := (blk_cell BX.out 1).trans rfl
        have y2 : W2.cell? ⟨g4, 2, none⟩ = some (.int .i64 x.f2) := (blk_cell BX.out 2).trans rfl
        have y3 : W2.cell? ⟨g4, 3, none⟩ = some (.int .i64 x.f3) := (blk_cell BX.out 3).trans rfl
        by_cases i0 : i = 0
        ·have hE := Aside0.mk (show endC l0_0 i = -1 by unfold endC; rw [if_pos i0])
         have i0d : decide ((0 : Int) < (i : Int)) = false := decide_eq_false (by omega)
         have i0n : (0 < i) = False := eq_false (by omega)
         have HI0 := Aside0.mk i0
         clear i0
         by_cases d0 : x.f0 < 0
         ·have d0b : decide (x.f0 < 0) = true := decide_eq_true d0
          have hno : decide (FormedC l0_0 a0_1 a0_2) = false := formed_not cs (fun h => by unfold okC at h; rw [← HX.out] at h; have := h.1; omega)
          clear d0
          go_quiet (fail)
          have HB7 := Aside0.mk (pw_below_drewN HB.out nq)
          go_wp2
          go_ret
          obtain rfl : r = false := HRR.out.symm.trans hno
          exact ⟨rfl, HB7.out⟩
         ·have d0b : decide (x.f0 < 0) = false := decide_eq_false d0
          have D0 := Aside0.mk d0
          clear d0
          by_cases d1 : a0_1 ≤ x.f0
          ·have d1b : decide (a0_1 ≤ x.f0) = true := decide_eq_true d1
           have hno : decide (FormedC l0_0 a0_1 a0_2) = false := formed_not cs (fun h => by unfold okC at h; rw [← HX.out] at h; have := h.2.1; omega)
           clear d1
           go_quiet (fail)
           have HB7 := Aside0.mk (pw_below_drewN HB.out nq)
           go_wp2
           go_ret
           obtain rfl : r = false := HRR.out.symm.trans hno
           exact ⟨rfl, HB7.out⟩
          ·have d1b : decide (a0_1 ≤ x.f0) = false := decide_eq_false d1
           have D1 := Aside0.mk d1
           clear d1
           by_cases d2 : x.f1 < 0
           ·have d2b : decide (x.f1 < 0) = true := decide_eq_true d2
            have hno : decide (FormedC l0_0 a0_1 a0_2) = false := formed_not cs (fun h => by unfold okC at h; rw [← HX.out] at h; have := h.2.2.2.1; have := HE.out; omega)
            clear d2
            go_quiet (fail)
            have HB7 := Aside0.mk (pw_below_drewN HB.out nq)
            go_wp2
            go_ret
            obtain rfl : r = false := HRR.out.symm.trans hno
            exact ⟨rfl, HB7.out⟩
           ·have d2b : decide (x.f1 < 0) = false := decide_eq_false d2
            have D2 := Aside0.mk d2
            clear d2
            by_cases d3 : x.f2 < x.f1
            ·have d3b : decide (x.f2 < x.f1) = true := decide_eq_true d3
             have hno : decide (FormedC l0_0 a0_1 a0_2) = false := formed_not cs (fun h => by unfold okC at h; rw [← HX.out] at h; have := h.2.2.2.2.1; omega)
             clear d3
             go_quiet (fail)
             have HB7 := Aside0.mk (pw_below_drewN HB.out nq)
             go_wp2
             go_ret
             obtain rfl : r = false := HRR.out.symm.trans hno
             exact ⟨rfl, HB7.out⟩
            ·have d3b : decide (x.f2 < x.f1) = false := decide_eq_false d3
             have D3 := Aside0.mk d3
             clear d3
             by_cases d4 : a0_2 ≤ x.f2
             ·have d4b : decide (a0_2 ≤ x.f2) = true := decide_eq_true d4
              have hno : decide (FormedC l0_0 a0_1 a0_2) = false := formed_not cs (fun h => by unfold okC at h; rw [← HX.out] at h; have := h.2.2.2.2.2.1; omega)
              clear d4
              go_quiet (fail)
              have HB7 := Aside0.mk (pw_below_drewN HB.out nq)
              go_wp2
              go_ret
              obtain rfl : r = false := HRR.out.symm.trans hno
              exact ⟨rfl, HB7.out⟩
             ·have d4b : decide (a0_2 ≤ x.f2) = false := decide_eq_false d4
              have D4 := Aside0.mk d4
              clear d4
              by_cases d5 : x.f3 < 1
              ·have d5b : decide (x.f3 < 1) = true := decide_eq_true d5
               have hno : decide (FormedC l0_0 a0_1 a0_2) = false := formed_not cs (fun h => by unfold okC at h; rw [← HX.out] at h; have := h.2.2.2.2.2.2.1; omega)
               clear d5
               go_quiet (fail)
               have HB7 := Aside0.mk (pw_below_drewN HB.out nq)
               go_wp2
               go_ret
               obtain rfl : r = false := HRR.out.symm.trans hno
               exact ⟨rfl, HB7.out⟩
              ·have d5b : decide (x.f3 < 1) = false := decide_eq_false d5
               have D5 := Aside0.mk d5
               clear d5
               by_cases d6 : 4096 < x.f3
               ·have d6b : decide (4096 < x.f3) = true := decide_eq_true d6
                have hno : decide (FormedC l0_0 a0_1 a0_2) = false := formed_not cs (fun h => by unfold okC at h; rw [← HX.out] at h; have := h.2.2.2.2.2.2.2.1; omega)
                clear d6
                go_quiet (fail)
                have HB7 := Aside0.mk (pw_below_drewN HB.out nq)
                go_wp2
                go_ret
                obtain rfl : r = false := HRR.out.symm.trans hno
                exact ⟨rfl, HB7.out⟩
               ·have d6b : decide (4096 < x.f3) = false := decide_eq_false d6
                have D6 := Aside0.mk d6
                clear d6
                have hsb : wrap64 (x.f2 - x.f1) = x.f2 - x.f1 := by have := D2.out; have := D3.out; have := D4.out; have := C4.out; unfold wrap64; omega
                have hsc : wrap64 (x.f3 - 1) = x.f3 - 1 := by have := D5.out; have := D6.out; unfold wrap64; omega
                by_cases d7 : x.f2 - x.f1 < x.f3 - 1
                ·have d7b : decide (x.f2 - x.f1 < x.f3 - 1) = true := decide_eq_true d7
                 have hno : decide (FormedC l0_0 a0_1 a0_2) = false := formed_not cs (fun h => by unfold okC at h; rw [← HX.out] at h; have := h.2.2.2.2.2.2.2.2; omega)
                 clear d7
                 go_quiet (fail)
                 have HB7 := Aside0.mk (pw_below_drewN HB.out nq)
                 go_wp2
                 go_ret
                 obtain rfl : r = false := HRR.out.symm.trans hno
                 exact ⟨rfl, HB7.out⟩
                ·have d7b : decide (x.f2 - x.f1 < x.f3 - 1) = false := decide_eq_false d7
                 have D7 := Aside0.mk d7
                 clear d7
                 have HOKI := Aside0.mk (show (∀ k, k < i → (rd_T63 l0_0 (k : Int)).f0 ≠ x.f0) → okC l0_0 a0_1 a0_2 i from fun hne => by
                  unfold okC
                  rw [← HX.out]
                  have d0_ := D0.out
                  have d1_ := D1.out
                  have d2_ := D2.out
                  have d3_ := D3.out
                  have d4_ := D4.out
                  have d5_ := D5.out
                  have d6_ := D6.out
                  have d7_ := D7.out
                  exact ⟨by omega, by omega, hne, by rw [hE.out]; omega, by omega, by omega, by omega, by omega, by omega⟩)
                 go_quiet (fail)
                 have HB_ := Aside0.mk (pw_below_drewN HB.out nq)
                 have CB1_ := Aside0.mk (blk_drewN CB1.out nq)
                 have BX_ := Aside0.mk (blk_drewN BX.out nq)
                 clear HB CB1 BX v10 v11 v12 y0 y1 y2 y3 
                 generalize W2.drewN nq = W3 at *
                 go_wp2
                 go_loopw [5] (fun v5 w' => ∃ t : Nat, v5 = .int .i64 t ∧ t ≤ i ∧ Aside0 (∀ s, s < t → (rd_T63 l0_0 (s : Int)).f0 ≠ x.f0) ∧ Aside0 (w'.heap[g1]? = some (.cells #[.slice (some ad) l0_0.length c0_0, .int .i64 a0_1, .int .i64 a0_2] 27 (0, 0))) ∧ Aside0 (w'.heap[g4]? = some (.cells #[.int .i64 x.f0, .int .i64 x.f1, .int .i64 x.f2, .int .i64 x.f3] 63 (0, 0))) ∧ Aside0 (Below w.heap.size w w')) (fun v5 _ => i - (intOf v5).toNat)
                 case atStart => exact ⟨0, rfl, Nat.zero_le _, ⟨fun s hs => absurd hs (Nat.not_lt_zero s)⟩, CB1_, BX_, HB_⟩
                 case round =>
                  clear CB1_ BX_ HB_
                  obtain ⟨t, rfl, hti, HNE, CB1, BX, HB⟩ := hrel
                  by_cases ct : t < i
                  ·exact absurd ct (by have := HI0.out; omega)
                  ·obtain rfl : t = i := by omega
                   have ctd : decide ((t : Int) < (t : Int)) = false := decide_eq_false (Int.lt_irrefl _)
                   have hoki := HOKI.out HNE.out
                   go_wp2
                   go_roundw
                   ·exact ⟨t + 1, by rw [HI0.out]; rfl, cs, ⟨fun s hs => by rcases Nat.lt_or_eq_of_le (Nat.lt_succ_iff.1 hs) with h3 | h3; exact HOK.out s h3; rw [h3]; exact hoki⟩, CB1, HB⟩
                   ·show l0_0.length - (((t : Int) + 1)).toNat < l0_0.length - (t : Int).toNat
                    omega
        ·have hE := Aside0.mk (show endC l0_0 i = (rd_T63 l0_0 ((i - 1 : Nat) : Int)).f2 by unfold endC; rw [if_neg i0])
         have i0d : decide ((0 : Int) < (i : Int)) = true := decide_eq_true (by omega)
         have i0n : (0 < i) = True := eq_true (by omega)
         obtain ⟨j, hj⟩ : ∃ j, j = (i : Int) - 1 := ⟨_, rfl⟩
         have hwr0 : IntKind.i64.wrap ((i : Int) - 1) = j := by have := HL.out; rw [IntKind.wrap_i64]; omega
         have hwr1 : wrap64 ((i : Int) - 1) = j := by have := HL.out; unfold wrap64; omega
         have HJ := Aside0.mk (show ((i - 1 : Nat) : Int) = j by omega)
         have i1a : (0 : Int) ≤ j := by omega
         have i1b : j < l0_0.length := by omega
         clear hj
         obtain ⟨ad2, ead, hp0, hp1, hp2, hp3⟩ := at_T63 HR.out j i1a i1b
         replace i1a := eq_true i1a
         replace i1b := eq_true i1b
         cases ead
         replace hp2 := (HB.out.cell (World.block_lt_of_cell? w _ hp2)).trans hp2
         clear hp0 hp1 hp3
         obtain ⟨y, hyy⟩ : ∃ y, y = rd_T63 l0_0 j := ⟨_, rfl⟩
         have HY := Aside0.mk hyy
         rw [← hyy] at hp2
         clear hyy
         by_cases d0 : x.f0 < 0
         ·have d0b : decide (x.f0 < 0) = true := decide_eq_true d0
          have hno : decide (FormedC l0_0 a0_1 a0_2) = false := formed_not cs (fun h => by unfold okC at h; rw [← HX.out] at h; have := h.1; omega)
          clear d0
          go_quiet (fail)
          have HB7 := Aside0.mk (pw_below_drewN HB.out nq)
          go_wp2
          go_ret
          obtain rfl : r = false := HRR.out.symm.trans hno
          exact ⟨rfl, HB7.out⟩
         ·have d0b : decide (x.f0 < 0) = false := decide_eq_false d0
          have D0 := Aside0.mk d0
          clear d0
          by_cases d1 : a0_1 ≤ x.f0
          ·have d1b : decide (a0_1 ≤ x.f0) = true := decide_eq_true d1
           have hno : decide (FormedC l0_0 a0_1 a0_2) = false := formed_not cs (fun h => by unfold okC at h; rw [← HX.out] at h; have := h.2.1; omega)
           clear d1
           go_quiet (fail)
           have HB7 := Aside0.mk (pw_below_drewN HB.out nq)
           go_wp2
           go_ret
           obtain rfl : r = false := HRR.out.symm.trans hno
           exact ⟨rfl, HB7.out⟩
          ·have d1b : decide (a0_1 ≤ x.f0) = false := decide_eq_false d1
           have D1 := Aside0.mk d1
           clear d1
           by_cases d2 : x.f1 < 0
           ·have d2b : decide (x.f1 < 0) = true := decide_eq_true d2
            have hno : decide (FormedC l0_0 a0_1 a0_2) = false := formed_not cs (fun h => by unfold okC at h; rw [← HX.out] at h; have := h.2.2.2.1; have := HE.out; omega)
            clear d2
            go_quiet (fail)
            have HB7 := Aside0.mk (pw_below_drewN HB.out nq)
            go_wp2
            go_ret
            obtain rfl : r = false := HRR.out.symm.trans hno
            exact ⟨rfl, HB7.out⟩
           ·have d2b : decide (x.f1 < 0) = false := decide_eq_false d2
            have D2 := Aside0.mk d2
            clear d2
            by_cases d3 : x.f2 < x.f1
            ·have d3b : decide (x.f2 < x.f1) = true := decide_eq_true d3
             have hno : decide (FormedC l0_0 a0_1 a0_2) = false := formed_not cs (fun h => by unfold okC at h; rw [← HX.out] at h; have := h.2.2.2.2.1; omega)
             clear d3
             go_quiet (fail)
             have HB7 := Aside0.mk (pw_below_drewN HB.out nq)
             go_wp2
             go_ret
             obtain rfl : r = false := HRR.out.symm.trans hno
             exact ⟨rfl, HB7.out⟩
            ·have d3b : decide (x.f2 < x.f1) = false := decide_eq_false d3
             have D3 := Aside0.mk d3
             clear d3
             by_cases d4 : a0_2 ≤ x.f2
             ·have d4b : decide (a0_2 ≤ x.f2) = true := decide_eq_true d4
              have hno : decide (FormedC l0_0 a0_1 a0_2) = false := formed_not cs (fun h => by unfold okC at h; rw [← HX.out] at h; have := h.2.2.2.2.2.1; omega)
              clear d4
              go_quiet (fail)
              have HB7 := Aside0.mk (pw_below_drewN HB.out nq)
              go_wp2
              go_ret
              obtain rfl : r = false := HRR.out.symm.trans hno
              exact ⟨rfl, HB7.out⟩
             ·have d4b : decide (a0_2 ≤ x.f2) = false := decide_eq_false d4
              have D4 := Aside0.mk d4
              clear d4
              by_cases d5 : x.f3 < 1
              ·have d5b : decide (x.f3 < 1) = true := decide_eq_true d5
               have hno : decide (FormedC l0_0 a0_1 a0_2) = false := formed_not cs (fun h => by unfold okC at h; rw [← HX.out] at h; have := h.2.2.2.2.2.2.1; omega)
               clear d5
               go_quiet (fail)
               have HB7 := Aside0.mk (pw_below_drewN HB.out nq)
               go_wp2
               go_ret
               obtain rfl : r = false := HRR.out.symm.trans hno
               exact ⟨rfl, HB7.out⟩
              ·have d5b : decide (x.f3 < 1) = false := decide_eq_false d5
               have D5 := Aside0.mk d5
               clear d5
               by_cases d6 : 4096 < x.f3
               ·have d6b : decide (4096 < x.f3) = true := decide_eq_true d6
                have hno : decide (FormedC l0_0 a0_1 a0_2) = false := formed_not cs (fun h => by unfold okC at h; rw [← HX.out] at h; have := h.2.2.2.2.2.2.2.1; omega)
                clear d6
                go_quiet (fail)
                have HB7 := Aside0.mk (pw_below_drewN HB.out nq)
                go_wp2
                go_ret
                obtain rfl : r = false := HRR.out.symm.trans hno
                exact ⟨rfl, HB7.out⟩
               ·have d6b : decide (4096 < x.f3) = false := decide_eq_false d6
                have D6 := Aside0.mk d6
                clear d6
                have hsb : wrap64 (x.f2 - x.f1) = x.f2 - x.f1 := by have := D2.out; have := D3.out; have := D4.out; have := C4.out; unfold wrap64; omega
                have hsc : wrap64 (x.f3 - 1) = x.f3 - 1 := by have := D5.out; have := D6.out; unfold wrap64; omega
                by_cases d7 : x.f2 - x.f1 < x.f3 - 1
                ·have d7b : decide (x.f2 - x.f1 < x.f3 - 1) = true := decide_eq_true d7
                 have hno : decide (FormedC l0_0 a0_1 a0_2) = false := formed_not cs (fun h => by unfold okC at h; rw [← HX.out] at h; have := h.2.2.2.2.2.2.2.2; omega)
                 clear d7
                 go_quiet (fail)
                 have HB7 := Aside0.mk (pw_below_drewN HB.out nq)
                 go_wp2
                 go_ret
                 obtain rfl : r = false := HRR.out.symm.trans hno
                 exact ⟨rfl, HB7.out⟩
                ·have d7b : decide (x.f2 - x.f1 < x.f3 - 1) = false := decide_eq_false d7
                 have D7 := Aside0.mk d7
                 clear d7
                 by_cases d8 : x.f1 ≤ y.f2
                 ·have d8b : decide (x.f1 ≤ y.f2) = true := decide_eq_true d8
                  have hno : decide (FormedC l0_0 a0_1 a0_2) = false := formed_not cs (fun h => by unfold okC at h; rw [← HX.out] at h; have := h.2.2.2.1; rw [hE.out, HJ.out, ← HY.out] at this; omega)
                  clear d8
                  go_quiet (fail)
                  have HB7 := Aside0.mk (pw_below_drewN HB.out nq)
                  go_wp2
                  go_ret
                  obtain rfl : r = false := HRR.out.symm.trans hno
                  exact ⟨rfl, HB7.out⟩
                 ·have d8b : decide (x.f1 ≤ y.f2) = false := decide_eq_false d8
                  have D8 := Aside0.mk d8
                  clear d8
                  have HOKI := Aside0.mk (show (∀ k, k < i → (rd_T63 l0_0 (k : Int)).f0 ≠ x.f0) → okC l0_0 a0_1 a0_2 i from fun hne => by
                   unfold okC
                   rw [← HX.out]
                   have d0_ := D0.out
                   have d1_ := D1.out
                   have d2_ := D2.out
                   have d3_ := D3.out
                   have d4_ := D4.out
                   have d5_ := D5.out
                   have d6_ := D6.out
                   have d7_ := D7.out
                   have d8_ := D8.out
                   exact ⟨by omega, by omega, hne, by rw [hE.out, HJ.out, ← HY.out]; omega, by omega, by omega, by omega, by omega, by omega⟩)
                  go_quiet (fail)
                  have HB_ := Aside0.mk (pw_below_drewN HB.out nq)
                  have CB1_ := Aside0.mk (blk_drewN CB1.out nq)
                  have BX_ := Aside0.mk (blk_drewN BX.out nq)
                  clear HB CB1 BX v10 v11 v12 y0 y1 y2 y3 hp2
                  generalize W2.drewN nq = W3 at *
                  go_wp2
                  go_loopw [5] (fun v5 w' => ∃ t : Nat, v5 = .int .i64 t ∧ t ≤ i ∧ Aside0 (∀ s, s < t → (rd_T63 l0_0 (s : Int)).f0 ≠ x.f0) ∧ Aside0 (w'.heap[g1]? = some (.cells #[.slice (some ad) l0_0.length c0_0, .int .i64 a0_1, .int .i64 a0_2] 27 (0, 0))) ∧ Aside0 (w'.heap[g4]? = some (.cells #[.int .i64 x.f0, .int .i64 x.f1, .int .i64 x.f2, .int .i64 x.f3] 63 (0, 0))) ∧ Aside0 (Below w.heap.size w w')) (fun v5 _ => i - (intOf v5).toNat)
                  case atStart => exact ⟨0, rfl, Nat.zero_le _, ⟨fun s hs => absurd hs (Nat.not_lt_zero s)⟩, CB1_, BX_, HB_⟩
                  case round =>
                   clear CB1_ BX_ HB_
                   obtain ⟨t, rfl, hti, HNE, CB1, BX, HB⟩ := hrel
                   by_cases ct : t < i
                   ·have ctd := decide_eq_true (show (t : Int) < (i : Int) by omega)
                    have ctn := eq_true ct
                    obtain ⟨ad3, ead, hs0, hs1, hs2, hs3⟩ := at_T63 HR.out (t : Int) (by omega) (by omega)
                    cases ead
                    rw [Int.toNat_natCast] at hs0
                    obtain ⟨z, hz⟩ : ∃ z, z = (rd_T63 l0_0 (t : Int)).f0 := ⟨_, rfl⟩
                    have HZ := Aside0.mk hz
                    rw [← hz] at hs0
                    replace hs0 := (HB.out.cell (World.block_lt_of_cell? w _ hs0)).trans hs0
                    clear hs1 hs2 hs3 hz
                    have s0 := eq_true (show (0 : Int) ≤ (t : Int) by omega)
                    have s1 := eq_true (show (t : Int) < (l0_0.length : Int) by omega)
                    have hwt : IntKind.i64.wrap ((t : Int) + 1) = ((t + 1 : Nat) : Int) := by rw [IntKind.wrap_i64]; have := HL.out; omega
                    have v10 : wr.cell? ⟨g1, 0, none⟩ = some (.slice (some ad) l0_0.length c0_0) := (blk_cell CB1.out 0).trans rfl
                    have y0 : wr.cell? ⟨g4, 0, none⟩ = some (.int .i64 x.f0) := (blk_cell BX.out 0).trans rfl
                    by_cases ez : z = x.f0
                    ·have ezb : (z == x.f0) = true := beq_iff_eq.mpr ez
                     have ezd : decide (z = x.f0) = true := decide_eq_true ez
                     have hno : decide (FormedC l0_0 a0_1 a0_2) = false := formed_not cs (fun h => by unfold okC at h; rw [← HX.out] at h; exact h.2.2.1 t ct (HZ.out.symm.trans ez))
                     clear ez
                     go_upto_region 12 with (first
                      | fail)
                     go_quiet (fail)
                     have HB7 := Aside0.mk (pw_below_drewN HB.out nq)
                     go_wp2
                     go_ret
                     obtain rfl : r = false := HRR.out.symm.trans hno
                     exact ⟨rfl, HB7.out⟩
                    ·have ezb : (z == x.f0) = false := beq_eq_false_iff_ne.mpr ez
                     have ezd : decide (z = x.f0) = false := decide_eq_false ez
                     have HEZ := Aside0.mk ez
                     clear ez
                     go_upto_region 12 with (first
                      | fail)
                     go_quiet (fail)
                     have HB_ := Aside0.mk (pw_below_drewN HB.out nq)
                     have CB1_ := Aside0.mk (blk_drewN CB1.out nq)
                     have BX_ := Aside0.mk (blk_drewN BX.out nq)
                     go_wp2
                     go_roundw
                     ·exact ⟨t + 1, rfl, ct, ⟨fun s hs => by rcases Nat.lt_or_eq_of_le (Nat.lt_succ_iff.1 hs) with h3 | h3; exact HNE.out s h3; rw [h3]; exact fun h => HEZ.out (HZ.out.trans h)⟩, CB1_, BX_, HB_⟩
                     ·show i - (((t + 1 : Nat) : Int)).toNat < i - (t : Int).toNat
                      omega
                   ·obtain rfl : t = i := by omega
                    have ctd : decide ((t : Int) < (t : Int)) = false := decide_eq_false (Int.lt_irrefl _)
                    have hoki := HOKI.out HNE.out
                    go_wp2
                    go_roundw
                    ·exact ⟨t + 1, rfl, cs, ⟨fun s hs => by rcases Nat.lt_or_eq_of_le (Nat.lt_succ_iff.1 hs) with h3 | h3; exact HOK.out s h3; rw [h3]; exact hoki⟩, CB1, HB⟩
                    ·show l0_0.length - (((t + 1 : Nat) : Int)).toNat < l0_0.length - (t : Int).toNat
                     omega
       ·obtain rfl : i = l0_0.length := by omega
        have csd : decide ((l0_0.length : Int) < (l0_0.length : Int)) = false := decide_eq_false (Int.lt_irrefl _)
        have hyes : decide (FormedC l0_0 a0_1 a0_2) = true := decide_eq_true ⟨by have := C0.out; omega, by have := C1.out; omega, by have := C2.out; omega, by have := C3.out; omega, by have := C4.out; omega, HOK.out⟩
        go_wp2
        go_ret
        obtain rfl : r = true := HRR.out.symm.trans hyes
        exact ⟨rfl, HB.out⟩
def manifest_Commit.f (l0_0 : List (S63)) (a0_1 : Int) (a0_2 : Int) : Option ((List (S60)) × Int) := (manifest_Put.f l0_0 a0_1 a0_2).bind fun bt171 => (if bt171.2 = 0 then (some ((([(⟨1, (⟨#[110]⟩ : ByteArray), (⟨#[]⟩ : ByteArray), bt171.1⟩ : S60), (⟨2, (⟨#[110]⟩ : ByteArray), (⟨#[]⟩ : ByteArray), ([] : List Int)⟩ : S60), (⟨3, (⟨#[110]⟩ : ByteArray), (⟨#[109]⟩ : ByteArray), ([] : List Int)⟩ : S60)] : List (S60))), 0)) else (some (([] : List (S60)), bt171.2)))
set_option maxHeartbeats 8000000 in
set_option maxRecDepth 100000 in
theorem manifest_Commit.calls (A0_0 : Option Addr) (c0_0 : Nat) (l0_0 : List (S63)) (a0_1 : Int) (a0_2 : Int) (r1 : List (S60)) (r2 : Int) (w : World) (hr0_0 : Kd.C k63 w A0_0 l0_0.length l0_0) (hc0_0 : l0_0.length ≤ c0_0) (hG : GT w) (h : manifest_Commit.f l0_0 a0_1 a0_2 = some (r1, r2)) :
  Calls Tryd.prog 19 #[.agg #[.slice A0_0 l0_0.length c0_0, .int .i64 a0_1, .int .i64 a0_2]] w fun e w' => ∃ v0_ : Value, e = .returned (.tuple #[v0_, .int .i64 r2]) ∧ Kd.N k60 60 w' w.heap.size (fun k_ => (w.heap.size ≤ k_)) v0_ r1 ∧ Below w.heap.size w w' := by
 have hu27 := Tryd.underlying27
 have hu60 := Tryd.underlying60
 have HR0_0 := Aside0.mk hr0_0
 have HC0_0 := Aside0.mk hc0_0
 clear hr0_0 hc0_0
 have HB := Aside0.mk (Below.refl w.heap.size w)
 have HG := Aside0.mk hG
 clear hG
 have H : ((manifest_Put.f l0_0 a0_1 a0_2).bind fun bt171 => (if bt171.2 = 0 then (some ((([(⟨1, (⟨#[110]⟩ : ByteArray), (⟨#[]⟩ : ByteArray), bt171.1⟩ : S60), (⟨2, (⟨#[110]⟩ : ByteArray), (⟨#[]⟩ : ByteArray), ([] : List Int)⟩ : S60), (⟨3, (⟨#[110]⟩ : ByteArray), (⟨#[109]⟩ : ByteArray), ([] : List Int)⟩ : S60)] : List (S60))), 0)) else (some (([] : List (S60)), bt171.2)))) = some (r1, r2) := h
 clear h
 replace H := Option.bind_eq_some_iff.mp H
 obtain ⟨⟨t171, t174⟩, A20, H⟩ := H
 replace H : (if t174 = 0 then (some ((([(⟨1, (⟨#[110]⟩ : ByteArray), (⟨#[]⟩ : ByteArray), t171⟩ : S60), (⟨2, (⟨#[110]⟩ : ByteArray), (⟨#[]⟩ : ByteArray), ([] : List Int)⟩ : S60), (⟨3, (⟨#[110]⟩ : ByteArray), (⟨#[109]⟩ : ByteArray), ([] : List Int)⟩ : S60)] : List (S60))), 0)) else (some (([] : List (S60)), t174))) = some (r1, r2) := H
 have A2 := Aside0.mk A20
 clear A20
 by_cases c3 : t174 = 0
 ·rw [if_pos c3] at H
  have c3b0 : (t174 == 0) = true := beq_iff_eq.mpr c3
  have c3b1 : (t174 != 0) = false := bne_eq_false_iff_eq.mpr c3
  clear c3
  obtain ⟨y175, hy175⟩ : ∃ y_ : List (S60), y_ = (([(⟨1, (⟨#[110]⟩ : ByteArray), (⟨#[]⟩ : ByteArray), t171⟩ : S60), (⟨2, (⟨#[110]⟩ : ByteArray), (⟨#[]⟩ : ByteArray), ([] : List Int)⟩ : S60), (⟨3, (⟨#[110]⟩ : ByteArray), (⟨#[109]⟩ : ByteArray), ([] : List Int)⟩ : S60)] : List (S60))) := ⟨_, rfl⟩
  replace H : (some (y175, 0)) = some (r1, r2) := by first | (rw [hy175]; with_reducible exact H) | (have H2_ := (Option.bind_some _ _).symm.trans H; rw [hy175]; with_reducible exact H2_) | (have H2_ := (Option.bind_some _ _).symm.trans H; with_reducible exact H2_) | with_reducible exact H | (rw [hy175]; exact H) | exact H
  have Ny175 := Aside0.mk hy175
  clear hy175
  simp only [Option.some.injEq, Prod.mk.injEq] at H
  obtain ⟨rfl, rfl⟩ := H
  go_enter Tryd.func19, Tryd.ntmps19
  go_wp2_with (first | ((with_reducible refine gate_dst (N := 1) rfl ?_); refine box_event ?hg (N := 1) ?hd (cs := #[.slice A0_0 l0_0.length c0_0, .int .i64 a0_1, .int .i64 a0_2]) (t := 27) ?hr ?_; (case hd => rfl); (case hg => rfl); (case hr => first | (go_simp; done) | (go_simp; rfl)); intro gb170 hg w4 hbox hb; have n0_ := Aside0.mk (below_step (by repeat (first | (with_reducible first | exact HB.out | apply below_alloc | apply pw_below_drewN | apply below_drew1) | exact HB.out)) hb); have n1_ := Aside0.mk (hbox); have n2_ := Aside0.mk ((by rw [hg]; exact (below_size (by repeat (first | (with_reducible first | exact HB.out | apply below_alloc | apply pw_below_drewN | apply below_drew1) | exact HB.out))) : w.heap.size ≤ gb170)); have n3_ := Aside0.mk ((by rw [hg]; exact (below_size (by repeat (first | (with_reducible first | exact HB.out | apply below_alloc | apply pw_below_drewN | apply below_drew1) | exact HB.out))) : w.heap.size ≤ gb170)); clear HB; have HB := n0_; have BK170 := n1_; have GW170 := n2_; have GE170 := n3_; clear n0_ n1_ n2_ n3_; clear hb hbox hg; have hcz5_0 : w4.cell? ⟨gb170, 0, none⟩ = some (.slice A0_0 l0_0.length c0_0) := (blk_cell BK170.out 0).trans rfl; have hcz5_1 : w4.cell? ⟨gb170, 1, none⟩ = some (.int .i64 a0_1) := (blk_cell BK170.out 1).trans rfl; have hcz5_2 : w4.cell? ⟨gb170, 2, none⟩ = some (.int .i64 a0_2) := (blk_cell BK170.out 2).trans rfl; have hfz5_0 := blk_frozen BK170.out 0; have hfz5_1 := blk_frozen BK170.out 1; have hfz5_2 := blk_frozen BK170.out 2) | ((with_reducible refine gate_callee (f := 15) rfl ?_); refine goesL_ (some 8) rfl rfl Tryd.func15 (by kernel_rfl) rfl #[.agg #[.slice A0_0 l0_0.length c0_0, .int .i64 a0_1, .int .i64 a0_2]] rfl (by (try simp only [List.map_toArray, List.map_cons, List.map_nil]); first | done | rfl | (simp only [List.length_drop, List.length_take]; rfl)) ?_; (with_reducible refine (manifest_Put.calls _ _ l0_0 a0_1 a0_2 t171 t174 _ ?side1 ?side2 ?side3 A2.out).mono ?_); (case side1 => repeat (first | exact (Kd.C_below HR0_0.out HB.out) | (with_reducible refine Kd.C_alloc ?_ _) | (with_reducible refine Kd.C_drewN ?_ _) | (with_reducible refine Kd.C_drew ?_))); (case side2 => exact HC0_0.out); (case side3 => exact GT.below HG.out (by repeat (first | (with_reducible first | exact HB.out | apply below_alloc | apply pw_below_drewN | apply below_drew1 | refine below_set ?_ GE170.out) | exact HB.out))); rintro e w6 ⟨v172, rfl, ho0, hb⟩; refine ⟨_, rfl, ?_⟩; have n0_ := Aside0.mk (Kd.R_lower (Kd.R_newM (M := fun k_ => (w.heap.size ≤ k_)) ho0 (below_size (by repeat (first | (with_reducible first | exact HB.out | apply below_alloc | apply pw_below_drewN | apply below_drew1 | refine below_set ?_ GE170.out) | exact HB.out))) (fun k_ h_ => h_)) (below_size (by repeat (first | (with_reducible first | exact HB.out | apply below_alloc | apply pw_below_drewN | apply below_drew1 | refine below_set ?_ GE170.out) | exact HB.out)))); have n1_ := Aside0.mk (blk_below (g := gb170) (o := .cells #[.slice A0_0 l0_0.length c0_0, .int .i64 a0_1, .int .i64 a0_2] 27 (0, 0)) (by (with_reducible repeat (first | refine blk_drewN ?_ _ | refine blk_drew ?_ | refine blk_alloc ?_ _)); exact BK170.out) hb); have n2_ := Aside0.mk (below_step (by repeat (first | (with_reducible first | exact HB.out | apply below_alloc | apply pw_below_drewN | apply below_drew1 | refine below_set ?_ GE170.out) | exact HB.out)) hb); clear BK170; clear HB; have HO173 := n0_; have BK170 := n1_; have HB := n2_; clear n0_ n1_ n2_; (try clear hb); (try clear hb2); (try clear hk); (try clear hi); (try clear ho0); obtain ⟨Ao7, co7, eo7⟩ := Kd.R_slice HO173.out; subst eo7) | ((with_reducible refine gate_dst (N := 18) rfl ?_); refine Kd.N_lit k60 _ 60 ?hg (N' := 18) ?hd (xs := ([(⟨1, (⟨#[110]⟩ : ByteArray), (⟨#[]⟩ : ByteArray), t171⟩ : S60), (⟨2, (⟨#[110]⟩ : ByteArray), (⟨#[]⟩ : ByteArray), ([] : List Int)⟩ : S60), (⟨3, (⟨#[110]⟩ : ByteArray), (⟨#[109]⟩ : ByteArray), ([] : List Int)⟩ : S60)] : List (S60))) (inner := [.int .i64 1, .string (⟨#[110]⟩ : ByteArray), .string (⟨#[]⟩ : ByteArray), .slice Ao7 t171.length co7, .int .i64 2, .string (⟨#[110]⟩ : ByteArray), .string (⟨#[]⟩ : ByteArray), .slice none 0 0, .int .i64 3, .string (⟨#[110]⟩ : ByteArray), .string (⟨#[109]⟩ : ByteArray), .slice none 0 0]) (ok := (fun k_ => (w.heap.size ≤ k_) ∧ k_ ≠ gb170)) (okp := (fun k_ => (w.heap.size ≤ k_) ∧ k_ ≠ gb170)) ?hr ?hp (fun _ hk => hk) ((show ∀ k_, w6.heap.size ≤ k_ → (fun k_ => (w.heap.size ≤ k_) ∧ k_ ≠ gb170) k_ from fun k_ hk => ⟨(Nat.le_trans (below_size (by repeat (first | (with_reducible first | exact HB.out | apply below_alloc | apply pw_below_drewN | apply below_drew1 | refine below_set ?_ GE170.out) | exact HB.out))) hk), Kd.freshB (g := gb170) (o := .cells #[.slice A0_0 l0_0.length c0_0, .int .i64 a0_1, .int .i64 a0_2] 27 (0, 0)) (by (with_reducible repeat (first | refine blk_drewN ?_ _ | refine blk_drew ?_ | refine blk_alloc ?_ _)); exact BK170.out) k_ hk⟩) _ (Nat.le_refl _)) (Below.refl _ _) (Nat.le_refl _) (by simp) ?_; (case hd => rfl); (case hg => rfl); (case hr => first | (go_simp; done) | (go_simp; rfl)); (case hp => exact (Reps.c4 (show Kd.FK k60 _ _ (⟨1, (⟨#[110]⟩ : ByteArray), (⟨#[]⟩ : ByteArray), t171⟩ : S60) [.int .i64 1, .string (⟨#[110]⟩ : ByteArray), .string (⟨#[]⟩ : ByteArray), .slice Ao7 t171.length co7] from (k60_mkF _ _ (⟨1, (⟨#[110]⟩ : ByteArray), (⟨#[]⟩ : ByteArray), t171⟩ : S60) (Kd.R_reads' (Kd.R_mono (ok' := (fun k_ => (w.heap.size ≤ k_) ∧ k_ ≠ gb170)) (Kd.R_types (HO173.out) BK170.out (by decide)) (fun k_ hk => ⟨hk.1.1, hk.2⟩))).2.1 (Kd.R_F (Kd.R_mono (ok' := (fun k_ => (w.heap.size ≤ k_) ∧ k_ ≠ gb170)) (Kd.R_types (HO173.out) BK170.out (by decide)) (fun k_ hk => ⟨hk.1.1, hk.2⟩))))) (Reps.c4 (show Kd.FK k60 _ _ (⟨2, (⟨#[110]⟩ : ByteArray), (⟨#[]⟩ : ByteArray), ([] : List Int)⟩ : S60) [.int .i64 2, .string (⟨#[110]⟩ : ByteArray), .string (⟨#[]⟩ : ByteArray), .slice none 0 0] from (k60_mkF _ _ (⟨2, (⟨#[110]⟩ : ByteArray), (⟨#[]⟩ : ByteArray), ([] : List Int)⟩ : S60) (Nat.le_refl _) (Kd.F_nil _ _ _))) (Reps.c4 (show Kd.FK k60 _ _ (⟨3, (⟨#[110]⟩ : ByteArray), (⟨#[109]⟩ : ByteArray), ([] : List Int)⟩ : S60) [.int .i64 3, .string (⟨#[110]⟩ : ByteArray), .string (⟨#[109]⟩ : ByteArray), .slice none 0 0] from (k60_mkF _ _ (⟨3, (⟨#[110]⟩ : ByteArray), (⟨#[109]⟩ : ByteArray), ([] : List Int)⟩ : S60) (Nat.le_refl _) (Kd.F_nil _ _ _))) (Reps.none _ _))))); intro v176 w8 ho9 hb hg_ hnew_; clear hg_ hnew_; (first | rw [← Ny175.out] at ho9 | (simp only [Int.reduceToNat] at ho9; rw [← Ny175.out] at ho9)); have n0_ := Aside0.mk (Kd.N_lower ho9 (below_size (by repeat (first | (with_reducible first | exact HB.out | apply below_alloc | apply pw_below_drewN | apply below_drew1 | refine below_set ?_ GE170.out) | exact HB.out)))); have n1_ := Aside0.mk (blk_below (g := gb170) (o := .cells #[.slice A0_0 l0_0.length c0_0, .int .i64 a0_1, .int .i64 a0_2] 27 (0, 0)) (by (with_reducible repeat (first | refine blk_drewN ?_ _ | refine blk_drew ?_ | refine blk_alloc ?_ _)); exact BK170.out) hb); have n2_ := Aside0.mk (below_step (by repeat (first | (with_reducible first | exact HB.out | apply below_alloc | apply pw_below_drewN | apply below_drew1 | refine below_set ?_ GE170.out) | exact HB.out)) hb); clear BK170; clear HB; clear HO173; have HO177 := n0_; have BK170 := n1_; have HB := n2_; clear n0_ n1_ n2_; clear hb ho9))
  go_ret2
  exact ⟨_, by first | rfl | (simp [errW_none, errW_some] <;> rfl) | (simp [*, errW_none, errW_some] <;> rfl), by (with_reducible repeat (first | apply Kd.N_alloc | apply Kd.N_drewN | apply Kd.N_drew)); exact Kd.N_mono HO177.out (fun _ hk => hk.1), by repeat (first | (with_reducible first | exact HB.out | apply below_alloc | apply pw_below_drewN | apply below_drew1 | refine below_set ?_ GE170.out) | exact HB.out)⟩
 ·rw [if_neg c3] at H
  have c3b0 : (t174 == 0) = false := beq_eq_false_iff_ne.mpr c3
  have c3b1 : (t174 != 0) = true := bne_iff_ne.mpr c3
  simp only [Option.some.injEq, Prod.mk.injEq] at H
  obtain ⟨rfl, rfl⟩ := H
  go_enter Tryd.func19, Tryd.ntmps19
  go_wp2_with (first | ((with_reducible refine gate_dst (N := 1) rfl ?_); refine box_event ?hg (N := 1) ?hd (cs := #[.slice A0_0 l0_0.length c0_0, .int .i64 a0_1, .int .i64 a0_2]) (t := 27) ?hr ?_; (case hd => rfl); (case hg => rfl); (case hr => first | (go_simp; done) | (go_simp; rfl)); intro gb170 hg w10 hbox hb; have n0_ := Aside0.mk (below_step (by repeat (first | (with_reducible first | exact HB.out | apply below_alloc | apply pw_below_drewN | apply below_drew1) | exact HB.out)) hb); have n1_ := Aside0.mk (hbox); have n2_ := Aside0.mk ((by rw [hg]; exact (below_size (by repeat (first | (with_reducible first | exact HB.out | apply below_alloc | apply pw_below_drewN | apply below_drew1) | exact HB.out))) : w.heap.size ≤ gb170)); have n3_ := Aside0.mk ((by rw [hg]; exact (below_size (by repeat (first | (with_reducible first | exact HB.out | apply below_alloc | apply pw_below_drewN | apply below_drew1) | exact HB.out))) : w.heap.size ≤ gb170)); clear HB; have HB := n0_; have BK170 := n1_; have GW170 := n2_; have GE170 := n3_; clear n0_ n1_ n2_ n3_; clear hb hbox hg; have hcz11_0 : w10.cell? ⟨gb170, 0, none⟩ = some (.slice A0_0 l0_0.length c0_0) := (blk_cell BK170.out 0).trans rfl; have hcz11_1 : w10.cell? ⟨gb170, 1, none⟩ = some (.int .i64 a0_1) := (blk_cell BK170.out 1).trans rfl; have hcz11_2 : w10.cell? ⟨gb170, 2, none⟩ = some (.int .i64 a0_2) := (blk_cell BK170.out 2).trans rfl; have hfz11_0 := blk_frozen BK170.out 0; have hfz11_1 := blk_frozen BK170.out 1; have hfz11_2 := blk_frozen BK170.out 2) | ((with_reducible refine gate_callee (f := 15) rfl ?_); refine goesL_ (some 8) rfl rfl Tryd.func15 (by kernel_rfl) rfl #[.agg #[.slice A0_0 l0_0.length c0_0, .int .i64 a0_1, .int .i64 a0_2]] rfl (by (try simp only [List.map_toArray, List.map_cons, List.map_nil]); first | done | rfl | (simp only [List.length_drop, List.length_take]; rfl)) ?_; (with_reducible refine (manifest_Put.calls _ _ l0_0 a0_1 a0_2 t171 t174 _ ?side1 ?side2 ?side3 A2.out).mono ?_); (case side1 => repeat (first | exact (Kd.C_below HR0_0.out HB.out) | (with_reducible refine Kd.C_alloc ?_ _) | (with_reducible refine Kd.C_drewN ?_ _) | (with_reducible refine Kd.C_drew ?_))); (case side2 => exact HC0_0.out); (case side3 => exact GT.below HG.out (by repeat (first | (with_reducible first | exact HB.out | apply below_alloc | apply pw_below_drewN | apply below_drew1 | refine below_set ?_ GE170.out) | exact HB.out))); rintro e w12 ⟨v172, rfl, ho0, hb⟩; refine ⟨_, rfl, ?_⟩; have n0_ := Aside0.mk (Kd.R_lower (Kd.R_newM (M := fun k_ => (w.heap.size ≤ k_)) ho0 (below_size (by repeat (first | (with_reducible first | exact HB.out | apply below_alloc | apply pw_below_drewN | apply below_drew1 | refine below_set ?_ GE170.out) | exact HB.out))) (fun k_ h_ => h_)) (below_size (by repeat (first | (with_reducible first | exact HB.out | apply below_alloc | apply pw_below_drewN | apply below_drew1 | refine below_set ?_ GE170.out) | exact HB.out)))); have n1_ := Aside0.mk (blk_below (g := gb170) (o := .cells #[.slice A0_0 l0_0.length c0_0, .int .i64 a0_1, .int .i64 a0_2] 27 (0, 0)) (by (with_reducible repeat (first | refine blk_drewN ?_ _ | refine blk_drew ?_ | refine blk_alloc ?_ _)); exact BK170.out) hb); have n2_ := Aside0.mk (below_step (by repeat (first | (with_reducible first | exact HB.out | apply below_alloc | apply pw_below_drewN | apply below_drew1 | refine below_set ?_ GE170.out) | exact HB.out)) hb); clear BK170; clear HB; have HO173 := n0_; have BK170 := n1_; have HB := n2_; clear n0_ n1_ n2_; (try clear hb); (try clear hb2); (try clear hk); (try clear hi); (try clear ho0)))
  go_ret2
  exact ⟨_, by first | rfl | (simp [errW_none, errW_some] <;> rfl) | (simp [*, errW_none, errW_some] <;> rfl), by first | exact Kd.S_nil _ _ _ _ _ | exact Kd.N_nil _ _ _ _ _ | exact Kd.V_nil _ _ _ _ _ | exact Kd.Q_nil _ _ _ _ _ | exact Kd.R_nil _ _ _ _ _, by repeat (first | (with_reducible first | exact HB.out | apply below_alloc | apply pw_below_drewN | apply below_drew1 | refine below_set ?_ GE170.out) | exact HB.out)⟩
def store_named.f (a0 : ByteArray) : Option (Bool) := if a0.toList = ([] : List UInt8) then (some false) else (some (decide ((a0.size : Int) ≤ 32)))
set_option maxHeartbeats 8000000 in
set_option maxRecDepth 100000 in
theorem store_named.calls (a0 : ByteArray) (r : Bool) (w : World) (h : store_named.f a0 = some r) :
  Calls Tryd.prog 49 #[.string a0] w fun e w' => e = .returned (.bool r) ∧ Drawn0 w w' := by
 have H : (if a0.toList = ([] : List UInt8) then (some false) else (some (decide ((a0.size : Int) ≤ 32)))) = some r := h
 clear h
 by_cases c2 : a0.toList = ([] : List UInt8)
 ·rw [if_pos c2] at H
  have c2b0 : (a0.toList == ([] : List UInt8)) = true := beq_iff_eq.mpr c2
  have c2b1 : (a0.toList != ([] : List UInt8)) = false := bne_eq_false_iff_eq.mpr c2
  clear c2
  obtain rfl := Option.some.inj H
  go_enter Tryd.func49, Tryd.ntmps49
  go_wp2
  go_ret
  exact ⟨by first | rfl | (simp; done) | (simp [*]; done), by repeat (first | exact Drawn0.refl _ | apply Drawn0.step)⟩
 ·rw [if_neg c2] at H
  have c2b0 : (a0.toList == ([] : List UInt8)) = false := beq_eq_false_iff_ne.mpr c2
  have c2b1 : (a0.toList != ([] : List UInt8)) = true := bne_iff_ne.mpr c2
  obtain rfl := Option.some.inj H
  go_enter Tryd.func49, Tryd.ntmps49
  go_wp2
  go_ret
  exact ⟨by first | rfl | (simp; done) | (simp [*]; done), by repeat (first | exact Drawn0.refl _ | apply Drawn0.step)⟩
def store_used.l0 : Nat → Int → List (S84) → Int → Int → Int → List (S84) → Option (Int)
 | 0, _, _, _, _, _, _ => none
 | k + 1, x3, x7, x8, x9, x179000, x179001 => if x9 < x8 then (if 0 ≤ x9 then (if x9 < (x7.length : Int) then (if (wrap64 (x3 + (((rd_T84 x7 x9).f1).length : Int))) > x179000 then (some (-1)) else (store_used.l0 k (wrap64 (x3 + (((rd_T84 x7 x9).f1).length : Int))) x7 x8 (wrap64 (x9 + 1)) x179000 x179001)) else (none)) else (none)) else (some x3)
def store_used.f (k : Nat) (a0_0 : Int) (l0_1 : List (S84)) : Option (Int) := store_used.l0 k 0 l0_1 (l0_1.length : Int) 0 a0_0 l0_1
theorem store_used.mono_l : ∀ k, (∀ y0 y1 y2 y3 y4 y5, LeO (store_used.l0 k y0 y1 y2 y3 y4 y5) (store_used.l0 (k + 1) y0 y1 y2 y3 y4 y5))
 | 0 => fun _ _ _ _ _ _ r h => by simp [store_used.l0] at h
 | k + 1 => by
  have ih0 := store_used.mono_l k
  ·intro y0 y1 y2 y3 y4 y5
   unfold store_used.l0
   repeat' first
   | (with_reducible exact ih0 _ _ _ _ _ _)
   | (with_reducible exact LeO.refl _)
   | (with_reducible exact LeO.none _)
   | (with_reducible refine LeO.ite ?_ ?_)
   | (with_reducible refine LeO.bind ?_ (fun _ => ?_))
   | exact ih0 _ _ _ _ _ _
   | exact LeO.none _
   | refine LeO.ite ?_ ?_
   | refine LeO.bind ?_ (fun _ => ?_)
theorem store_used.mono : ∀ a0 a1 k, LeO (store_used.f k a0 a1) (store_used.f (k + 1) a0 a1) := by
 intro a0 a1 k
 have ih0 := store_used.mono_l k
 unfold store_used.f
 repeat' first
   | (with_reducible exact ih0 _ _ _ _ _ _)
   | (with_reducible exact LeO.refl _)
   | (with_reducible exact LeO.none _)
   | (with_reducible refine LeO.ite ?_ ?_)
   | (with_reducible refine LeO.bind ?_ (fun _ => ?_))
   | exact ih0 _ _ _ _ _ _
   | exact LeO.none _
   | refine LeO.ite ?_ ?_
   | refine LeO.bind ?_ (fun _ => ?_)
set_option maxHeartbeats 8000000 in
set_option maxRecDepth 100000 in
theorem store_used.calls (k : Nat) (a0_0 : Int) (A0_1 : Option Addr) (c0_1 : Nat) (l0_1 : List (S84)) (r : Int) (w : World) (hr0_1 : Kd.C k84 w A0_1 l0_1.length l0_1) (hc0_1 : l0_1.length ≤ c0_1) (h : store_used.f k a0_0 l0_1 = some r) :
  Calls Tryd.prog 51 #[.agg #[.int .i64 a0_0, .slice A0_1 l0_1.length c0_1]] w fun e w' => e = .returned (.int .i64 r) ∧ Below w.heap.size w w' := by
 have hu50 := Tryd.underlying50
 have hu84 := Tryd.underlying84
 have HR0_1 := Aside0.mk hr0_1
 have HC0_1 := Aside0.mk hc0_1
 clear hr0_1 hc0_1
 have HB := Aside0.mk (Below.refl w.heap.size w)
 have H : (store_used.l0 k 0 l0_1 (l0_1.length : Int) 0 a0_0 l0_1) = some r := h
 clear h
 have H' := Aside0.mk H
 clear H
 go_enter Tryd.func51, Tryd.ntmps51
 go_wp2_with (first | ((with_reducible refine gate_dst (N := 1) rfl ?_); refine box_event ?hg (N := 1) ?hd (cs := #[.int .i64 a0_0, .slice A0_1 l0_1.length c0_1]) (t := 50) ?hr ?_; (case hd => rfl); (case hg => rfl); (case hr => first | (go_simp; done) | (go_simp; rfl)); intro gb178 hg w2 hbox hb; have n0_ := Aside0.mk (below_step (by repeat (first | (with_reducible first | exact HB.out | apply below_alloc | apply pw_below_drewN | apply below_drew1) | exact HB.out)) hb); have n1_ := Aside0.mk (hbox); have n2_ := Aside0.mk ((by rw [hg]; exact (below_size (by repeat (first | (with_reducible first | exact HB.out | apply below_alloc | apply pw_below_drewN | apply below_drew1) | exact HB.out))) : w.heap.size ≤ gb178)); have n3_ := Aside0.mk ((by rw [hg]; exact (below_size (by repeat (first | (with_reducible first | exact HB.out | apply below_alloc | apply pw_below_drewN | apply below_drew1) | exact HB.out))) : w.heap.size ≤ gb178)); clear HB; have HB := n0_; have BK178 := n1_; have GW178 := n2_; have GE178 := n3_; clear n0_ n1_ n2_ n3_; clear hb hbox hg; have hcz3_0 : w2.cell? ⟨gb178, 0, none⟩ = some (.int .i64 a0_0) := (blk_cell BK178.out 0).trans rfl; have hcz3_1 : w2.cell? ⟨gb178, 1, none⟩ = some (.slice A0_1 l0_1.length c0_1) := (blk_cell BK178.out 1).trans rfl; have hfz3_0 := blk_frozen BK178.out 0; have hfz3_1 := blk_frozen BK178.out 1))
 go_loopg [3, 9] k (fun kq v3 v9 w' => ∃ (x3_1 : Int) (x9_1 : Int), v3 = .int .i64 x3_1 ∧ v9 = .int .i64 x9_1 ∧ Aside0 (store_used.l0 kq x3_1 l0_1 (l0_1.length : Int) x9_1 a0_0 l0_1 = some r) ∧ Aside0 (kq ≤ k) ∧ Aside0 (w'.heap[gb178]? = some (.cells #[.int .i64 a0_0, (.slice A0_1 l0_1.length c0_1)] 50 (0, 0))) ∧ Aside0 (Below w.heap.size w w'))
 case atStart => exact ⟨(0), (0), (by first | rfl | (simp; done) | (simp [*]; done)), (by first | rfl | (simp; done) | (simp [*]; done)), H', ⟨Nat.le_refl _⟩, ⟨by (with_reducible repeat (first | refine blk_drewN ?_ _ | refine blk_drew ?_ | refine blk_alloc ?_ _)); exact BK178.out⟩, ⟨by repeat (first | (with_reducible first | exact HB.out | apply below_alloc | apply pw_below_drewN | apply below_drew1 | refine below_set ?_ GE178.out) | exact HB.out)⟩⟩
 case round =>
  clear H'
  try clear p2
  try clear hcz3_0
  try clear hcz3_1
  try clear hfz3_0
  try clear hfz3_1
  obtain ⟨x3_1, x9_1, rfl, rfl, HA, HK1, BK178, HB⟩ := hrel
  cases gk with
  | zero => exact absurd HA.out (by simp [store_used.l0])
  | succ k1 =>
   have H := HA.out
   clear HA
   simp only [store_used.l0] at H
   by_cases c4 : x9_1 < (l0_1.length : Int)
   ·rw [if_pos c4] at H
    have c4b0 : decide (x9_1 < (l0_1.length : Int)) = true := decide_eq_true c4
    clear c4
    by_cases c5 : 0 ≤ x9_1
    ·rw [if_pos c5] at H
     have c5b0 : decide (0 ≤ x9_1) = true := decide_eq_true c5
     clear c5
     by_cases c6 : x9_1 < (l0_1.length : Int)
     ·rw [if_pos c6] at H
      have c6b0 : decide (x9_1 < (l0_1.length : Int)) = true := decide_eq_true c6
      clear c6
      by_cases c7 : (wrap64 (x3_1 + (((rd_T84 l0_1 x9_1).f1).length : Int))) > a0_0
      ·rw [if_pos c7] at H
       have c7b0 : decide (a0_0 < (wrap64 (x3_1 + (((rd_T84 l0_1 x9_1).f1).length : Int)))) = true := decide_eq_true c7
       clear c7
       obtain rfl := Option.some.inj H
       have p179 : 0 ≤ (x9_1 : Int) := of_decide_eq_true (by first | (with_reducible assumption) | assumption)
       have q179 : x9_1 < (l0_1.length : Int) := of_decide_eq_true (by first | (with_reducible assumption) | assumption)
       obtain ⟨ad179, A179_1, c179_1, e179, hx179_0, hx179_1, hx179_2, hl179_1, hi179_1⟩ := at_T84 HR0_1.out x9_1 p179 q179
       cases e179
       replace hx179_0 := (HB.out.cell (World.block_lt_of_cell? w _ hx179_0)).trans hx179_0
       replace hx179_1 := (HB.out.cell (World.block_lt_of_cell? w _ hx179_1)).trans hx179_1
       replace hx179_2 := (HB.out.cell (World.block_lt_of_cell? w _ hx179_2)).trans hx179_2
       have HR179_1 := Aside0.mk hi179_1
       have HC179_1 := Aside0.mk hl179_1
       clear hi179_1 hl179_1
       replace p179 := eq_true p179
       replace q179 := eq_true q179
       go_wp2_with (first | ((with_reducible refine gate_dst (N := 5) rfl ?_); refine box_event ?hg (N := 5) ?hd (cs := #[.string (⟨#[]⟩ : ByteArray), .slice none 0 0, .int .i64 0]) (t := 84) ?hr ?_; (case hd => rfl); (case hg => rfl); (case hr => first | (go_simp; done) | (go_simp; rfl)); intro gb180 hg w8 hbox hb; have n0_ := Aside0.mk (blk_below (g := gb178) (o := .cells #[.int .i64 a0_0, .slice (some ad179) l0_1.length c0_1] 50 (0, 0)) (by (with_reducible repeat (first | refine blk_drewN ?_ _ | refine blk_drew ?_ | refine blk_alloc ?_ _)); exact BK178.out) hb); have n1_ := Aside0.mk (below_step (by repeat (first | (with_reducible first | exact HB.out | apply below_alloc | apply pw_below_drewN | apply below_drew1 | refine below_set ?_ GE178.out) | exact HB.out)) hb); have n2_ := Aside0.mk (hbox); have n3_ := Aside0.mk ((by rw [hg]; exact (below_size (by repeat (first | (with_reducible first | exact HB.out | apply below_alloc | apply pw_below_drewN | apply below_drew1 | refine below_set ?_ GE178.out) | exact HB.out))) : w.heap.size ≤ gb180)); have n4_ := Aside0.mk ((by rw [hg]; exact (below_size (by repeat (first | (with_reducible first | exact HB.out | apply below_alloc | apply pw_below_drewN | apply below_drew1 | refine below_set ?_ GE178.out) | exact HB.out))) : w.heap.size ≤ gb180)); have n5_ := Aside0.mk ((by rw [hg]; exact Nat.ne_of_lt (blk_lt (g := gb178) (o := .cells #[.int .i64 a0_0, .slice (some ad179) l0_1.length c0_1] 50 (0, 0)) (by (with_reducible repeat (first | refine blk_drewN ?_ _ | refine blk_drew ?_ | refine blk_alloc ?_ _)); exact BK178.out)) : gb178 ≠ gb180)); have n6_ := Aside0.mk ((by rw [hg]; exact Nat.ne_of_gt (blk_lt (g := gb178) (o := .cells #[.int .i64 a0_0, .slice (some ad179) l0_1.length c0_1] 50 (0, 0)) (by (with_reducible repeat (first | refine blk_drewN ?_ _ | refine blk_drew ?_ | refine blk_alloc ?_ _)); exact BK178.out)) : gb180 ≠ gb178)); clear BK178; clear HB; have BK178 := n0_; have HB := n1_; have BK180 := n2_; have GW180 := n3_; have GE180 := n4_; have NB178_180 := n5_; have NB180_178 := n6_; clear n0_ n1_ n2_ n3_ n4_ n5_ n6_; clear hb hbox hg; have hnb9 := NB180_178.out; have hnc9 := NB178_180.out; have hcz10_0 : w8.cell? ⟨gb180, 0, none⟩ = some (.string (⟨#[]⟩ : ByteArray)) := (blk_cell BK180.out 0).trans rfl; have hcz10_1 : w8.cell? ⟨gb180, 1, none⟩ = some (.slice none 0 0) := (blk_cell BK180.out 1).trans rfl; have hcz10_2 : w8.cell? ⟨gb180, 2, none⟩ = some (.int .i64 0) := (blk_cell BK180.out 2).trans rfl; have hfz10_0 := blk_frozen BK180.out 0; have hfz10_1 := blk_frozen BK180.out 1; have hfz10_2 := blk_frozen BK180.out 2; have hcz11_0 : w8.cell? ⟨gb178, 0, none⟩ = some (.int .i64 a0_0) := (blk_cell BK178.out 0).trans rfl; have hcz11_1 : w8.cell? ⟨gb178, 1, none⟩ = some (.slice (some ad179) l0_1.length c0_1) := (blk_cell BK178.out 1).trans rfl; have hfz11_0 := blk_frozen BK178.out 0; have hfz11_1 := blk_frozen BK178.out 1))
       go_ret
       exact ⟨by first | rfl | (simp [errW_none, errW_some] <;> rfl) | (simp [*, errW_none, errW_some] <;> rfl), by repeat (first | (with_reducible first | exact HB.out | apply below_alloc | apply pw_below_drewN | apply below_drew1 | refine below_set ?_ GE178.out | refine below_set ?_ GE180.out) | exact HB.out)⟩
      ·rw [if_neg c7] at H
       have c7b0 : decide (a0_0 < (wrap64 (x3_1 + (((rd_T84 l0_1 x9_1).f1).length : Int)))) = false := decide_eq_false c7
       clear c7
       have H' := Aside0.mk H
       clear H
       have p179 : 0 ≤ (x9_1 : Int) := of_decide_eq_true (by first | (with_reducible assumption) | assumption)
       have q179 : x9_1 < (l0_1.length : Int) := of_decide_eq_true (by first | (with_reducible assumption) | assumption)
       obtain ⟨ad179, A179_1, c179_1, e179, hx179_0, hx179_1, hx179_2, hl179_1, hi179_1⟩ := at_T84 HR0_1.out x9_1 p179 q179
       cases e179
       replace hx179_0 := (HB.out.cell (World.block_lt_of_cell? w _ hx179_0)).trans hx179_0
       replace hx179_1 := (HB.out.cell (World.block_lt_of_cell? w _ hx179_1)).trans hx179_1
       replace hx179_2 := (HB.out.cell (World.block_lt_of_cell? w _ hx179_2)).trans hx179_2
       have HR179_1 := Aside0.mk hi179_1
       have HC179_1 := Aside0.mk hl179_1
       clear hi179_1 hl179_1
       replace p179 := eq_true p179
       replace q179 := eq_true q179
       go_wp2_with (first | ((with_reducible refine gate_dst (N := 5) rfl ?_); refine box_event ?hg (N := 5) ?hd (cs := #[.string (⟨#[]⟩ : ByteArray), .slice none 0 0, .int .i64 0]) (t := 84) ?hr ?_; (case hd => rfl); (case hg => rfl); (case hr => first | (go_simp; done) | (go_simp; rfl)); intro gb180 hg w12 hbox hb; have n0_ := Aside0.mk (blk_below (g := gb178) (o := .cells #[.int .i64 a0_0, .slice (some ad179) l0_1.length c0_1] 50 (0, 0)) (by (with_reducible repeat (first | refine blk_drewN ?_ _ | refine blk_drew ?_ | refine blk_alloc ?_ _)); exact BK178.out) hb); have n1_ := Aside0.mk (below_step (by repeat (first | (with_reducible first | exact HB.out | apply below_alloc | apply pw_below_drewN | apply below_drew1 | refine below_set ?_ GE178.out) | exact HB.out)) hb); have n2_ := Aside0.mk (hbox); have n3_ := Aside0.mk ((by rw [hg]; exact (below_size (by repeat (first | (with_reducible first | exact HB.out | apply below_alloc | apply pw_below_drewN | apply below_drew1 | refine below_set ?_ GE178.out) | exact HB.out))) : w.heap.size ≤ gb180)); have n4_ := Aside0.mk ((by rw [hg]; exact (below_size (by repeat (first | (with_reducible first | exact HB.out | apply below_alloc | apply pw_below_drewN | apply below_drew1 | refine below_set ?_ GE178.out) | exact HB.out))) : w.heap.size ≤ gb180)); have n5_ := Aside0.mk ((by rw [hg]; exact Nat.ne_of_lt (blk_lt (g := gb178) (o := .cells #[.int .i64 a0_0, .slice (some ad179) l0_1.length c0_1] 50 (0, 0)) (by (with_reducible repeat (first | refine blk_drewN ?_ _ | refine blk_drew ?_ | refine blk_alloc ?_ _)); exact BK178.out)) : gb178 ≠ gb180)); have n6_ := Aside0.mk ((by rw [hg]; exact Nat.ne_of_gt (blk_lt (g := gb178) (o := .cells #[.int .i64 a0_0, .slice (some ad179) l0_1.length c0_1] 50 (0, 0)) (by (with_reducible repeat (first | refine blk_drewN ?_ _ | refine blk_drew ?_ | refine blk_alloc ?_ _)); exact BK178.out)) : gb180 ≠ gb178)); clear BK178; clear HB; have BK178 := n0_; have HB := n1_; have BK180 := n2_; have GW180 := n3_; have GE180 := n4_; have NB178_180 := n5_; have NB180_178 := n6_; clear n0_ n1_ n2_ n3_ n4_ n5_ n6_; clear hb hbox hg; have hnb13 := NB180_178.out; have hnc13 := NB178_180.out; have hcz14_0 : w12.cell? ⟨gb180, 0, none⟩ = some (.string (⟨#[]⟩ : ByteArray)) := (blk_cell BK180.out 0).trans rfl; have hcz14_1 : w12.cell? ⟨gb180, 1, none⟩ = some (.slice none 0 0) := (blk_cell BK180.out 1).trans rfl; have hcz14_2 : w12.cell? ⟨gb180, 2, none⟩ = some (.int .i64 0) := (blk_cell BK180.out 2).trans rfl; have hfz14_0 := blk_frozen BK180.out 0; have hfz14_1 := blk_frozen BK180.out 1; have hfz14_2 := blk_frozen BK180.out 2; have hcz15_0 : w12.cell? ⟨gb178, 0, none⟩ = some (.int .i64 a0_0) := (blk_cell BK178.out 0).trans rfl; have hcz15_1 : w12.cell? ⟨gb178, 1, none⟩ = some (.slice (some ad179) l0_1.length c0_1) := (blk_cell BK178.out 1).trans rfl; have hfz15_0 := blk_frozen BK178.out 0; have hfz15_1 := blk_frozen BK178.out 1))
       go_roundg k1
       case measure => have := HK1.out; omega
       case rel => exact ⟨(wrap64 (x3_1 + (((rd_T84 l0_1 x9_1).f1).length : Int))), (wrap64 (x9_1 + 1)), (by first | rfl | (simp; done) | (simp [*]; done)), (by first | rfl | (simp; done) | (simp [*]; done)), H', ⟨by have := HK1.out; omega⟩, ⟨by (with_reducible repeat (first | refine blk_drewN ?_ _ | refine blk_drew ?_ | refine blk_alloc ?_ _)); refine blk_far ?_ NB178_180.out _; (with_reducible repeat (first | refine blk_drewN ?_ _ | refine blk_drew ?_ | refine blk_alloc ?_ _)); refine blk_far ?_ NB178_180.out _; (with_reducible repeat (first | refine blk_drewN ?_ _ | refine blk_drew ?_ | refine blk_alloc ?_ _)); refine blk_far ?_ NB178_180.out _; (with_reducible repeat (first | refine blk_drewN ?_ _ | refine blk_drew ?_ | refine blk_alloc ?_ _)); exact BK178.out⟩, ⟨by repeat (first | (with_reducible first | exact HB.out | apply below_alloc | apply pw_below_drewN | apply below_drew1 | refine below_set ?_ GE178.out | refine below_set ?_ GE180.out) | exact HB.out)⟩⟩
     ·rw [if_neg c6] at H
      exact absurd H (by simp)
    ·rw [if_neg c5] at H
     exact absurd H (by simp)
   ·rw [if_neg c4] at H
    have c4b0 : decide (x9_1 < (l0_1.length : Int)) = false := decide_eq_false c4
    clear c4
    obtain rfl := Option.some.inj H
    go_wp2
    go_ret
    exact ⟨by first | rfl | (simp [errW_none, errW_some] <;> rfl) | (simp [*, errW_none, errW_some] <;> rfl), by repeat (first | (with_reducible first | exact HB.out | apply below_alloc | apply pw_below_drewN | apply below_drew1 | refine below_set ?_ GE178.out) | exact HB.out)⟩
def strings_Compare.f (a0 : ByteArray) (a1 : ByteArray) : Option Int := some (Lib.compareBytes a0.data.toList a1.data.toList)
set_option maxHeartbeats 800000 in
set_option maxRecDepth 100000 in
theorem strings_Compare.calls (a0 : ByteArray) (a1 : ByteArray) (r : Int) (w : World) (h : strings_Compare.f a0 a1 = some r) :
  Calls Tryd.prog 72 #[.string a0, .string a1] w fun e w' => e = .returned (.int .i64 r) ∧ Drawn0 w w' := by
 obtain rfl := Option.some.inj h
 go_enter Tryd.func72, Tryd.ntmps72
 go_wp2
 rw [run_callFunc_extern Tryd.func89 (by kernel_rfl) (by kernel_rfl) (by kernel_rfl) (e := Extern.BytealgCompare.compare) (by kernel_rfl), Lib.run_compareString]
 simp only [Result.andThen]
 rw [Oper.upon_value]
 go_wp2
 go_ret
 exact ⟨rfl, Drawn0.refl _⟩
end Go.Proofs.YtdcifmonhaklcaaDoor.A
