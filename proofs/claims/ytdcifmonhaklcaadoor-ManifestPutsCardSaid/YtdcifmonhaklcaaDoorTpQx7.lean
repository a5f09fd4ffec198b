/- Walks: each Go function that is told here comes to what the plain function beside it says, wherever that one answers. Written by a program of this session (wip/tools/pr.sh), after the manner of print.sh. -/
import Derived.Test.YtdcifmonhaklcaaDoorTpQx0
import Derived.Test.YtdcifmonhaklcaaDoorTpQx2
import Derived.Test.YtdcifmonhaklcaaDoorTpQx3
namespace Go.Proofs.YtdcifmonhaklcaaDoor.Q
open Go.RowKit Go.Proofs.YtdcifmonhaklcaaDoorW.PrintWords Go.Proofs.YtdcifmonhaklcaaDoorW.PrintLast Go.Proofs.YtdcifmonhaklcaaDoorW.PrintMore
attribute [local go_sem] min2_int min_two -- for this text's walks alone
set_option linter.unusedVariables false
set_option linter.unusedSimpArgs false
def dragnetref18_Formed.f (l0_0 : List S63) (a0_1 : Int) (a0_2 : Int) : Option Bool := if l0_0.length < 140737488355328 then some (decide (FormedC l0_0 a0_1 a0_2)) else none
set_option maxHeartbeats 8000000 in
set_option maxRecDepth 100000 in
theorem dragnetref18_Formed.calls (A0_0 : Option Addr) (c0_0 : Nat) (l0_0 : List (S63)) (a0_1 : Int) (a0_2 : Int) (r : Bool) (w : World) (hr0_0 : Kd.C k63 w A0_0 l0_0.length l0_0) (hc0_0 : l0_0.length ≤ c0_0) (h : dragnetref18_Formed.f l0_0 a0_1 a0_2 = some r) :
    Calls Tryd.prog 16 #[.agg #[.slice A0_0 l0_0.length c0_0, .int .i64 a0_1, .int .i64 a0_2]] w fun e w' => e = .returned (.bool r) ∧ Below w.heap.size w w' := by
  unfold dragnetref18_Formed.f at h
  by_cases hl : l0_0.length < 140737488355328
  case neg => rw [if_neg hl] at h; cases h
  rw [if_pos hl] at h
  have HRR := Aside0.mk (Option.some.inj h)
  clear h
  have HR := Aside0.mk hr0_0
  have HC := Aside0.mk hc0_0
  have HB := Aside0.mk (Below.refl w.heap.size w)
  have HL := Aside0.mk hl
  clear hr0_0 hc0_0 hl
  have hu27 := Tryd.underlying27
  have hu63 := Tryd.underlying63
  have hu25 := Tryd.underlying25
  by_cases c0 : 64 < (l0_0.length : Int)
  · have c0b : decide (64 < (l0_0.length : Int)) = true := decide_eq_true c0
    have hno : decide (FormedC l0_0 a0_1 a0_2) = false := decide_eq_false (fun h => by have := h.1; omega)
    clear c0
    obtain rfl : r = false := HRR.out.symm.trans hno
    go_enter Tryd.func16, Tryd.ntmps16
    go_wp2_with (first
      | ((with_reducible refine gate_dst (N := 1) rfl ?_); refine box_event ?hg (N := 1) ?hd (cs := #[.slice A0_0 l0_0.length c0_0, .int .i64 a0_1, .int .i64 a0_2]) (t := 27) ?hr ?_; (case hd => rfl); (case hg => rfl); (case hr => first | (go_simp; done) | (go_simp; rfl)); intro g1 hg1 w1 hbox hb; have HB_ := Aside0.mk (below_step HB.out hb); have CB1 := Aside0.mk hbox; clear hb hbox hg1 HB; have HB := HB_; clear HB_; have v10 : w1.cell? ⟨g1, 0, none⟩ = some (.slice A0_0 l0_0.length c0_0) := (blk_cell CB1.out 0).trans rfl; have v11 : w1.cell? ⟨g1, 1, none⟩ = some (.int .i64 a0_1) := (blk_cell CB1.out 1).trans rfl; have v12 : w1.cell? ⟨g1, 2, none⟩ = some (.int .i64 a0_2) := (blk_cell CB1.out 2).trans rfl))
    go_ret
    exact ⟨rfl, HB.out⟩
  · have c0b : decide (64 < (l0_0.length : Int)) = false := decide_eq_false c0
    have C0 := Aside0.mk c0
    clear c0
    by_cases c1 : a0_1 < 0
    · have c1b : decide (a0_1 < 0) = true := decide_eq_true c1
      have hno : decide (FormedC l0_0 a0_1 a0_2) = false := decide_eq_false (fun h => by have := h.2.1; omega)
      clear c1
      obtain rfl : r = false := HRR.out.symm.trans hno
      go_enter Tryd.func16, Tryd.ntmps16
      go_wp2_with (first
        | ((with_reducible refine gate_dst (N := 1) rfl ?_); refine box_event ?hg (N := 1) ?hd (cs := #[.slice A0_0 l0_0.length c0_0, .int .i64 a0_1, .int .i64 a0_2]) (t := 27) ?hr ?_; (case hd => rfl); (case hg => rfl); (case hr => first | (go_simp; done) | (go_simp; rfl)); intro g1 hg1 w1 hbox hb; have HB_ := Aside0.mk (below_step HB.out hb); have CB1 := Aside0.mk hbox; clear hb hbox hg1 HB; have HB := HB_; clear HB_; have v10 : w1.cell? ⟨g1, 0, none⟩ = some (.slice A0_0 l0_0.length c0_0) := (blk_cell CB1.out 0).trans rfl; have v11 : w1.cell? ⟨g1, 1, none⟩ = some (.int .i64 a0_1) := (blk_cell CB1.out 1).trans rfl; have v12 : w1.cell? ⟨g1, 2, none⟩ = some (.int .i64 a0_2) := (blk_cell CB1.out 2).trans rfl))
      go_ret
      exact ⟨rfl, HB.out⟩
    · have c1b : decide (a0_1 < 0) = false := decide_eq_false c1
      have C1 := Aside0.mk c1
      clear c1
      by_cases c2 : 2147483647 < a0_1
      · have c2b : decide (2147483647 < a0_1) = true := decide_eq_true c2
        have hno : decide (FormedC l0_0 a0_1 a0_2) = false := decide_eq_false (fun h => by have := h.2.2.1; omega)
        clear c2
        obtain rfl : r = false := HRR.out.symm.trans hno
        go_enter Tryd.func16, Tryd.ntmps16
        go_wp2_with (first
          | ((with_reducible refine gate_dst (N := 1) rfl ?_); refine box_event ?hg (N := 1) ?hd (cs := #[.slice A0_0 l0_0.length c0_0, .int .i64 a0_1, .int .i64 a0_2]) (t := 27) ?hr ?_; (case hd => rfl); (case hg => rfl); (case hr => first | (go_simp; done) | (go_simp; rfl)); intro g1 hg1 w1 hbox hb; have HB_ := Aside0.mk (below_step HB.out hb); have CB1 := Aside0.mk hbox; clear hb hbox hg1 HB; have HB := HB_; clear HB_; have v10 : w1.cell? ⟨g1, 0, none⟩ = some (.slice A0_0 l0_0.length c0_0) := (blk_cell CB1.out 0).trans rfl; have v11 : w1.cell? ⟨g1, 1, none⟩ = some (.int .i64 a0_1) := (blk_cell CB1.out 1).trans rfl; have v12 : w1.cell? ⟨g1, 2, none⟩ = some (.int .i64 a0_2) := (blk_cell CB1.out 2).trans rfl))
        go_ret
        exact ⟨rfl, HB.out⟩
      · have c2b : decide (2147483647 < a0_1) = false := decide_eq_false c2
        have C2 := Aside0.mk c2
        clear c2
        by_cases c3 : a0_2 < 0
        · have c3b : decide (a0_2 < 0) = true := decide_eq_true c3
          have hno : decide (FormedC l0_0 a0_1 a0_2) = false := decide_eq_false (fun h => by have := h.2.2.2.1; omega)
          clear c3
          obtain rfl : r = false := HRR.out.symm.trans hno
          go_enter Tryd.func16, Tryd.ntmps16
          go_wp2_with (first
            | ((with_reducible refine gate_dst (N := 1) rfl ?_); refine box_event ?hg (N := 1) ?hd (cs := #[.slice A0_0 l0_0.length c0_0, .int .i64 a0_1, .int .i64 a0_2]) (t := 27) ?hr ?_; (case hd => rfl); (case hg => rfl); (case hr => first | (go_simp; done) | (go_simp; rfl)); intro g1 hg1 w1 hbox hb; have HB_ := Aside0.mk (below_step HB.out hb); have CB1 := Aside0.mk hbox; clear hb hbox hg1 HB; have HB := HB_; clear HB_; have v10 : w1.cell? ⟨g1, 0, none⟩ = some (.slice A0_0 l0_0.length c0_0) := (blk_cell CB1.out 0).trans rfl; have v11 : w1.cell? ⟨g1, 1, none⟩ = some (.int .i64 a0_1) := (blk_cell CB1.out 1).trans rfl; have v12 : w1.cell? ⟨g1, 2, none⟩ = some (.int .i64 a0_2) := (blk_cell CB1.out 2).trans rfl))
          go_ret
          exact ⟨rfl, HB.out⟩
        · have c3b : decide (a0_2 < 0) = false := decide_eq_false c3
          have C3 := Aside0.mk c3
          clear c3
          by_cases c4 : 1099511627776 < a0_2
          · have c4b : decide (1099511627776 < a0_2) = true := decide_eq_true c4
            have hno : decide (FormedC l0_0 a0_1 a0_2) = false := decide_eq_false (fun h => by have := h.2.2.2.2.1; omega)
            clear c4
            obtain rfl : r = false := HRR.out.symm.trans hno
            go_enter Tryd.func16, Tryd.ntmps16
            go_wp2_with (first
              | ((with_reducible refine gate_dst (N := 1) rfl ?_); refine box_event ?hg (N := 1) ?hd (cs := #[.slice A0_0 l0_0.length c0_0, .int .i64 a0_1, .int .i64 a0_2]) (t := 27) ?hr ?_; (case hd => rfl); (case hg => rfl); (case hr => first | (go_simp; done) | (go_simp; rfl)); intro g1 hg1 w1 hbox hb; have HB_ := Aside0.mk (below_step HB.out hb); have CB1 := Aside0.mk hbox; clear hb hbox hg1 HB; have HB := HB_; clear HB_; have v10 : w1.cell? ⟨g1, 0, none⟩ = some (.slice A0_0 l0_0.length c0_0) := (blk_cell CB1.out 0).trans rfl; have v11 : w1.cell? ⟨g1, 1, none⟩ = some (.int .i64 a0_1) := (blk_cell CB1.out 1).trans rfl; have v12 : w1.cell? ⟨g1, 2, none⟩ = some (.int .i64 a0_2) := (blk_cell CB1.out 2).trans rfl))
            go_ret
            exact ⟨rfl, HB.out⟩
          · have c4b : decide (1099511627776 < a0_2) = false := decide_eq_false c4
            have C4 := Aside0.mk c4
            clear c4
            go_enter Tryd.func16, Tryd.ntmps16
            go_upto_region 3 with (first
              | ((with_reducible refine gate_dst (N := 1) rfl ?_); refine box_event ?hg (N := 1) ?hd (cs := #[.slice A0_0 l0_0.length c0_0, .int .i64 a0_1, .int .i64 a0_2]) (t := 27) ?hr ?_; (case hd => rfl); (case hg => rfl); (case hr => first | (go_simp; done) | (go_simp; rfl)); intro g1 hg1 w1 hbox hb; have HB_ := Aside0.mk (below_step HB.out hb); have CB1 := Aside0.mk hbox; clear hb hbox hg1 HB; have HB := HB_; clear HB_; have v10 : w1.cell? ⟨g1, 0, none⟩ = some (.slice A0_0 l0_0.length c0_0) := (blk_cell CB1.out 0).trans rfl; have v11 : w1.cell? ⟨g1, 1, none⟩ = some (.int .i64 a0_1) := (blk_cell CB1.out 1).trans rfl; have v12 : w1.cell? ⟨g1, 2, none⟩ = some (.int .i64 a0_2) := (blk_cell CB1.out 2).trans rfl))
            go_wp2
            go_loopw [3] (fun v3 w' => ∃ i : Nat, v3 = .int .i64 i ∧ i ≤ l0_0.length ∧ Aside0 (∀ j, j < i → okC l0_0 a0_1 a0_2 j) ∧ Aside0 (w'.heap[g1]? = some (.cells #[.slice A0_0 l0_0.length c0_0, .int .i64 a0_1, .int .i64 a0_2] 27 (0, 0))) ∧ Aside0 (Below w.heap.size w w')) (fun v3 _ => l0_0.length - (intOf v3).toNat)
            case atStart => exact ⟨0, rfl, Nat.zero_le _, ⟨fun j hj => absurd hj (Nat.not_lt_zero j)⟩, CB1, HB⟩
            case round =>
              clear CB1 HB v10 v11 v12 c0b c1b c2b c3b c4b
              obtain ⟨i, rfl, hil, HOK, CB1, HB⟩ := hrel
              have v10 : wr.cell? ⟨g1, 0, none⟩ = some (.slice A0_0 l0_0.length c0_0) := (blk_cell CB1.out 0).trans rfl
              have v11 : wr.cell? ⟨g1, 1, none⟩ = some (.int .i64 a0_1) := (blk_cell CB1.out 1).trans rfl
              have v12 : wr.cell? ⟨g1, 2, none⟩ = some (.int .i64 a0_2) := (blk_cell CB1.out 2).trans rfl
              by_cases cs : i < l0_0.length
              · have csd := decide_eq_true (show (i : Int) < (l0_0.length : Int) by omega)
                obtain ⟨ad, rfl, hx0, hx1, hx2, hx3⟩ := at_T63 HR.out (i : Int) (by omega) (by omega)
                obtain ⟨x, hx⟩ : ∃ x, x = rd_T63 l0_0 (i : Int) := ⟨_, rfl⟩
                have HX := Aside0.mk hx
                rw [← hx] at hx0 hx1 hx2 hx3
                replace hx0 := (HB.out.cell (World.block_lt_of_cell? w _ hx0)).trans hx0
                replace hx1 := (HB.out.cell (World.block_lt_of_cell? w _ hx1)).trans hx1
                replace hx2 := (HB.out.cell (World.block_lt_of_cell? w _ hx2)).trans hx2
                replace hx3 := (HB.out.cell (World.block_lt_of_cell? w _ hx3)).trans hx3
                rw [Int.toNat_natCast] at hx0 hx1 hx2 hx3
                clear hx
                have q0 := eq_true (show (0 : Int) ≤ (i : Int) by omega)
                have q1 := eq_true (show (i : Int) < (l0_0.length : Int) by omega)
                have hwr : IntKind.i64.wrap ((i : Int) + 1) = ((i + 1 : Nat) : Int) := by rw [IntKind.wrap_i64]; have := HL.out; omega
                have HE := Aside0.mk (endC_ge HOK.out)
                go_upto_region 7 with (first
                  | fail)
                have BX := Aside0.mk (blk_new wr (.cells #[.int .i64 x.f0, .int .i64 x.f1, .int .i64 x.f2, .int .i64 x.f3] 63 (0, 0)))
                have CB1_ := Aside0.mk (blk_alloc CB1.out (.cells #[.int .i64 x.f0, .int .i64 x.f1, .int .i64 x.f2, .int .i64 x.f3] 63 (0, 0)))
                have HB_ := Aside0.mk (below_alloc HB.out (.cells #[.int .i64 x.f0, .int .i64 x.f1, .int .i64 x.f2, .int .i64 x.f3] 63 (0, 0)))
                clear CB1 HB hx0 hx1 hx2 hx3 v10 v11 v12
                generalize wr.alloc (.cells #[.int .i64 x.f0, .int .i64 x.f1, .int .i64 x.f2, .int .i64 x.f3] 63 (0, 0)) = W2 at *
                generalize wr.heap.size = g4 at *
                have HB := HB_
                have CB1 := CB1_
                clear HB_ CB1_
                have v10 : W2.cell? ⟨g1, 0, none⟩ = some (.slice (some ad) l0_0.length c0_0) := (blk_cell CB1.out 0).trans rfl
                have v11 : W2.cell? ⟨g1, 1, none⟩ = some (.int .i64 a0_1) := (blk_cell CB1.out 1).trans rfl
                have v12 : W2.cell? ⟨g1, 2, none⟩ = some (.int .i64 a0_2) := (blk_cell CB1.out 2).trans rfl
                have y0 : W2.cell? ⟨g4, 0, none⟩ = some (.int .i64 x.f0) := (blk_cell BX.out 0).trans rfl
                have y1 : W2.cell? ⟨g4, 1, none⟩ = some (.int .i64 x.f1) := (blk_cell BX.out 1).trans rfl
                have y2 : W2.cell? ⟨g4, 2, none⟩ = some (.int .i64 x.f2) := (blk_cell BX.out 2).trans rfl
                have y3 : W2.cell? ⟨g4, 3, none⟩ = some (.int .i64 x.f3) := (blk_cell BX.out 3).trans rfl
                by_cases i0 : i = 0
                · have hE := Aside0.mk (show endC l0_0 i = -1 by unfold endC; rw [if_pos i0])
                  have i0d : decide ((0 : Int) < (i : Int)) = false := decide_eq_false (by omega)
                  have i0n : (0 < i) = False := eq_false (by omega)
                  have HI0 := Aside0.mk i0
                  clear i0
                  by_cases d0 : x.f0 < 0
                  · have d0b : decide (x.f0 < 0) = true := decide_eq_true d0
                    have hno : decide (FormedC l0_0 a0_1 a0_2) = false := formed_not cs (fun h => by unfold okC at h; rw [← HX.out] at h; have := h.1; omega)
                    clear d0
                    go_quiet (fail)
                    have HB7 := Aside0.mk (pw_below_drewN HB.out nq)
                    go_wp2
                    go_ret
                    obtain rfl : r = false := HRR.out.symm.trans hno
                    exact ⟨rfl, HB7.out⟩
                  · have d0b : decide (x.f0 < 0) = false := decide_eq_false d0
                    have D0 := Aside0.mk d0
                    clear d0
                    by_cases d1 : a0_1 ≤ x.f0
                    · have d1b : decide (a0_1 ≤ x.f0) = true := decide_eq_true d1
                      have hno : decide (FormedC l0_0 a0_1 a0_2) = false := formed_not cs (fun h => by unfold okC at h; rw [← HX.out] at h; have := h.2.1; omega)
                      clear d1
                      go_quiet (fail)
                      have HB7 := Aside0.mk (pw_below_drewN HB.out nq)
                      go_wp2
                      go_ret
                      obtain rfl : r = false := HRR.out.symm.trans hno
                      exact ⟨rfl, HB7.out⟩
                    · have d1b : decide (a0_1 ≤ x.f0) = false := decide_eq_false d1
                      have D1 := Aside0.mk d1
                      clear d1
                      by_cases d2 : x.f1 < 0
                      · have d2b : decide (x.f1 < 0) = true := decide_eq_true d2
                        have hno : decide (FormedC l0_0 a0_1 a0_2) = false := formed_not cs (fun h => by unfold okC at h; rw [← HX.out] at h; have := h.2.2.2.1; have := HE.out; omega)
                        clear d2
                        go_quiet (fail)
                        have HB7 := Aside0.mk (pw_below_drewN HB.out nq)
                        go_wp2
                        go_ret
                        obtain rfl : r = false := HRR.out.symm.trans hno
                        exact ⟨rfl, HB7.out⟩
                      · have d2b : decide (x.f1 < 0) = false := decide_eq_false d2
                        have D2 := Aside0.mk d2
                        clear d2
                        by_cases d3 : x.f2 < x.f1
                        · have d3b : decide (x.f2 < x.f1) = true := decide_eq_true d3
                          have hno : decide (FormedC l0_0 a0_1 a0_2) = false := formed_not cs (fun h => by unfold okC at h; rw [← HX.out] at h; have := h.2.2.2.2.1; omega)
                          clear d3
                          go_quiet (fail)
                          have HB7 := Aside0.mk (pw_below_drewN HB.out nq)
                          go_wp2
                          go_ret
                          obtain rfl : r = false := HRR.out.symm.trans hno
                          exact ⟨rfl, HB7.out⟩
                        · have d3b : decide (x.f2 < x.f1) = false := decide_eq_false d3
                          have D3 := Aside0.mk d3
                          clear d3
                          by_cases d4 : a0_2 ≤ x.f2
                          · have d4b : decide (a0_2 ≤ x.f2) = true := decide_eq_true d4
                            have hno : decide (FormedC l0_0 a0_1 a0_2) = false := formed_not cs (fun h => by unfold okC at h; rw [← HX.out] at h; have := h.2.2.2.2.2.1; omega)
                            clear d4
                            go_quiet (fail)
                            have HB7 := Aside0.mk (pw_below_drewN HB.out nq)
                            go_wp2
                            go_ret
                            obtain rfl : r = false := HRR.out.symm.trans hno
                            exact ⟨rfl, HB7.out⟩
                          · have d4b : decide (a0_2 ≤ x.f2) = false := decide_eq_false d4
                            have D4 := Aside0.mk d4
                            clear d4
                            by_cases d5 : x.f3 < 1
                            · have d5b : decide (x.f3 < 1) = true := decide_eq_true d5
                              have hno : decide (FormedC l0_0 a0_1 a0_2) = false := formed_not cs (fun h => by unfold okC at h; rw [← HX.out] at h; have := h.2.2.2.2.2.2.1; omega)
                              clear d5
                              go_quiet (fail)
                              have HB7 := Aside0.mk (pw_below_drewN HB.out nq)
                              go_wp2
                              go_ret
                              obtain rfl : r = false := HRR.out.symm.trans hno
                              exact ⟨rfl, HB7.out⟩
                            · have d5b : decide (x.f3 < 1) = false := decide_eq_false d5
                              have D5 := Aside0.mk d5
                              clear d5
                              by_cases d6 : 4096 < x.f3
                              · have d6b : decide (4096 < x.f3) = true := decide_eq_true d6
                                have hno : decide (FormedC l0_0 a0_1 a0_2) = false := formed_not cs (fun h => by unfold okC at h; rw [← HX.out] at h; have := h.2.2.2.2.2.2.2.1; omega)
                                clear d6
                                go_quiet (fail)
                                have HB7 := Aside0.mk (pw_below_drewN HB.out nq)
                                go_wp2
                                go_ret
                                obtain rfl : r = false := HRR.out.symm.trans hno
                                exact ⟨rfl, HB7.out⟩
                              · have d6b : decide (4096 < x.f3) = false := decide_eq_false d6
                                have D6 := Aside0.mk d6
                                clear d6
                                have hsb : wrap64 (x.f2 - x.f1) = x.f2 - x.f1 := by have := D2.out; have := D3.out; have := D4.out; have := C4.out; unfold wrap64; omega
                                have hsc : wrap64 (x.f3 - 1) = x.f3 - 1 := by have := D5.out; have := D6.out; unfold wrap64; omega
                                by_cases d7 : x.f2 - x.f1 < x.f3 - 1
                                · have d7b : decide (x.f2 - x.f1 < x.f3 - 1) = true := decide_eq_true d7
                                  have hno : decide (FormedC l0_0 a0_1 a0_2) = false := formed_not cs (fun h => by unfold okC at h; rw [← HX.out] at h; have := h.2.2.2.2.2.2.2.2; omega)
                                  clear d7
                                  go_quiet (fail)
                                  have HB7 := Aside0.mk (pw_below_drewN HB.out nq)
                                  go_wp2
                                  go_ret
                                  obtain rfl : r = false := HRR.out.symm.trans hno
                                  exact ⟨rfl, HB7.out⟩
                                · have d7b : decide (x.f2 - x.f1 < x.f3 - 1) = false := decide_eq_false d7
                                  have D7 := Aside0.mk d7
                                  clear d7
                                  have HOKI := Aside0.mk (show (∀ k, k < i → (rd_T63 l0_0 (k : Int)).f0 ≠ x.f0) → okC l0_0 a0_1 a0_2 i from fun hne => by
                                    unfold okC
                                    rw [← HX.out]
                                    have d0_ := D0.out
                                    have d1_ := D1.out
                                    have d2_ := D2.out
                                    have d3_ := D3.out
                                    have d4_ := D4.out
                                    have d5_ := D5.out
                                    have d6_ := D6.out
                                    have d7_ := D7.out
                                    exact ⟨by omega, by omega, hne, by rw [hE.out]; omega, by omega, by omega, by omega, by omega, by omega⟩)
                                  go_quiet (fail)
                                  have HB_ := Aside0.mk (pw_below_drewN HB.out nq)
                                  have CB1_ := Aside0.mk (blk_drewN CB1.out nq)
                                  have BX_ := Aside0.mk (blk_drewN BX.out nq)
                                  clear HB CB1 BX v10 v11 v12 y0 y1 y2 y3 
                                  generalize W2.drewN nq = W3 at *
                                  go_wp2
                                  go_loopw [5] (fun v5 w' => ∃ t : Nat, v5 = .int .i64 t ∧ t ≤ i ∧ Aside0 (∀ s, s < t → (rd_T63 l0_0 (s : Int)).f0 ≠ x.f0) ∧ Aside0 (w'.heap[g1]? = some (.cells #[.slice (some ad) l0_0.length c0_0, .int .i64 a0_1, .int .i64 a0_2] 27 (0, 0))) ∧ Aside0 (w'.heap[g4]? = some (.cells #[.int .i64 x.f0, .int .i64 x.f1, .int .i64 x.f2, .int .i64 x.f3] 63 (0, 0))) ∧ Aside0 (Below w.heap.size w w')) (fun v5 _ => i - (intOf v5).toNat)
                                  case atStart => exact ⟨0, rfl, Nat.zero_le _, ⟨fun s hs => absurd hs (Nat.not_lt_zero s)⟩, CB1_, BX_, HB_⟩
                                  case round =>
                                    clear CB1_ BX_ HB_
                                    obtain ⟨t, rfl, hti, HNE, CB1, BX, HB⟩ := hrel
                                    by_cases ct : t < i
                                    · exact absurd ct (by have := HI0.out; omega)
                                    · obtain rfl : t = i := by omega
                                      have ctd : decide ((t : Int) < (t : Int)) = false := decide_eq_false (Int.lt_irrefl _)
                                      have hoki := HOKI.out HNE.out
                                      go_wp2
                                      go_roundw
                                      · exact ⟨t + 1, by rw [HI0.out]; rfl, cs, ⟨fun s hs => by rcases Nat.lt_or_eq_of_le (Nat.lt_succ_iff.1 hs) with h3 | h3; exact HOK.out s h3; rw [h3]; exact hoki⟩, CB1, HB⟩
                                      · show l0_0.length - (((t : Int) + 1)).toNat < l0_0.length - (t : Int).toNat
                                        omega
                · have hE := Aside0.mk (show endC l0_0 i = (rd_T63 l0_0 ((i - 1 : Nat) : Int)).f2 by unfold endC; rw [if_neg i0])
                  have i0d : decide ((0 : Int) < (i : Int)) = true := decide_eq_true (by omega)
                  have i0n : (0 < i) = True := eq_true (by omega)
                  obtain ⟨j, hj⟩ : ∃ j, j = (i : Int) - 1 := ⟨_, rfl⟩
                  have hwr0 : IntKind.i64.wrap ((i : Int) - 1) = j := by have := HL.out; rw [IntKind.wrap_i64]; omega
                  have hwr1 : wrap64 ((i : Int) - 1) = j := by have := HL.out; unfold wrap64; omega
                  have HJ := Aside0.mk (show ((i - 1 : Nat) : Int) = j by omega)
                  have i1a : (0 : Int) ≤ j := by omega
                  have i1b : j < l0_0.length := by omega
                  clear hj
                  obtain ⟨ad2, ead, hp0, hp1, hp2, hp3⟩ := at_T63 HR.out j i1a i1b
                  replace i1a := eq_true i1a
                  replace i1b := eq_true i1b
                  cases ead
                  replace hp2 := (HB.out.cell (World.block_lt_of_cell? w _ hp2)).trans hp2
                  clear hp0 hp1 hp3
                  obtain ⟨y, hyy⟩ : ∃ y, y = rd_T63 l0_0 j := ⟨_, rfl⟩
                  have HY := Aside0.mk hyy
                  rw [← hyy] at hp2
                  clear hyy
                  by_cases d0 : x.f0 < 0
                  · have d0b : decide (x.f0 < 0) = true := decide_eq_true d0
                    have hno : decide (FormedC l0_0 a0_1 a0_2) = false := formed_not cs (fun h => by unfold okC at h; rw [← HX.out] at h; have := h.1; omega)
                    clear d0
                    go_quiet (fail)
                    have HB7 := Aside0.mk (pw_below_drewN HB.out nq)
                    go_wp2
                    go_ret
                    obtain rfl : r = false := HRR.out.symm.trans hno
                    exact ⟨rfl, HB7.out⟩
                  · have d0b : decide (x.f0 < 0) = false := decide_eq_false d0
                    have D0 := Aside0.mk d0
                    clear d0
                    by_cases d1 : a0_1 ≤ x.f0
                    · have d1b : decide (a0_1 ≤ x.f0) = true := decide_eq_true d1
                      have hno : decide (FormedC l0_0 a0_1 a0_2) = false := formed_not cs (fun h => by unfold okC at h; rw [← HX.out] at h; have := h.2.1; omega)
                      clear d1
                      go_quiet (fail)
                      have HB7 := Aside0.mk (pw_below_drewN HB.out nq)
                      go_wp2
                      go_ret
                      obtain rfl : r = false := HRR.out.symm.trans hno
                      exact ⟨rfl, HB7.out⟩
                    · have d1b : decide (a0_1 ≤ x.f0) = false := decide_eq_false d1
                      have D1 := Aside0.mk d1
                      clear d1
                      by_cases d2 : x.f1 < 0
                      · have d2b : decide (x.f1 < 0) = true := decide_eq_true d2
                        have hno : decide (FormedC l0_0 a0_1 a0_2) = false := formed_not cs (fun h => by unfold okC at h; rw [← HX.out] at h; have := h.2.2.2.1; have := HE.out; omega)
                        clear d2
                        go_quiet (fail)
                        have HB7 := Aside0.mk (pw_below_drewN HB.out nq)
                        go_wp2
                        go_ret
                        obtain rfl : r = false := HRR.out.symm.trans hno
                        exact ⟨rfl, HB7.out⟩
                      · have d2b : decide (x.f1 < 0) = false := decide_eq_false d2
                        have D2 := Aside0.mk d2
                        clear d2
                        by_cases d3 : x.f2 < x.f1
                        · have d3b : decide (x.f2 < x.f1) = true := decide_eq_true d3
                          have hno : decide (FormedC l0_0 a0_1 a0_2) = false := formed_not cs (fun h => by unfold okC at h; rw [← HX.out] at h; have := h.2.2.2.2.1; omega)
                          clear d3
                          go_quiet (fail)
                          have HB7 := Aside0.mk (pw_below_drewN HB.out nq)
                          go_wp2
                          go_ret
                          obtain rfl : r = false := HRR.out.symm.trans hno
                          exact ⟨rfl, HB7.out⟩
                        · have d3b : decide (x.f2 < x.f1) = false := decide_eq_false d3
                          have D3 := Aside0.mk d3
                          clear d3
                          by_cases d4 : a0_2 ≤ x.f2
                          · have d4b : decide (a0_2 ≤ x.f2) = true := decide_eq_true d4
                            have hno : decide (FormedC l0_0 a0_1 a0_2) = false := formed_not cs (fun h => by unfold okC at h; rw [← HX.out] at h; have := h.2.2.2.2.2.1; omega)
                            clear d4
                            go_quiet (fail)
                            have HB7 := Aside0.mk (pw_below_drewN HB.out nq)
                            go_wp2
                            go_ret
                            obtain rfl : r = false := HRR.out.symm.trans hno
                            exact ⟨rfl, HB7.out⟩
                          · have d4b : decide (a0_2 ≤ x.f2) = false := decide_eq_false d4
                            have D4 := Aside0.mk d4
                            clear d4
                            by_cases d5 : x.f3 < 1
                            · have d5b : decide (x.f3 < 1) = true := decide_eq_true d5
                              have hno : decide (FormedC l0_0 a0_1 a0_2) = false := formed_not cs (fun h => by unfold okC at h; rw [← HX.out] at h; have := h.2.2.2.2.2.2.1; omega)
                              clear d5
                              go_quiet (fail)
                              have HB7 := Aside0.mk (pw_below_drewN HB.out nq)
                              go_wp2
                              go_ret
                              obtain rfl : r = false := HRR.out.symm.trans hno
                              exact ⟨rfl, HB7.out⟩
                            · have d5b : decide (x.f3 < 1) = false := decide_eq_false d5
                              have D5 := Aside0.mk d5
                              clear d5
                              by_cases d6 : 4096 < x.f3
                              · have d6b : decide (4096 < x.f3) = true := decide_eq_true d6
                                have hno : decide (FormedC l0_0 a0_1 a0_2) = false := formed_not cs (fun h => by unfold okC at h; rw [← HX.out] at h; have := h.2.2.2.2.2.2.2.1; omega)
                                clear d6
                                go_quiet (fail)
                                have HB7 := Aside0.mk (pw_below_drewN HB.out nq)
                                go_wp2
                                go_ret
                                obtain rfl : r = false := HRR.out.symm.trans hno
                                exact ⟨rfl, HB7.out⟩
                              · have d6b : decide (4096 < x.f3) = false := decide_eq_false d6
                                have D6 := Aside0.mk d6
                                clear d6
                                have hsb : wrap64 (x.f2 - x.f1) = x.f2 - x.f1 := by have := D2.out; have := D3.out; have := D4.out; have := C4.out; unfold wrap64; omega
                                have hsc : wrap64 (x.f3 - 1) = x.f3 - 1 := by have := D5.out; have := D6.out; unfold wrap64; omega
                                by_cases d7 : x.f2 - x.f1 < x.f3 - 1
                                · have d7b : decide (x.f2 - x.f1 < x.f3 - 1) = true := decide_eq_true d7
                                  have hno : decide (FormedC l0_0 a0_1 a0_2) = false := formed_not cs (fun h => by unfold okC at h; rw [← HX.out] at h; have := h.2.2.2.2.2.2.2.2; omega)
                                  clear d7
                                  go_quiet (fail)
                                  have HB7 := Aside0.mk (pw_below_drewN HB.out nq)
                                  go_wp2
                                  go_ret
                                  obtain rfl : r = false := HRR.out.symm.trans hno
                                  exact ⟨rfl, HB7.out⟩
                                · have d7b : decide (x.f2 - x.f1 < x.f3 - 1) = false := decide_eq_false d7
                                  have D7 := Aside0.mk d7
                                  clear d7
                                  by_cases d8 : x.f1 ≤ y.f2
                                  · have d8b : decide (x.f1 ≤ y.f2) = true := decide_eq_true d8
                                    have hno : decide (FormedC l0_0 a0_1 a0_2) = false := formed_not cs (fun h => by unfold okC at h; rw [← HX.out] at h; have := h.2.2.2.1; rw [hE.out, HJ.out, ← HY.out] at this; omega)
                                    clear d8
                                    go_quiet (fail)
                                    have HB7 := Aside0.mk (pw_below_drewN HB.out nq)
                                    go_wp2
                                    go_ret
                                    obtain rfl : r = false := HRR.out.symm.trans hno
                                    exact ⟨rfl, HB7.out⟩
                                  · have d8b : decide (x.f1 ≤ y.f2) = false := decide_eq_false d8
                                    have D8 := Aside0.mk d8
                                    clear d8
                                    have HOKI := Aside0.mk (show (∀ k, k < i → (rd_T63 l0_0 (k : Int)).f0 ≠ x.f0) → okC l0_0 a0_1 a0_2 i from fun hne => by
                                      unfold okC
                                      rw [← HX.out]
                                      have d0_ := D0.out
                                      have d1_ := D1.out
                                      have d2_ := D2.out
                                      have d3_ := D3.out
                                      have d4_ := D4.out
                                      have d5_ := D5.out
                                      have d6_ := D6.out
                                      have d7_ := D7.out
                                      have d8_ := D8.out
                                      exact ⟨by omega, by omega, hne, by rw [hE.out, HJ.out, ← HY.out]; omega, by omega, by omega, by omega, by omega, by omega⟩)
                                    go_quiet (fail)
                                    have HB_ := Aside0.mk (pw_below_drewN HB.out nq)
                                    have CB1_ := Aside0.mk (blk_drewN CB1.out nq)
                                    have BX_ := Aside0.mk (blk_drewN BX.out nq)
                                    clear HB CB1 BX v10 v11 v12 y0 y1 y2 y3 hp2
                                    generalize W2.drewN nq = W3 at *
                                    go_wp2
                                    go_loopw [5] (fun v5 w' => ∃ t : Nat, v5 = .int .i64 t ∧ t ≤ i ∧ Aside0 (∀ s, s < t → (rd_T63 l0_0 (s : Int)).f0 ≠ x.f0) ∧ Aside0 (w'.heap[g1]? = some (.cells #[.slice (some ad) l0_0.length c0_0, .int .i64 a0_1, .int .i64 a0_2] 27 (0, 0))) ∧ Aside0 (w'.heap[g4]? = some (.cells #[.int .i64 x.f0, .int .i64 x.f1, .int .i64 x.f2, .int .i64 x.f3] 63 (0, 0))) ∧ Aside0 (Below w.heap.size w w')) (fun v5 _ => i - (intOf v5).toNat)
                                    case atStart => exact ⟨0, rfl, Nat.zero_le _, ⟨fun s hs => absurd hs (Nat.not_lt_zero s)⟩, CB1_, BX_, HB_⟩
                                    case round =>
                                      clear CB1_ BX_ HB_
                                      obtain ⟨t, rfl, hti, HNE, CB1, BX, HB⟩ := hrel
                                      by_cases ct : t < i
                                      · have ctd := decide_eq_true (show (t : Int) < (i : Int) by omega)
                                        have ctn := eq_true ct
                                        obtain ⟨ad3, ead, hs0, hs1, hs2, hs3⟩ := at_T63 HR.out (t : Int) (by omega) (by omega)
                                        cases ead
                                        rw [Int.toNat_natCast] at hs0
                                        obtain ⟨z, hz⟩ : ∃ z, z = (rd_T63 l0_0 (t : Int)).f0 := ⟨_, rfl⟩
                                        have HZ := Aside0.mk hz
                                        rw [← hz] at hs0
                                        replace hs0 := (HB.out.cell (World.block_lt_of_cell? w _ hs0)).trans hs0
                                        clear hs1 hs2 hs3 hz
                                        have s0 := eq_true (show (0 : Int) ≤ (t : Int) by omega)
                                        have s1 := eq_true (show (t : Int) < (l0_0.length : Int) by omega)
                                        have hwt : IntKind.i64.wrap ((t : Int) + 1) = ((t + 1 : Nat) : Int) := by rw [IntKind.wrap_i64]; have := HL.out; omega
                                        have v10 : wr.cell? ⟨g1, 0, none⟩ = some (.slice (some ad) l0_0.length c0_0) := (blk_cell CB1.out 0).trans rfl
                                        have y0 : wr.cell? ⟨g4, 0, none⟩ = some (.int .i64 x.f0) := (blk_cell BX.out 0).trans rfl
                                        by_cases ez : z = x.f0
                                        · have ezb : (z == x.f0) = true := beq_iff_eq.mpr ez
                                          have ezd : decide (z = x.f0) = true := decide_eq_true ez
                                          have hno : decide (FormedC l0_0 a0_1 a0_2) = false := formed_not cs (fun h => by unfold okC at h; rw [← HX.out] at h; exact h.2.2.1 t ct (HZ.out.symm.trans ez))
                                          clear ez
                                          go_upto_region 12 with (first
                                            | fail)
                                          go_quiet (fail)
                                          have HB7 := Aside0.mk (pw_below_drewN HB.out nq)
                                          go_wp2
                                          go_ret
                                          obtain rfl : r = false := HRR.out.symm.trans hno
                                          exact ⟨rfl, HB7.out⟩
                                        · have ezb : (z == x.f0) = false := beq_eq_false_iff_ne.mpr ez
                                          have ezd : decide (z = x.f0) = false := decide_eq_false ez
                                          have HEZ := Aside0.mk ez
                                          clear ez
                                          go_upto_region 12 with (first
                                            | fail)
                                          go_quiet (fail)
                                          have HB_ := Aside0.mk (pw_below_drewN HB.out nq)
                                          have CB1_ := Aside0.mk (blk_drewN CB1.out nq)
                                          have BX_ := Aside0.mk (blk_drewN BX.out nq)
                                          go_wp2
                                          go_roundw
                                          · exact ⟨t + 1, rfl, ct, ⟨fun s hs => by rcases Nat.lt_or_eq_of_le (Nat.lt_succ_iff.1 hs) with h3 | h3; exact HNE.out s h3; rw [h3]; exact fun h => HEZ.out (HZ.out.trans h)⟩, CB1_, BX_, HB_⟩
                                          · show i - (((t + 1 : Nat) : Int)).toNat < i - (t : Int).toNat
                                            omega
                                      · obtain rfl : t = i := by omega
                                        have ctd : decide ((t : Int) < (t : Int)) = false := decide_eq_false (Int.lt_irrefl _)
                                        have hoki := HOKI.out HNE.out
                                        go_wp2
                                        go_roundw
                                        · exact ⟨t + 1, rfl, cs, ⟨fun s hs => by rcases Nat.lt_or_eq_of_le (Nat.lt_succ_iff.1 hs) with h3 | h3; exact HOK.out s h3; rw [h3]; exact hoki⟩, CB1, HB⟩
                                        · show l0_0.length - (((t + 1 : Nat) : Int)).toNat < l0_0.length - (t : Int).toNat
                                          omega
              · obtain rfl : i = l0_0.length := by omega
                have csd : decide ((l0_0.length : Int) < (l0_0.length : Int)) = false := decide_eq_false (Int.lt_irrefl _)
                have hyes : decide (FormedC l0_0 a0_1 a0_2) = true := decide_eq_true ⟨by have := C0.out; omega, by have := C1.out; omega, by have := C2.out; omega, by have := C3.out; omega, by have := C4.out; omega, HOK.out⟩
                go_wp2
                go_ret
                obtain rfl : r = true := HRR.out.symm.trans hyes
                exact ⟨rfl, HB.out⟩
def dragnetref18_Copy.f (l0_0 : List (S63)) (a0_1 : Int) (a0_2 : Int) : Option ((List (S63)) × Int × Int) := (some (([] : List (S63)) : List (S63))).bind fun y172 => (if y172.length + l0_0.length < 4398046511104 then (some ((y172 ++ l0_0), a0_1, a0_2)) else (none))
set_option maxHeartbeats 8000000 in
set_option maxRecDepth 100000 in
theorem dragnetref18_Copy.calls (A0_0 : Option Addr) (c0_0 : Nat) (l0_0 : List (S63)) (a0_1 : Int) (a0_2 : Int) (r1 : List (S63)) (r2 : Int) (r3 : Int) (w : World) (hr0_0 : Kd.C k63 w A0_0 l0_0.length l0_0) (hc0_0 : l0_0.length ≤ c0_0) (h : dragnetref18_Copy.f l0_0 a0_1 a0_2 = some (r1, r2, r3)) :
    Calls Tryd.prog 18 #[.agg #[.slice A0_0 l0_0.length c0_0, .int .i64 a0_1, .int .i64 a0_2]] w fun e w' => ∃ v0_ : Value, e = .returned (.agg #[v0_, .int .i64 r2, .int .i64 r3]) ∧ Kd.R k63 63 w' w.heap.size (fun _ => True) v0_ r1 ∧ Below w.heap.size w w' := by
  have hu27 := Tryd.underlying27
  have HR0_0 := Aside0.mk hr0_0
  have HC0_0 := Aside0.mk hc0_0
  clear hr0_0 hc0_0
  have HB := Aside0.mk (Below.refl w.heap.size w)
  have H : ((some (([] : List (S63)) : List (S63))).bind fun y172 => (if y172.length + l0_0.length < 4398046511104 then (some ((y172 ++ l0_0), a0_1, a0_2)) else (none))) = some (r1, r2, r3) := h
  clear h
  obtain ⟨y172, hy172⟩ : ∃ y_ : List (S63), y_ = (([] : List (S63))) := ⟨_, rfl⟩
  replace H : (if y172.length + l0_0.length < 4398046511104 then (some ((y172 ++ l0_0), a0_1, a0_2)) else (none)) = some (r1, r2, r3) := by first | (rw [hy172]; with_reducible exact H) | (have H2_ := (Option.bind_some _ _).symm.trans H; rw [hy172]; with_reducible exact H2_) | (have H2_ := (Option.bind_some _ _).symm.trans H; with_reducible exact H2_) | with_reducible exact H | (rw [hy172]; exact H) | exact H
  have Ny172 := Aside0.mk hy172
  clear hy172
  by_cases c2 : y172.length + l0_0.length < 4398046511104
  · rw [if_pos c2] at H
    have LMc2 := Aside0.mk c2
    clear c2
    obtain ⟨y175, hy175⟩ : ∃ y_ : List (S63), y_ = (y172 ++ l0_0) := ⟨_, rfl⟩
    replace H : (some (y175, a0_1, a0_2)) = some (r1, r2, r3) := by first | (rw [hy175]; with_reducible exact H) | (have H2_ := (Option.bind_some _ _).symm.trans H; rw [hy175]; with_reducible exact H2_) | (have H2_ := (Option.bind_some _ _).symm.trans H; with_reducible exact H2_) | with_reducible exact H | (rw [hy175]; exact H) | exact H
    have Ny175 := Aside0.mk hy175
    clear hy175
    simp only [Option.some.injEq, Prod.mk.injEq] at H
    obtain ⟨rfl, rfl, rfl⟩ := H
    go_enter Tryd.func18, Tryd.ntmps18
    go_wp2_with (first | ((with_reducible refine gate_dst (N := 1) rfl ?_); refine box_event ?hg (N := 1) ?hd (cs := #[.slice A0_0 l0_0.length c0_0, .int .i64 a0_1, .int .i64 a0_2]) (t := 27) ?hr ?_; (case hd => rfl); (case hg => rfl); (case hr => first | (go_simp; done) | (go_simp; rfl)); intro gb170 hg w3 hbox hb; have n0_ := Aside0.mk (below_step (by repeat (first | (with_reducible first | exact HB.out | apply below_alloc | apply pw_below_drewN | apply below_drew1) | exact HB.out)) hb); have n1_ := Aside0.mk (hbox); have n2_ := Aside0.mk ((by rw [hg]; exact (below_size (by repeat (first | (with_reducible first | exact HB.out | apply below_alloc | apply pw_below_drewN | apply below_drew1) | exact HB.out))) : w.heap.size ≤ gb170)); have n3_ := Aside0.mk ((by rw [hg]; exact (below_size (by repeat (first | (with_reducible first | exact HB.out | apply below_alloc | apply pw_below_drewN | apply below_drew1) | exact HB.out))) : w.heap.size ≤ gb170)); clear HB; have HB := n0_; have BK170 := n1_; have GW170 := n2_; have GE170 := n3_; clear n0_ n1_ n2_ n3_; clear hb hbox hg) | ((with_reducible refine gate_dst (N := 2) rfl ?_); refine box_event ?hg (N := 2) ?hd (cs := #[.slice none 0 0, .int .i64 0, .int .i64 0]) (t := 27) ?hr ?_; (case hd => rfl); (case hg => rfl); (case hr => first | (go_simp; done) | (go_simp; rfl)); intro gb171 hg w4 hbox hb; have n0_ := Aside0.mk (blk_below (g := gb170) (o := .cells #[.slice A0_0 l0_0.length c0_0, .int .i64 a0_1, .int .i64 a0_2] 27 (0, 0)) (by (with_reducible repeat (first | refine blk_drewN ?_ _ | refine blk_drew ?_ | refine blk_alloc ?_ _)); exact BK170.out) hb); have n1_ := Aside0.mk (below_step (by repeat (first | (with_reducible first | exact HB.out | apply below_alloc | apply pw_below_drewN | apply below_drew1 | refine below_set ?_ GE170.out) | exact HB.out)) hb); have n2_ := Aside0.mk (hbox); have n3_ := Aside0.mk ((by rw [hg]; exact (below_size (by repeat (first | (with_reducible first | exact HB.out | apply below_alloc | apply pw_below_drewN | apply below_drew1 | refine below_set ?_ GE170.out) | exact HB.out))) : w.heap.size ≤ gb171)); have n4_ := Aside0.mk ((by rw [hg]; exact (below_size (by repeat (first | (with_reducible first | exact HB.out | apply below_alloc | apply pw_below_drewN | apply below_drew1 | refine below_set ?_ GE170.out) | exact HB.out))) : w.heap.size ≤ gb171)); have n5_ := Aside0.mk ((by rw [hg]; exact Nat.ne_of_lt (blk_lt (g := gb170) (o := .cells #[.slice A0_0 l0_0.length c0_0, .int .i64 a0_1, .int .i64 a0_2] 27 (0, 0)) (by (with_reducible repeat (first | refine blk_drewN ?_ _ | refine blk_drew ?_ | refine blk_alloc ?_ _)); exact BK170.out)) : gb170 ≠ gb171)); have n6_ := Aside0.mk ((by rw [hg]; exact Nat.ne_of_gt (blk_lt (g := gb170) (o := .cells #[.slice A0_0 l0_0.length c0_0, .int .i64 a0_1, .int .i64 a0_2] 27 (0, 0)) (by (with_reducible repeat (first | refine blk_drewN ?_ _ | refine blk_drew ?_ | refine blk_alloc ?_ _)); exact BK170.out)) : gb171 ≠ gb170)); clear BK170; clear HB; have BK170 := n0_; have HB := n1_; have BK171 := n2_; have GW171 := n3_; have GE171 := n4_; have NB170_171 := n5_; have NB171_170 := n6_; clear n0_ n1_ n2_ n3_ n4_ n5_ n6_; clear hb hbox hg) | ((with_reducible refine gate_dst (N := 3) rfl ?_); refine Kd.R_lit k63 _ 63 ?hg (N := 3) ?hd (xs := ([] : List (S63))) (inner := []) (ok := fun _ => True) (okp := fun _ => True) ?hr ?hp (fun _ hk => hk) trivial (Below.refl _ _) (Nat.le_refl _) (by simp) ?_; (case hd => rfl); (case hg => rfl); (case hr => first | (go_simp; done) | (go_simp; rfl)); (case hp => exact (Reps.none _ _)); intro v173 w5 ho6 hb hg_ hnew_; clear hg_ hnew_; (first | rw [← Ny172.out] at ho6 | (simp only [Int.reduceToNat] at ho6; rw [← Ny172.out] at ho6)); have n0_ := Aside0.mk (Kd.R_lower ho6 (below_size (by repeat (first | (with_reducible first | exact HB.out | apply below_alloc | apply pw_below_drewN | apply below_drew1 | refine below_set ?_ GE170.out | refine below_set ?_ GE171.out) | exact HB.out)))); have n1_ := Aside0.mk (blk_below (g := gb170) (o := .cells #[.slice A0_0 l0_0.length c0_0, .int .i64 a0_1, .int .i64 a0_2] 27 (0, 0)) (by (with_reducible repeat (first | refine blk_drewN ?_ _ | refine blk_drew ?_ | refine blk_alloc ?_ _)); exact BK170.out) hb); have n2_ := Aside0.mk (blk_below (g := gb171) (o := .cells #[.slice none 0 0, .int .i64 0, .int .i64 0] 27 (0, 0)) (by (with_reducible repeat (first | refine blk_drewN ?_ _ | refine blk_drew ?_ | refine blk_alloc ?_ _)); exact BK171.out) hb); have n3_ := Aside0.mk (below_step (by repeat (first | (with_reducible first | exact HB.out | apply below_alloc | apply pw_below_drewN | apply below_drew1 | refine below_set ?_ GE170.out | refine below_set ?_ GE171.out) | exact HB.out)) hb); clear BK170; clear BK171; clear HB; have HO174 := n0_; have BK170 := n1_; have BK171 := n2_; have HB := n3_; clear n0_ n1_ n2_ n3_; clear hb ho6; have hnb7 := NB170_171.out; have hnc7 := NB171_170.out; have hcz8_0 : w5.cell? ⟨gb170, 0, none⟩ = some (.slice A0_0 l0_0.length c0_0) := (blk_cell BK170.out 0).trans rfl; have hcz8_1 : w5.cell? ⟨gb170, 1, none⟩ = some (.int .i64 a0_1) := (blk_cell BK170.out 1).trans rfl; have hcz8_2 : w5.cell? ⟨gb170, 2, none⟩ = some (.int .i64 a0_2) := (blk_cell BK170.out 2).trans rfl; have hfz8_0 := blk_frozen BK170.out 0; have hfz8_1 := blk_frozen BK170.out 1; have hfz8_2 := blk_frozen BK170.out 2) | ((with_reducible refine gate_builtin (b := .append) (xs := #[.tmp 3, .tmp 5]) rfl ?_); at_builtin; refine Kd.R_append_rows k63 (w0 := w) w.heap.size rfl (.tmp 3) (.tmp 5) 25 63 (.agg #[(.int .i64 0), (.int .i64 0), (.int .i64 0), (.int .i64 0)]) 32 rfl Tryd.underlying25 info63 rfl (by decide) (by omega) v173 y172 l0_0 _ _ _ (fun _ => True) (fun _ => False) rfl rfl ?aO ?aR (fun _ _ h => h) (fun _ h => h.elim) ?aF ?aB ?aS ?aL ?_; (case aR => repeat (first | exact (Kd.C_below HR0_0.out HB.out) | (with_reducible refine Kd.C_alloc ?_ _) | (with_reducible refine Kd.C_drewN ?_ _) | (with_reducible refine Kd.C_drew ?_))); (case aB => exact (by repeat (first | (with_reducible first | exact HB.out | apply below_alloc | apply pw_below_drewN | apply below_drew1 | refine below_set ?_ GE170.out | refine below_set ?_ GE171.out) | exact HB.out))); (case aF => exact (fun _ _ => trivial)); (case aO => exact (by (with_reducible repeat (first | apply Kd.R_alloc | apply Kd.R_drewN | apply Kd.R_drew)); exact HO174.out)); (case aS => exact (below_size (by repeat (first | (with_reducible first | exact HB.out | apply below_alloc | apply pw_below_drewN | apply below_drew1 | refine below_set ?_ GE170.out | refine below_set ?_ GE171.out) | exact HB.out)))); (case aL => have := LMc2.out; omega); intro v176 w9 ho hb hg hat; rw [← Ny175.out] at ho; have n0_ := Aside0.mk (blk_grown (g := gb170) (o := .cells #[.slice A0_0 l0_0.length c0_0, .int .i64 a0_1, .int .i64 a0_2] 27 (0, 0)) (by (with_reducible repeat (first | refine blk_drewN ?_ _ | refine blk_drew ?_ | refine blk_alloc ?_ _)); exact BK170.out) hg (Kd.R_ne HO174.out BK170.out (by decide))); have n1_ := Aside0.mk (blk_grown (g := gb171) (o := .cells #[.slice none 0 0, .int .i64 0, .int .i64 0] 27 (0, 0)) (by (with_reducible repeat (first | refine blk_drewN ?_ _ | refine blk_drew ?_ | refine blk_alloc ?_ _)); exact BK171.out) hg (Kd.R_ne HO174.out BK171.out (by decide))); have n2_ := Aside0.mk (hb); have n3_ := Aside0.mk (ho); clear BK170; clear BK171; clear HB; clear HO174; have BK170 := n0_; have BK171 := n1_; have HB := n2_; have HO177 := n3_; clear n0_ n1_ n2_ n3_; clear ho hb hg hat; obtain ⟨Ao10, co10, eo10⟩ := Kd.R_slice HO177.out; subst eo10; have hcz11_0 : w9.cell? ⟨gb170, 0, none⟩ = some (.slice A0_0 l0_0.length c0_0) := (blk_cell BK170.out 0).trans rfl; have hcz11_1 : w9.cell? ⟨gb170, 1, none⟩ = some (.int .i64 a0_1) := (blk_cell BK170.out 1).trans rfl; have hcz11_2 : w9.cell? ⟨gb170, 2, none⟩ = some (.int .i64 a0_2) := (blk_cell BK170.out 2).trans rfl; have hfz11_0 := blk_frozen BK170.out 0; have hfz11_1 := blk_frozen BK170.out 1; have hfz11_2 := blk_frozen BK170.out 2; have hcz12_0 : w9.cell? ⟨gb171, 0, none⟩ = some (.slice none 0 0) := (blk_cell BK171.out 0).trans rfl; have hcz12_1 : w9.cell? ⟨gb171, 1, none⟩ = some (.int .i64 0) := (blk_cell BK171.out 1).trans rfl; have hcz12_2 : w9.cell? ⟨gb171, 2, none⟩ = some (.int .i64 0) := (blk_cell BK171.out 2).trans rfl; have hfz12_0 := blk_frozen BK171.out 0; have hfz12_1 := blk_frozen BK171.out 1; have hfz12_2 := blk_frozen BK171.out 2))
    refine bodyPost_ret (results_cell_row rfl _ _ gb171 27 #[.slice Ao10 y175.length co10, .int .i64 a0_1, .int .i64 a0_2] (0, 0) _ rfl (by (with_reducible repeat (first | refine blk_drewN ?_ _ | refine blk_drew ?_ | refine blk_alloc ?_ _)); refine blk_put (cs := #[.slice Ao10 y175.length co10, .int .i64 a0_1, .int .i64 0]) ?_ 2 _ rfl; (with_reducible repeat (first | refine blk_drewN ?_ _ | refine blk_drew ?_ | refine blk_alloc ?_ _)); refine blk_put (cs := #[.slice Ao10 y175.length co10, .int .i64 0, .int .i64 0]) ?_ 1 _ rfl; (with_reducible repeat (first | refine blk_drewN ?_ _ | refine blk_drew ?_ | refine blk_alloc ?_ _)); refine blk_put (cs := #[.slice none 0 0, .int .i64 0, .int .i64 0]) ?_ 0 _ rfl; (with_reducible repeat (first | refine blk_drewN ?_ _ | refine blk_drew ?_ | refine blk_alloc ?_ _)); refine blk_far ?_ NB171_170.out _; (with_reducible repeat (first | refine blk_drewN ?_ _ | refine blk_drew ?_ | refine blk_alloc ?_ _)); exact BK171.out) Tryd.underlying27 rfl (by kernel_rfl)) rfl ?_
    exact ⟨_, by first | rfl | (simp [errW_none, errW_some] <;> rfl) | (simp [*, errW_none, errW_some] <;> rfl), by (with_reducible repeat (first | apply Kd.R_alloc | apply Kd.R_drewN | apply Kd.R_drew)); exact Kd.R_mono (Kd.R_far (p := ⟨gb171, 2, none⟩) (Kd.R_far (p := ⟨gb171, 1, none⟩) (Kd.R_far (p := ⟨gb171, 0, none⟩) (Kd.R_far (p := ⟨gb170, 0, none⟩) (Kd.R_types (Kd.R_types HO177.out BK170.out (by decide)) BK171.out (by decide)) (fun _ hk => hk.1.2) (.slice Ao10 y175.length co10)) (fun _ hk => hk.2) (.slice Ao10 y175.length co10)) (fun _ hk => hk.2) (.int .i64 a0_1)) (fun _ hk => hk.2) (.int .i64 a0_2)) (fun _ hk => trivial), by repeat (first | (with_reducible first | exact HB.out | apply below_alloc | apply pw_below_drewN | apply below_drew1 | refine below_set ?_ GE170.out | refine below_set ?_ GE171.out) | exact HB.out)⟩
  · rw [if_neg c2] at H
    exact absurd H (by simp)
def manifest_Commit.f (l0_0 : List (S63)) (a0_1 : Int) (a0_2 : Int) : Option ((List (S60)) × Int) := (manifest_Put.f l0_0 a0_1 a0_2).bind fun bt179 => (if bt179.2 = 0 then (some ((([(⟨1, (⟨#[110]⟩ : ByteArray), (⟨#[]⟩ : ByteArray), bt179.1⟩ : S60), (⟨2, (⟨#[110]⟩ : ByteArray), (⟨#[]⟩ : ByteArray), ([] : List Int)⟩ : S60), (⟨3, (⟨#[110]⟩ : ByteArray), (⟨#[109]⟩ : ByteArray), ([] : List Int)⟩ : S60)] : List (S60))), 0)) else (some (([] : List (S60)), bt179.2)))
set_option maxHeartbeats 8000000 in
set_option maxRecDepth 100000 in
theorem manifest_Commit.calls (A0_0 : Option Addr) (c0_0 : Nat) (l0_0 : List (S63)) (a0_1 : Int) (a0_2 : Int) (r1 : List (S60)) (r2 : Int) (w : World) (hr0_0 : Kd.C k63 w A0_0 l0_0.length l0_0) (hc0_0 : l0_0.length ≤ c0_0) (hG : GT w) (h : manifest_Commit.f l0_0 a0_1 a0_2 = some (r1, r2)) :
    Calls Tryd.prog 19 #[.agg #[.slice A0_0 l0_0.length c0_0, .int .i64 a0_1, .int .i64 a0_2]] w fun e w' => ∃ v0_ : Value, e = .returned (.tuple #[v0_, .int .i64 r2]) ∧ Kd.N k60 60 w' w.heap.size (fun k_ => (w.heap.size ≤ k_)) v0_ r1 ∧ Below w.heap.size w w' := by
  have hu27 := Tryd.underlying27
  have hu60 := Tryd.underlying60
  have HR0_0 := Aside0.mk hr0_0
  have HC0_0 := Aside0.mk hc0_0
  clear hr0_0 hc0_0
  have HB := Aside0.mk (Below.refl w.heap.size w)
  have HG := Aside0.mk hG
  clear hG
  have H : ((manifest_Put.f l0_0 a0_1 a0_2).bind fun bt179 => (if bt179.2 = 0 then (some ((([(⟨1, (⟨#[110]⟩ : ByteArray), (⟨#[]⟩ : ByteArray), bt179.1⟩ : S60), (⟨2, (⟨#[110]⟩ : ByteArray), (⟨#[]⟩ : ByteArray), ([] : List Int)⟩ : S60), (⟨3, (⟨#[110]⟩ : ByteArray), (⟨#[109]⟩ : ByteArray), ([] : List Int)⟩ : S60)] : List (S60))), 0)) else (some (([] : List (S60)), bt179.2)))) = some (r1, r2) := h
  clear h
  replace H := Option.bind_eq_some_iff.mp H
  obtain ⟨⟨t179, t182⟩, A20, H⟩ := H
  replace H : (if t182 = 0 then (some ((([(⟨1, (⟨#[110]⟩ : ByteArray), (⟨#[]⟩ : ByteArray), t179⟩ : S60), (⟨2, (⟨#[110]⟩ : ByteArray), (⟨#[]⟩ : ByteArray), ([] : List Int)⟩ : S60), (⟨3, (⟨#[110]⟩ : ByteArray), (⟨#[109]⟩ : ByteArray), ([] : List Int)⟩ : S60)] : List (S60))), 0)) else (some (([] : List (S60)), t182))) = some (r1, r2) := H
  have A2 := Aside0.mk A20
  clear A20
  by_cases c3 : t182 = 0
  · rw [if_pos c3] at H
    have c3b0 : (t182 == 0) = true := beq_iff_eq.mpr c3
    have c3b1 : (t182 != 0) = false := bne_eq_false_iff_eq.mpr c3
    clear c3
    obtain ⟨y183, hy183⟩ : ∃ y_ : List (S60), y_ = (([(⟨1, (⟨#[110]⟩ : ByteArray), (⟨#[]⟩ : ByteArray), t179⟩ : S60), (⟨2, (⟨#[110]⟩ : ByteArray), (⟨#[]⟩ : ByteArray), ([] : List Int)⟩ : S60), (⟨3, (⟨#[110]⟩ : ByteArray), (⟨#[109]⟩ : ByteArray), ([] : List Int)⟩ : S60)] : List (S60))) := ⟨_, rfl⟩
    replace H : (some (y183, 0)) = some (r1, r2) := by first | (rw [hy183]; with_reducible exact H) | (have H2_ := (Option.bind_some _ _).symm.trans H; rw [hy183]; with_reducible exact H2_) | (have H2_ := (Option.bind_some _ _).symm.trans H; with_reducible exact H2_) | with_reducible exact H | (rw [hy183]; exact H) | exact H
    have Ny183 := Aside0.mk hy183
    clear hy183
    simp only [Option.some.injEq, Prod.mk.injEq] at H
    obtain ⟨rfl, rfl⟩ := H
    go_enter Tryd.func19, Tryd.ntmps19
    go_wp2_with (first | ((with_reducible refine gate_dst (N := 1) rfl ?_); refine box_event ?hg (N := 1) ?hd (cs := #[.slice A0_0 l0_0.length c0_0, .int .i64 a0_1, .int .i64 a0_2]) (t := 27) ?hr ?_; (case hd => rfl); (case hg => rfl); (case hr => first | (go_simp; done) | (go_simp; rfl)); intro gb178 hg w4 hbox hb; have n0_ := Aside0.mk (below_step (by repeat (first | (with_reducible first | exact HB.out | apply below_alloc | apply pw_below_drewN | apply below_drew1) | exact HB.out)) hb); have n1_ := Aside0.mk (hbox); have n2_ := Aside0.mk ((by rw [hg]; exact (below_size (by repeat (first | (with_reducible first | exact HB.out | apply below_alloc | apply pw_below_drewN | apply below_drew1) | exact HB.out))) : w.heap.size ≤ gb178)); have n3_ := Aside0.mk ((by rw [hg]; exact (below_size (by repeat (first | (with_reducible first | exact HB.out | apply below_alloc | apply pw_below_drewN | apply below_drew1) | exact HB.out))) : w.heap.size ≤ gb178)); clear HB; have HB := n0_; have BK178 := n1_; have GW178 := n2_; have GE178 := n3_; clear n0_ n1_ n2_ n3_; clear hb hbox hg; have hcz5_0 : w4.cell? ⟨gb178, 0, none⟩ = some (.slice A0_0 l0_0.length c0_0) := (blk_cell BK178.out 0).trans rfl; have hcz5_1 : w4.cell? ⟨gb178, 1, none⟩ = some (.int .i64 a0_1) := (blk_cell BK178.out 1).trans rfl; have hcz5_2 : w4.cell? ⟨gb178, 2, none⟩ = some (.int .i64 a0_2) := (blk_cell BK178.out 2).trans rfl; have hfz5_0 := blk_frozen BK178.out 0; have hfz5_1 := blk_frozen BK178.out 1; have hfz5_2 := blk_frozen BK178.out 2) | ((with_reducible refine gate_callee (f := 15) rfl ?_); refine goesL_ (some 8) rfl rfl Tryd.func15 (by kernel_rfl) rfl #[.agg #[.slice A0_0 l0_0.length c0_0, .int .i64 a0_1, .int .i64 a0_2]] rfl (by (try simp only [List.map_toArray, List.map_cons, List.map_nil]); first | done | rfl | (simp only [List.length_drop, List.length_take]; rfl)) ?_; (with_reducible refine (manifest_Put.calls _ _ l0_0 a0_1 a0_2 t179 t182 _ ?side1 ?side2 ?side3 A2.out).mono ?_); (case side1 => repeat (first | exact (Kd.C_below HR0_0.out HB.out) | (with_reducible refine Kd.C_alloc ?_ _) | (with_reducible refine Kd.C_drewN ?_ _) | (with_reducible refine Kd.C_drew ?_))); (case side2 => exact HC0_0.out); (case side3 => exact GT.below HG.out (by repeat (first | (with_reducible first | exact HB.out | apply below_alloc | apply pw_below_drewN | apply below_drew1 | refine below_set ?_ GE178.out) | exact HB.out))); rintro e w6 ⟨v180, rfl, ho0, hb⟩; refine ⟨_, rfl, ?_⟩; have n0_ := Aside0.mk (Kd.R_lower (Kd.R_newM (M := fun k_ => (w.heap.size ≤ k_)) ho0 (below_size (by repeat (first | (with_reducible first | exact HB.out | apply below_alloc | apply pw_below_drewN | apply below_drew1 | refine below_set ?_ GE178.out) | exact HB.out))) (fun k_ h_ => h_)) (below_size (by repeat (first | (with_reducible first | exact HB.out | apply below_alloc | apply pw_below_drewN | apply below_drew1 | refine below_set ?_ GE178.out) | exact HB.out)))); have n1_ := Aside0.mk (blk_below (g := gb178) (o := .cells #[.slice A0_0 l0_0.length c0_0, .int .i64 a0_1, .int .i64 a0_2] 27 (0, 0)) (by (with_reducible repeat (first | refine blk_drewN ?_ _ | refine blk_drew ?_ | refine blk_alloc ?_ _)); exact BK178.out) hb); have n2_ := Aside0.mk (below_step (by repeat (first | (with_reducible first | exact HB.out | apply below_alloc | apply pw_below_drewN | apply below_drew1 | refine below_set ?_ GE178.out) | exact HB.out)) hb); clear BK178; clear HB; have HO181 := n0_; have BK178 := n1_; have HB := n2_; clear n0_ n1_ n2_; (try clear hb); (try clear hb2); (try clear hk); (try clear hi); (try clear ho0); obtain ⟨Ao7, co7, eo7⟩ := Kd.R_slice HO181.out; subst eo7) | ((with_reducible refine gate_dst (N := 18) rfl ?_); refine Kd.N_lit k60 _ 60 ?hg (N' := 18) ?hd (xs := ([(⟨1, (⟨#[110]⟩ : ByteArray), (⟨#[]⟩ : ByteArray), t179⟩ : S60), (⟨2, (⟨#[110]⟩ : ByteArray), (⟨#[]⟩ : ByteArray), ([] : List Int)⟩ : S60), (⟨3, (⟨#[110]⟩ : ByteArray), (⟨#[109]⟩ : ByteArray), ([] : List Int)⟩ : S60)] : List (S60))) (inner := [.int .i64 1, .string (⟨#[110]⟩ : ByteArray), .string (⟨#[]⟩ : ByteArray), .slice Ao7 t179.length co7, .int .i64 2, .string (⟨#[110]⟩ : ByteArray), .string (⟨#[]⟩ : ByteArray), .slice none 0 0, .int .i64 3, .string (⟨#[110]⟩ : ByteArray), .string (⟨#[109]⟩ : ByteArray), .slice none 0 0]) (ok := (fun k_ => (w.heap.size ≤ k_) ∧ k_ ≠ gb178)) (okp := (fun k_ => (w.heap.size ≤ k_) ∧ k_ ≠ gb178)) ?hr ?hp (fun _ hk => hk) ((show ∀ k_, w6.heap.size ≤ k_ → (fun k_ => (w.heap.size ≤ k_) ∧ k_ ≠ gb178) k_ from fun k_ hk => ⟨(Nat.le_trans (below_size (by repeat (first | (with_reducible first | exact HB.out | apply below_alloc | apply pw_below_drewN | apply below_drew1 | refine below_set ?_ GE178.out) | exact HB.out))) hk), Kd.freshB (g := gb178) (o := .cells #[.slice A0_0 l0_0.length c0_0, .int .i64 a0_1, .int .i64 a0_2] 27 (0, 0)) (by (with_reducible repeat (first | refine blk_drewN ?_ _ | refine blk_drew ?_ | refine blk_alloc ?_ _)); exact BK178.out) k_ hk⟩) _ (Nat.le_refl _)) (Below.refl _ _) (Nat.le_refl _) (by simp) ?_; (case hd => rfl); (case hg => rfl); (case hr => first | (go_simp; done) | (go_simp; rfl)); (case hp => exact (Reps.c4 (show Kd.FK k60 _ _ (⟨1, (⟨#[110]⟩ : ByteArray), (⟨#[]⟩ : ByteArray), t179⟩ : S60) [.int .i64 1, .string (⟨#[110]⟩ : ByteArray), .string (⟨#[]⟩ : ByteArray), .slice Ao7 t179.length co7] from (k60_mkF _ _ (⟨1, (⟨#[110]⟩ : ByteArray), (⟨#[]⟩ : ByteArray), t179⟩ : S60) (Kd.R_reads' (Kd.R_mono (ok' := (fun k_ => (w.heap.size ≤ k_) ∧ k_ ≠ gb178)) (Kd.R_types (HO181.out) BK178.out (by decide)) (fun k_ hk => ⟨hk.1.1, hk.2⟩))).2.1 (Kd.R_F (Kd.R_mono (ok' := (fun k_ => (w.heap.size ≤ k_) ∧ k_ ≠ gb178)) (Kd.R_types (HO181.out) BK178.out (by decide)) (fun k_ hk => ⟨hk.1.1, hk.2⟩))))) (Reps.c4 (show Kd.FK k60 _ _ (⟨2, (⟨#[110]⟩ : ByteArray), (⟨#[]⟩ : ByteArray), ([] : List Int)⟩ : S60) [.int .i64 2, .string (⟨#[110]⟩ : ByteArray), .string (⟨#[]⟩ : ByteArray), .slice none 0 0] from (k60_mkF _ _ (⟨2, (⟨#[110]⟩ : ByteArray), (⟨#[]⟩ : ByteArray), ([] : List Int)⟩ : S60) (Nat.le_refl _) (Kd.F_nil _ _ _))) (Reps.c4 (show Kd.FK k60 _ _ (⟨3, (⟨#[110]⟩ : ByteArray), (⟨#[109]⟩ : ByteArray), ([] : List Int)⟩ : S60) [.int .i64 3, .string (⟨#[110]⟩ : ByteArray), .string (⟨#[109]⟩ : ByteArray), .slice none 0 0] from (k60_mkF _ _ (⟨3, (⟨#[110]⟩ : ByteArray), (⟨#[109]⟩ : ByteArray), ([] : List Int)⟩ : S60) (Nat.le_refl _) (Kd.F_nil _ _ _))) (Reps.none _ _))))); intro v184 w8 ho9 hb hg_ hnew_; clear hg_ hnew_; (first | rw [← Ny183.out] at ho9 | (simp only [Int.reduceToNat] at ho9; rw [← Ny183.out] at ho9)); have n0_ := Aside0.mk (Kd.N_lower ho9 (below_size (by repeat (first | (with_reducible first | exact HB.out | apply below_alloc | apply pw_below_drewN | apply below_drew1 | refine below_set ?_ GE178.out) | exact HB.out)))); have n1_ := Aside0.mk (blk_below (g := gb178) (o := .cells #[.slice A0_0 l0_0.length c0_0, .int .i64 a0_1, .int .i64 a0_2] 27 (0, 0)) (by (with_reducible repeat (first | refine blk_drewN ?_ _ | refine blk_drew ?_ | refine blk_alloc ?_ _)); exact BK178.out) hb); have n2_ := Aside0.mk (below_step (by repeat (first | (with_reducible first | exact HB.out | apply below_alloc | apply pw_below_drewN | apply below_drew1 | refine below_set ?_ GE178.out) | exact HB.out)) hb); clear BK178; clear HB; clear HO181; have HO185 := n0_; have BK178 := n1_; have HB := n2_; clear n0_ n1_ n2_; clear hb ho9))
    go_ret2
    exact ⟨_, by first | rfl | (simp [errW_none, errW_some] <;> rfl) | (simp [*, errW_none, errW_some] <;> rfl), by (with_reducible repeat (first | apply Kd.N_alloc | apply Kd.N_drewN | apply Kd.N_drew)); exact Kd.N_mono HO185.out (fun _ hk => hk.1), by repeat (first | (with_reducible first | exact HB.out | apply below_alloc | apply pw_below_drewN | apply below_drew1 | refine below_set ?_ GE178.out) | exact HB.out)⟩
  · rw [if_neg c3] at H
    have c3b0 : (t182 == 0) = false := beq_eq_false_iff_ne.mpr c3
    have c3b1 : (t182 != 0) = true := bne_iff_ne.mpr c3
    simp only [Option.some.injEq, Prod.mk.injEq] at H
    obtain ⟨rfl, rfl⟩ := H
    go_enter Tryd.func19, Tryd.ntmps19
    go_wp2_with (first | ((with_reducible refine gate_dst (N := 1) rfl ?_); refine box_event ?hg (N := 1) ?hd (cs := #[.slice A0_0 l0_0.length c0_0, .int .i64 a0_1, .int .i64 a0_2]) (t := 27) ?hr ?_; (case hd => rfl); (case hg => rfl); (case hr => first | (go_simp; done) | (go_simp; rfl)); intro gb178 hg w10 hbox hb; have n0_ := Aside0.mk (below_step (by repeat (first | (with_reducible first | exact HB.out | apply below_alloc | apply pw_below_drewN | apply below_drew1) | exact HB.out)) hb); have n1_ := Aside0.mk (hbox); have n2_ := Aside0.mk ((by rw [hg]; exact (below_size (by repeat (first | (with_reducible first | exact HB.out | apply below_alloc | apply pw_below_drewN | apply below_drew1) | exact HB.out))) : w.heap.size ≤ gb178)); have n3_ := Aside0.mk ((by rw [hg]; exact (below_size (by repeat (first | (with_reducible first | exact HB.out | apply below_alloc | apply pw_below_drewN | apply below_drew1) | exact HB.out))) : w.heap.size ≤ gb178)); clear HB; have HB := n0_; have BK178 := n1_; have GW178 := n2_; have GE178 := n3_; clear n0_ n1_ n2_ n3_; clear hb hbox hg; have hcz11_0 : w10.cell? ⟨gb178, 0, none⟩ = some (.slice A0_0 l0_0.length c0_0) := (blk_cell BK178.out 0).trans rfl; have hcz11_1 : w10.cell? ⟨gb178, 1, none⟩ = some (.int .i64 a0_1) := (blk_cell BK178.out 1).trans rfl; have hcz11_2 : w10.cell? ⟨gb178, 2, none⟩ = some (.int .i64 a0_2) := (blk_cell BK178.out 2).trans rfl; have hfz11_0 := blk_frozen BK178.out 0; have hfz11_1 := blk_frozen BK178.out 1; have hfz11_2 := blk_frozen BK178.out 2) | ((with_reducible refine gate_callee (f := 15) rfl ?_); refine goesL_ (some 8) rfl rfl Tryd.func15 (by kernel_rfl) rfl #[.agg #[.slice A0_0 l0_0.length c0_0, .int .i64 a0_1, .int .i64 a0_2]] rfl (by (try simp only [List.map_toArray, List.map_cons, List.map_nil]); first | done | rfl | (simp only [List.length_drop, List.length_take]; rfl)) ?_; (with_reducible refine (manifest_Put.calls _ _ l0_0 a0_1 a0_2 t179 t182 _ ?side1 ?side2 ?side3 A2.out).mono ?_); (case side1 => repeat (first | exact (Kd.C_below HR0_0.out HB.out) | (with_reducible refine Kd.C_alloc ?_ _) | (with_reducible refine Kd.C_drewN ?_ _) | (with_reducible refine Kd.C_drew ?_))); (case side2 => exact HC0_0.out); (case side3 => exact GT.below HG.out (by repeat (first | (with_reducible first | exact HB.out | apply below_alloc | apply pw_below_drewN | apply below_drew1 | refine below_set ?_ GE178.out) | exact HB.out))); rintro e w12 ⟨v180, rfl, ho0, hb⟩; refine ⟨_, rfl, ?_⟩; have n0_ := Aside0.mk (Kd.R_lower (Kd.R_newM (M := fun k_ => (w.heap.size ≤ k_)) ho0 (below_size (by repeat (first | (with_reducible first | exact HB.out | apply below_alloc | apply pw_below_drewN | apply below_drew1 | refine below_set ?_ GE178.out) | exact HB.out))) (fun k_ h_ => h_)) (below_size (by repeat (first | (with_reducible first | exact HB.out | apply below_alloc | apply pw_below_drewN | apply below_drew1 | refine below_set ?_ GE178.out) | exact HB.out)))); have n1_ := Aside0.mk (blk_below (g := gb178) (o := .cells #[.slice A0_0 l0_0.length c0_0, .int .i64 a0_1, .int .i64 a0_2] 27 (0, 0)) (by (with_reducible repeat (first | refine blk_drewN ?_ _ | refine blk_drew ?_ | refine blk_alloc ?_ _)); exact BK178.out) hb); have n2_ := Aside0.mk (below_step (by repeat (first | (with_reducible first | exact HB.out | apply below_alloc | apply pw_below_drewN | apply below_drew1 | refine below_set ?_ GE178.out) | exact HB.out)) hb); clear BK178; clear HB; have HO181 := n0_; have BK178 := n1_; have HB := n2_; clear n0_ n1_ n2_; (try clear hb); (try clear hb2); (try clear hk); (try clear hi); (try clear ho0)))
    go_ret2
    exact ⟨_, by first | rfl | (simp [errW_none, errW_some] <;> rfl) | (simp [*, errW_none, errW_some] <;> rfl), by first | exact Kd.S_nil _ _ _ _ _ | exact Kd.N_nil _ _ _ _ _ | exact Kd.V_nil _ _ _ _ _ | exact Kd.Q_nil _ _ _ _ _ | exact Kd.R_nil _ _ _ _ _, by repeat (first | (with_reducible first | exact HB.out | apply below_alloc | apply pw_below_drewN | apply below_drew1 | refine below_set ?_ GE178.out) | exact HB.out)⟩
def dragnetref02_Bytes.l0 : Nat → Int → List Int → Option (List Int)
  | 0, _, _ => none
  | k + 1, x0, x3 => if x0 > 0 then (if x3.length < 140737488355328 then ((some (x3 ++ [(Int.tmod x0 256) % 256] : List Int)).bind fun y192 => (if 0 < (y192.length : Int) then (dragnetref02_Bytes.l0 k (IntKind.u64.wrap (Int.tdiv x0 256)) (y192.set (0 : Int).toNat (((rd y192 0) + 1) % 256))) else (none))) else (none)) else (some x3)
def dragnetref02_Bytes.f (k : Nat) (a0 : Int) : Option (List Int) := if a0 ≤ 247 then (some (([(a0) % 256] : List Int))) else (dragnetref02_Bytes.l0 k a0 (([247] : List Int)))
set_option maxHeartbeats 8000000 in
set_option maxRecDepth 100000 in
theorem dragnetref02_Bytes.calls (k : Nat) (a0 : Int) (r : List Int) (w : World) (h : dragnetref02_Bytes.f k a0 = some r) :
    Calls Tryd.prog 42 #[.int .u64 a0] w fun e w' => ∃ v0_ : Value, e = .returned (v0_) ∧ Kd.R (Kd.int .u8) 5 w' w.heap.size (fun _ => True) v0_ r ∧ Below w.heap.size w w' := by
  have HB := Aside0.mk (Below.refl w.heap.size w)
  have H : (if a0 ≤ 247 then (some (([(a0) % 256] : List Int))) else (dragnetref02_Bytes.l0 k a0 (([247] : List Int)))) = some r := h
  clear h
  by_cases c2 : a0 ≤ 247
  · rw [if_pos c2] at H
    have c2b0 : decide (a0 ≤ 247) = true := decide_eq_true c2
    clear c2
    obtain ⟨y186, hy186⟩ : ∃ y_ : List Int, y_ = (([(a0) % 256] : List Int)) := ⟨_, rfl⟩
    replace H : (some y186) = some r := by first | (rw [hy186]; with_reducible exact H) | (have H2_ := (Option.bind_some _ _).symm.trans H; rw [hy186]; with_reducible exact H2_) | (have H2_ := (Option.bind_some _ _).symm.trans H; with_reducible exact H2_) | with_reducible exact H | (rw [hy186]; exact H) | exact H
    have Ny186 := Aside0.mk hy186
    clear hy186
    obtain rfl := Option.some.inj H
    go_enter Tryd.func42, Tryd.ntmps42
    go_wp2_with (first | ((with_reducible refine gate_dst (N := 8) rfl ?_); refine Kd.R_lit (Kd.int .u8) _ 5 ?hg (N := 8) ?hd (xs := ([(a0) % 256] : List Int)) (inner := [.int .u8 ((a0) % 256)]) (ok := fun _ => True) (okp := fun _ => True) ?hr ?hp (fun _ hk => hk) trivial (Below.refl _ _) (Nat.le_refl _) (by simp) ?_; (case hd => rfl); (case hg => rfl); (case hr => first | (go_simp; done) | (go_simp; rfl)); (case hp => exact (Reps.one (show Kd.M (Kd.int .u8) _ _ _ ((a0) % 256) [.int .u8 ((a0) % 256)] from rfl) (Reps.none _ _))); intro v187 w3 ho4 hb hg_ hnew_; clear hg_ hnew_; (first | rw [← Ny186.out] at ho4 | (simp only [Int.reduceToNat] at ho4; rw [← Ny186.out] at ho4)); have n0_ := Aside0.mk (Kd.R_lower ho4 (below_size (by repeat (first | (with_reducible first | exact HB.out | apply below_alloc | apply pw_below_drewN | apply below_drew1) | exact HB.out)))); have n1_ := Aside0.mk (below_step (by repeat (first | (with_reducible first | exact HB.out | apply below_alloc | apply pw_below_drewN | apply below_drew1) | exact HB.out)) hb); clear HB; have HO188 := n0_; have HB := n1_; clear n0_ n1_; clear hb ho4))
    go_ret
    exact ⟨_, by first | rfl | (simp [errW_none, errW_some] <;> rfl) | (simp [*, errW_none, errW_some] <;> rfl), by (with_reducible repeat (first | apply Kd.R_alloc | apply Kd.R_drewN | apply Kd.R_drew)); exact HO188.out, by repeat (first | (with_reducible first | exact HB.out | apply below_alloc | apply pw_below_drewN | apply below_drew1) | exact HB.out)⟩
  · rw [if_neg c2] at H
    have c2b0 : decide (a0 ≤ 247) = false := decide_eq_false c2
    clear c2
    obtain ⟨y189, hy189⟩ : ∃ y_ : List Int, y_ = (([247] : List Int)) := ⟨_, rfl⟩
    replace H : (dragnetref02_Bytes.l0 k a0 y189) = some r := by first | (rw [hy189]; with_reducible exact H) | (have H2_ := (Option.bind_some _ _).symm.trans H; rw [hy189]; with_reducible exact H2_) | (have H2_ := (Option.bind_some _ _).symm.trans H; with_reducible exact H2_) | with_reducible exact H | (rw [hy189]; exact H) | exact H
    have Ny189 := Aside0.mk hy189
    clear hy189
    have H' := Aside0.mk H
    clear H
    go_enter Tryd.func42, Tryd.ntmps42
    go_wp2_with (first | ((with_reducible refine gate_dst (N := 9) rfl ?_); refine Kd.R_lit (Kd.int .u8) _ 5 ?hg (N := 9) ?hd (xs := ([247] : List Int)) (inner := [.int .u8 247]) (ok := fun _ => True) (okp := fun _ => True) ?hr ?hp (fun _ hk => hk) trivial (Below.refl _ _) (Nat.le_refl _) (by simp) ?_; (case hd => rfl); (case hg => rfl); (case hr => first | (go_simp; done) | (go_simp; rfl)); (case hp => exact (Reps.one (show Kd.M (Kd.int .u8) _ _ _ 247 [.int .u8 247] from rfl) (Reps.none _ _))); intro v190 w5 ho6 hb hg_ hnew_; clear hg_ hnew_; (first | rw [← Ny189.out] at ho6 | (simp only [Int.reduceToNat] at ho6; rw [← Ny189.out] at ho6)); have n0_ := Aside0.mk (Kd.R_lower ho6 (below_size (by repeat (first | (with_reducible first | exact HB.out | apply below_alloc | apply pw_below_drewN | apply below_drew1) | exact HB.out)))); have n1_ := Aside0.mk (below_step (by repeat (first | (with_reducible first | exact HB.out | apply below_alloc | apply pw_below_drewN | apply below_drew1) | exact HB.out)) hb); clear HB; have HO191 := n0_; have HB := n1_; clear n0_ n1_; clear hb ho6))
    go_loopg [0, 3] k (fun kq v0 v3 w' => ∃ (x0_1 : Int) (x3_1 : List Int), v0 = .int .u64 x0_1 ∧ Aside0 (dragnetref02_Bytes.l0 kq x0_1 x3_1 = some r) ∧ Aside0 (kq ≤ k) ∧ Aside0 (Kd.R (Kd.int .u8) 5 w' w.heap.size (fun _ => True) v3 x3_1) ∧ Aside0 (Below w.heap.size w w'))
    case atStart => exact ⟨(a0), (y189), (by first | rfl | (simp; done) | (simp [*]; done)), H', ⟨Nat.le_refl _⟩, ⟨by (with_reducible repeat (first | apply Kd.R_alloc | apply Kd.R_drewN | apply Kd.R_drew)); exact HO191.out⟩, ⟨by repeat (first | (with_reducible first | exact HB.out | apply below_alloc | apply pw_below_drewN | apply below_drew1) | exact HB.out)⟩⟩
    case round =>
      clear H'
      try clear c2
      try clear c2b0
      try clear p2
      try clear c4
      obtain ⟨x0_1, x3_1, rfl, HA, HK1, HO_3, HB⟩ := hrel
      cases gk with
      | zero => exact absurd HA.out (by simp [dragnetref02_Bytes.l0])
      | succ k1 =>
        have H := HA.out
        clear HA
        simp only [dragnetref02_Bytes.l0] at H
        by_cases c7 : x0_1 > 0
        · rw [if_pos c7] at H
          have c7b0 : decide (0 < x0_1) = true := decide_eq_true c7
          clear c7
          by_cases c8 : x3_1.length < 140737488355328
          · rw [if_pos c8] at H
            have LMc8 := Aside0.mk c8
            clear c8
            obtain ⟨y192, hy192⟩ : ∃ y_ : List Int, y_ = (x3_1 ++ [(Int.tmod x0_1 256) % 256]) := ⟨_, rfl⟩
            replace H : (if 0 < (y192.length : Int) then (dragnetref02_Bytes.l0 k1 (IntKind.u64.wrap (Int.tdiv x0_1 256)) (y192.set (0 : Int).toNat (((rd y192 0) + 1) % 256))) else (none)) = some r := by first | (rw [hy192]; with_reducible exact H) | (have H2_ := (Option.bind_some _ _).symm.trans H; rw [hy192]; with_reducible exact H2_) | (have H2_ := (Option.bind_some _ _).symm.trans H; with_reducible exact H2_) | with_reducible exact H | (rw [hy192]; exact H) | exact H
            have Ny192 := Aside0.mk hy192
            clear hy192
            by_cases c9 : 0 < (y192.length : Int)
            · rw [if_pos c9] at H
              have c9b0 : decide (0 < (y192.length : Int)) = true := decide_eq_true c9
              have c9b1 : decide (0 < y192.length) = true := decide_eq_true (by omega)
              clear c9
              obtain ⟨y196, hy196⟩ : ∃ y_ : List Int, y_ = (y192.set (0 : Int).toNat (((rd y192 0) + 1) % 256)) := ⟨_, rfl⟩
              replace H : (dragnetref02_Bytes.l0 k1 (IntKind.u64.wrap (Int.tdiv x0_1 256)) y196) = some r := by first | (rw [hy196]; with_reducible exact H) | (have H2_ := (Option.bind_some _ _).symm.trans H; rw [hy196]; with_reducible exact H2_) | (have H2_ := (Option.bind_some _ _).symm.trans H; with_reducible exact H2_) | with_reducible exact H | (rw [hy196]; exact H) | exact H
              have Ny196 := Aside0.mk hy196
              clear hy196
              have H' := Aside0.mk H
              clear H
              go_wp2_with (first | ((with_reducible refine gate_builtin (b := .append) (xs := #[.tmp 12, .tmp 16]) rfl ?_); at_builtin; refine Kd.R_append (Kd.int .u8) (w0 := w) w.heap.size rfl (.tmp 12) (.tmp 16) 22 5 (.int .u8 0) 1 rfl Tryd.underlying22 info5 rfl (by decide) (by omega) u3 x3_1 ((Int.tmod x0_1 256) % 256) [.int .u8 ((Int.tmod x0_1 256) % 256)] (fun _ => True) (fun _ => False) rfl rfl ?aP (fun _ hk => hk.elim) ?aF ?aO ?aB ?aS ?aL ?_; (case aP => exact rfl); (case aB => exact (by repeat (first | (with_reducible first | exact HB.out | apply below_alloc | apply pw_below_drewN | apply below_drew1) | exact HB.out))); (case aF => exact (fun _ _ => trivial)); (case aO => exact (by (with_reducible repeat (first | apply Kd.R_alloc | apply Kd.R_drewN | apply Kd.R_drew)); exact HO_3.out)); (case aS => exact (below_size (by repeat (first | (with_reducible first | exact HB.out | apply below_alloc | apply pw_below_drewN | apply below_drew1) | exact HB.out)))); (case aL => have := LMc8.out; omega); intro v193 w11 ho hb hg hat; rw [← Ny192.out] at ho; have n0_ := Aside0.mk (hb); have n1_ := Aside0.mk (ho); clear HB; clear HO_3; have HB := n0_; have HO194 := n1_; clear n0_ n1_; clear ho hb hg hat; obtain ⟨Ao12, co12, eo12⟩ := Kd.R_slice HO194.out; subst eo12; have p195 : 0 ≤ (0 : Int) := (by omega); have q195 : 0 < (y192.length : Int) := of_decide_eq_true (by first | (with_reducible assumption) | assumption); obtain ⟨ad195, e195, hx195_0⟩ := Kd.at_int (Kd.R_reads' HO194.out).2.2 0 p195 q195; cases e195; have qi195 : (0 < y192.length) = True := eq_true (by omega); (try rw [show ((0 : Int)).toNat = 0 from rfl] at hx195_0); (try rw [Addr.add_zero'] at hx195_0); replace p195 := eq_true p195; replace q195 := eq_true q195; have p10 : 0 ≤ (0 : Int) := (by omega); have q10 : (0 : Int) < ((y192.length : Int) : Int) := of_decide_eq_true (by first | (with_reducible assumption) | assumption); have qi10 : (0 < y192.length) = True := eq_true (by omega); obtain ⟨go10, co10, eo10, gb10, gl10, cl10, HG10⟩ := Kd.R_form HO194.out (by omega); (first | cases eo10 | (injection eo10 with ea_ en_ ec_; (first | subst ea_ | (injection ea_ with ea_; subst ea_)); subst ec_; clear en_)); have GB10 := Aside0.mk gb10; have GG10 := Aside0.mk HG10; clear gb10 gl10 HG10; (first | simp only [add_plain] at hx195_0 | skip); obtain ⟨hx10_0, hf10_0⟩ := Kd.R_celln 0 HO194.out (0 : Int) p10 q10; (try rw [show ((0 : Int)).toNat = 0 from rfl] at hx10_0); (try simp only [Nat.reduceMul, Nat.zero_mul, Nat.zero_add, Nat.reduceAdd] at hx10_0); (try rw [show ((0 : Int)).toNat = 0 from rfl] at hf10_0); (try simp only [Nat.reduceMul, Nat.zero_mul, Nat.zero_add, Nat.reduceAdd] at hf10_0); replace p10 := eq_true p10; replace q10 := eq_true q10; obtain ⟨hy13_, hz13_⟩ := Kd.R_celln 0 HO194.out (0 : Int) (by omega) (of_decide_eq_true (by first | (with_reducible assumption) | assumption)); (try simp only [Int.reduceToNat, Int.toNat_zero, Int.toNat_ofNat, Nat.reduceMul, Nat.zero_mul, Nat.zero_add] at hy13_ hz13_); (try rw [show ((0 : Int)).toNat = 0 from rfl] at hy13_); (try rw [show ((0 : Int)).toNat = 0 from rfl] at hz13_); have HP13 := Kd.R_putg HO194.out (0 : Int) (((rd y192 0) + 1) % 256)) | ((with_reducible refine gate_store (t := 5) (p := 23) rfl ?_); refine store_event (t := 5) (p := 23) (v := ?vo_w14) (w1 := (w11.setCell ⟨go10, (0 : Int).toNat, none⟩ (.int .u8 (((rd y192 0) + 1) % 256)))) ?hg ?ho ?hn ?hr ?_; (case ho => rfl); (case hg => rfl); (case hn => rfl); (case hr => first | (go_simp; done) | (go_simp; rfl)); intro w14 hw; have hg : w11.grownBy w14 (some go10) := (by rw [hw]; exact HP13.2); have hp_ : Kd.R (Kd.int .u8) 5 w14 w.heap.size (fun _ => True) (.slice (some ⟨go10, 0, none⟩) y192.length co12) y196 := (by rw [hw, Ny196.out]; exact HP13.1); clear HP13; have n0_ := Aside0.mk (hp_); have n1_ := Aside0.mk ((by rw [hw]; exact below_set (HB.out) GB10.out : Below w.heap.size w w14)); clear HO194; clear HB; have HO194 := n0_; have HB := n1_; clear n0_ n1_; clear hg hw hp_))
              go_roundg k1
              case measure => have := HK1.out; omega
              case rel => exact ⟨(IntKind.u64.wrap (Int.tdiv x0_1 256)), (y196), (by first | rfl | (simp; done) | (simp [*]; done)), H', ⟨by have := HK1.out; omega⟩, ⟨by (with_reducible repeat (first | apply Kd.R_alloc | apply Kd.R_drewN | apply Kd.R_drew)); exact HO194.out⟩, ⟨by repeat (first | (with_reducible first | exact HB.out | apply below_alloc | apply pw_below_drewN | apply below_drew1) | exact HB.out)⟩⟩
            · rw [if_neg c9] at H
              exact absurd H (by simp)
          · rw [if_neg c8] at H
            exact absurd H (by simp)
        · rw [if_neg c7] at H
          have c7b0 : decide (0 < x0_1) = false := decide_eq_false c7
          clear c7
          obtain rfl := Option.some.inj H
          go_wp2
          go_ret
          exact ⟨_, by first | rfl | (simp [errW_none, errW_some] <;> rfl) | (simp [*, errW_none, errW_some] <;> rfl), by (with_reducible repeat (first | apply Kd.R_alloc | apply Kd.R_drewN | apply Kd.R_drew)); exact HO_3.out, by repeat (first | (with_reducible first | exact HB.out | apply below_alloc | apply pw_below_drewN | apply below_drew1) | exact HB.out)⟩
def dragnetref01_Four.f (a0 : Int) : Option (List Int) := some (([(a0) % 256, (a0 / 256) % 256, (a0 / 65536) % 256, (a0 / 16777216) % 256] : List Int))
set_option maxHeartbeats 8000000 in
set_option maxRecDepth 100000 in
theorem dragnetref01_Four.calls (a0 : Int) (r : List Int) (w : World) (h : dragnetref01_Four.f a0 = some r) :
    Calls Tryd.prog 67 #[.int .u32 a0] w fun e w' => ∃ v0_ : Value, e = .returned (v0_) ∧ Kd.R (Kd.int .u8) 5 w' w.heap.size (fun _ => True) v0_ r ∧ Below w.heap.size w w' := by
  have HB := Aside0.mk (Below.refl w.heap.size w)
  have H : (some (([(a0) % 256, (a0 / 256) % 256, (a0 / 65536) % 256, (a0 / 16777216) % 256] : List Int))) = some r := h
  clear h
  obtain ⟨y197, hy197⟩ : ∃ y_ : List Int, y_ = (([(a0) % 256, (a0 / 256) % 256, (a0 / 65536) % 256, (a0 / 16777216) % 256] : List Int)) := ⟨_, rfl⟩
  replace H : (some y197) = some r := by first | (rw [hy197]; with_reducible exact H) | (have H2_ := (Option.bind_some _ _).symm.trans H; rw [hy197]; with_reducible exact H2_) | (have H2_ := (Option.bind_some _ _).symm.trans H; with_reducible exact H2_) | with_reducible exact H | (rw [hy197]; exact H) | exact H
  have Ny197 := Aside0.mk hy197
  clear hy197
  obtain rfl := Option.some.inj H
  go_enter Tryd.func67, Tryd.ntmps67
  go_wp2_with (first | ((with_reducible refine gate_dst (N := 14) rfl ?_); refine Kd.R_lit (Kd.int .u8) _ 5 ?hg (N := 14) ?hd (xs := ([(a0) % 256, (a0 / 256) % 256, (a0 / 65536) % 256, (a0 / 16777216) % 256] : List Int)) (inner := [.int .u8 ((a0) % 256), .int .u8 ((a0 / 256) % 256), .int .u8 ((a0 / 65536) % 256), .int .u8 ((a0 / 16777216) % 256)]) (ok := fun _ => True) (okp := fun _ => True) ?hr ?hp (fun _ hk => hk) trivial (Below.refl _ _) (Nat.le_refl _) (by simp) ?_; (case hd => rfl); (case hg => rfl); (case hr => first | (go_simp; done) | (go_simp; rfl)); (case hp => exact (Reps.one (show Kd.M (Kd.int .u8) _ _ _ ((a0) % 256) [.int .u8 ((a0) % 256)] from rfl) (Reps.one (show Kd.M (Kd.int .u8) _ _ _ ((a0 / 256) % 256) [.int .u8 ((a0 / 256) % 256)] from rfl) (Reps.one (show Kd.M (Kd.int .u8) _ _ _ ((a0 / 65536) % 256) [.int .u8 ((a0 / 65536) % 256)] from rfl) (Reps.one (show Kd.M (Kd.int .u8) _ _ _ ((a0 / 16777216) % 256) [.int .u8 ((a0 / 16777216) % 256)] from rfl) (Reps.none _ _)))))); intro v198 w2 ho3 hb hg_ hnew_; clear hg_ hnew_; (first | rw [← Ny197.out] at ho3 | (simp only [Int.reduceToNat] at ho3; rw [← Ny197.out] at ho3)); have n0_ := Aside0.mk (Kd.R_lower ho3 (below_size (by repeat (first | (with_reducible first | exact HB.out | apply below_alloc | apply pw_below_drewN | apply below_drew1) | exact HB.out)))); have n1_ := Aside0.mk (below_step (by repeat (first | (with_reducible first | exact HB.out | apply below_alloc | apply pw_below_drewN | apply below_drew1) | exact HB.out)) hb); clear HB; have HO199 := n0_; have HB := n1_; clear n0_ n1_; clear hb ho3))
  go_ret
  exact ⟨_, by first | rfl | (simp [errW_none, errW_some] <;> rfl) | (simp [*, errW_none, errW_some] <;> rfl), by (with_reducible repeat (first | apply Kd.R_alloc | apply Kd.R_drewN | apply Kd.R_drew)); exact HO199.out, by repeat (first | (with_reducible first | exact HB.out | apply below_alloc | apply pw_below_drewN | apply below_drew1) | exact HB.out)⟩
mutual
def dragnetref01_Sum.l0 : Nat → List Int → Int → Int → Option (Int)
  | 0, _, _, _ => none
  | k + 1, x0, x3, x4 => if x4 < (x0.length : Int) then (if 0 ≤ x4 then (dragnetref01_Sum.l1 k x0 (Go.bits .xor .u32 x3 ((rd x0 x4) % 4294967296)) x4 0) else (none)) else (some ((4294967295 - x3) % 4294967296))
def dragnetref01_Sum.l1 : Nat → List Int → Int → Int → Int → Option (Int)
  | 0, _, _, _, _ => none
  | k + 1, x0, x3, x4, x5 => if x5 < 8 then (if (Int.tmod x3 2) = 1 then (dragnetref01_Sum.l1 k x0 (Go.bits .xor .u32 ((Int.tdiv x3 2) % 4294967296) 2197175160) x4 (wrap64 (x5 + 1))) else (dragnetref01_Sum.l1 k x0 ((Int.tdiv x3 2) % 4294967296) x4 (wrap64 (x5 + 1)))) else (dragnetref01_Sum.l0 k x0 x3 (wrap64 (x4 + 1)))
end
def dragnetref01_Sum.f (k : Nat) (l0 : List Int) : Option (Int) := dragnetref01_Sum.l0 k l0 4294967295 0
set_option maxHeartbeats 8000000 in
set_option maxRecDepth 100000 in
theorem dragnetref01_Sum.calls (k : Nat) (A0 : Option Addr) (c0 : Nat) (l0 : List Int) (r : Int) (w : World) (hr0 : Kd.C (Kd.int .u8) w A0 l0.length l0) (hc0 : l0.length ≤ c0) (h : dragnetref01_Sum.f k l0 = some r) :
    Calls Tryd.prog 68 #[.slice A0 l0.length c0] w fun e w' => e = .returned (.int .u32 r) ∧ Drawn0 w w' := by
  have HR0 := Aside0.mk hr0
  have HC0 := Aside0.mk hc0
  clear hr0 hc0
  have H : (dragnetref01_Sum.l0 k l0 4294967295 0) = some r := h
  clear h
  have H' := Aside0.mk H
  clear H
  go_enter Tryd.func68, Tryd.ntmps68
  go_wp2
  go_loopg [3, 4] k (fun kq v3 v4 w' => ∃ (x3_1 : Int) (x4_1 : Int), v3 = .int .u32 x3_1 ∧ v4 = .int .i64 x4_1 ∧ Aside0 (dragnetref01_Sum.l0 kq l0 x3_1 x4_1 = some r) ∧ Aside0 (kq ≤ k) ∧ Drawn0 w w')
  case atStart => exact ⟨(4294967295), (0), (by first | rfl | (simp; done) | (simp [*]; done)), (by first | rfl | (simp; done) | (simp [*]; done)), H', ⟨Nat.le_refl _⟩, by repeat (first | exact Drawn0.refl _ | apply Drawn0.step)⟩
  case round =>
    clear H'
    obtain ⟨x3_1, x4_1, rfl, rfl, HA, HK1, ⟨m1, rfl⟩⟩ := hrel
    cases gk with
    | zero => exact absurd HA.out (by simp [dragnetref01_Sum.l0])
    | succ k1 =>
      have H := HA.out
      clear HA
      simp only [dragnetref01_Sum.l0] at H
      by_cases c2 : x4_1 < (l0.length : Int)
      · rw [if_pos c2] at H
        have c2b0 : decide (x4_1 < (l0.length : Int)) = true := decide_eq_true c2
        clear c2
        by_cases c3 : 0 ≤ x4_1
        · rw [if_pos c3] at H
          have c3b0 : decide (0 ≤ x4_1) = true := decide_eq_true c3
          clear c3
          have H' := Aside0.mk H
          clear H
          have p200 : 0 ≤ (x4_1 : Int) := of_decide_eq_true (by first | (with_reducible assumption) | assumption)
          have q200 : x4_1 < (l0.length : Int) := of_decide_eq_true (by first | (with_reducible assumption) | assumption)
          obtain ⟨ad200, e200, hx200_0⟩ := Kd.at_int HR0.out x4_1 p200 q200
          cases e200
          replace p200 := eq_true p200
          replace q200 := eq_true q200
          go_wp2
          go_loopg [3, 5] k1 (fun kq v3 v5 w' => ∃ (x3_2 : Int) (x5_2 : Int), v3 = .int .u32 x3_2 ∧ v5 = .int .i64 x5_2 ∧ Aside0 (dragnetref01_Sum.l1 kq l0 x3_2 x4_1 x5_2 = some r) ∧ Aside0 (kq ≤ k1) ∧ Drawn0 w w')
          case atStart => exact ⟨(Go.bits .xor .u32 x3_1 ((rd l0 x4_1) % 4294967296)), (0), (by first | rfl | (simp; done) | (simp [*]; done)), (by first | rfl | (simp; done) | (simp [*]; done)), H', ⟨Nat.le_refl _⟩, by repeat (first | exact Drawn0.refl _ | apply Drawn0.step)⟩
          case round =>
            clear H'
            try clear c2
            try clear c2b0
            try clear p2
            try clear q2
            try clear hx2
            try clear c3
            try clear c3b0
            try clear hx200_0
            try clear p200
            try clear q200
            obtain ⟨x3_2, x5_2, rfl, rfl, HA, HK2, ⟨m2, rfl⟩⟩ := hrel
            cases gk with
            | zero => exact absurd HA.out (by simp [dragnetref01_Sum.l1])
            | succ k2 =>
              have H := HA.out
              clear HA
              simp only [dragnetref01_Sum.l1] at H
              by_cases c4 : x5_2 < 8
              · rw [if_pos c4] at H
                have c4b0 : decide (x5_2 < 8) = true := decide_eq_true c4
                clear c4
                by_cases c5 : (Int.tmod x3_2 2) = 1
                · rw [if_pos c5] at H
                  have c5b0 : ((Int.tmod x3_2 2) == 1) = true := beq_iff_eq.mpr c5
                  have c5b1 : ((Int.tmod x3_2 2) != 1) = false := bne_eq_false_iff_eq.mpr c5
                  clear c5
                  have H' := Aside0.mk H
                  clear H
                  go_wp2
                  go_roundg k2
                  case measure => have := HK1.out; have := HK2.out; omega
                  case rel => exact ⟨(Go.bits .xor .u32 ((Int.tdiv x3_2 2) % 4294967296) 2197175160), (wrap64 (x5_2 + 1)), (by first | rfl | (simp; done) | (simp [*]; done)), (by first | rfl | (simp; done) | (simp [*]; done)), H', ⟨by have := HK1.out; have := HK2.out; omega⟩, by repeat (first | exact Drawn0.refl _ | apply Drawn0.step)⟩
                · rw [if_neg c5] at H
                  have c5b0 : ((Int.tmod x3_2 2) == 1) = false := beq_eq_false_iff_ne.mpr c5
                  have c5b1 : ((Int.tmod x3_2 2) != 1) = true := bne_iff_ne.mpr c5
                  have H' := Aside0.mk H
                  clear H
                  go_wp2
                  go_roundg k2
                  case measure => have := HK1.out; have := HK2.out; omega
                  case rel => exact ⟨((Int.tdiv x3_2 2) % 4294967296), (wrap64 (x5_2 + 1)), (by first | rfl | (simp; done) | (simp [*]; done)), (by first | rfl | (simp; done) | (simp [*]; done)), H', ⟨by have := HK1.out; have := HK2.out; omega⟩, by repeat (first | exact Drawn0.refl _ | apply Drawn0.step)⟩
              · rw [if_neg c4] at H
                have c4b0 : decide (x5_2 < 8) = false := decide_eq_false c4
                clear c4
                have H' := Aside0.mk H
                clear H
                go_wp2
                go_roundg k2
                case measure => have := HK1.out; have := HK2.out; omega
                case rel => exact ⟨(x3_2), (wrap64 (x4_1 + 1)), (by first | rfl | (simp; done) | (simp [*]; done)), (by first | rfl | (simp; done) | (simp [*]; done)), H', ⟨by have := HK1.out; have := HK2.out; omega⟩, by repeat (first | exact Drawn0.refl _ | apply Drawn0.step)⟩
        · rw [if_neg c3] at H
          exact absurd H (by simp)
      · rw [if_neg c2] at H
        have c2b0 : decide (x4_1 < (l0.length : Int)) = false := decide_eq_false c2
        clear c2
        obtain rfl := Option.some.inj H
        go_wp2
        go_ret
        exact ⟨by first | rfl | (simp; done) | (simp [*]; done), by repeat (first | exact Drawn0.refl _ | apply Drawn0.step)⟩
end Go.Proofs.YtdcifmonhaklcaaDoor.Q
