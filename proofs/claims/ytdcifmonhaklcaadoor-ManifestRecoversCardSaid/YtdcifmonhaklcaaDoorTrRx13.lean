/- Walks: each Go function told here comes to what the plain function beside it says, wherever that one answers. -/
import Derived.Test.YtdcifmonhaklcaaDoorTrRx0
import Derived.Test.YtdcifmonhaklcaaDoorTrRx2
import Derived.Test.YtdcifmonhaklcaaDoorTrRx12
namespace Go.Proofs.YtdcifmonhaklcaaDoor.R
open Go.RowKit YtdcifmonhaklcaaDoorW.PrintWords YtdcifmonhaklcaaDoorW.PrintLast YtdcifmonhaklcaaDoorW.PrintMore
attribute [local go_sem] min2_int min_two
attribute [local go_sem] geq_str
set_option linter.unusedVariables false
set_option linter.unusedSimpArgs false
def dragnetref02_Take.l0 : Nat → List Int → Int → Int → Int → Option (Int × Int × Int)
 | 0, _, _, _, _ => none
 | k + 1, x0, x5, x6, x7 => if x7 > 0 then (if 0 ≤ x7 then (if x7 < (x0.length : Int) then (dragnetref02_Take.l0 k x0 x5 (IntKind.u64.wrap ((IntKind.u64.wrap (x6 * 256)) + (IntKind.u64.wrap (rd x0 x7)))) (wrap64 (x7 - 1))) else (none)) else (none)) else ((dragnetref02_Bytes.f k x6).bind fun t275 => (if (t275.length : Int) = (wrap64 (1 + x5)) then (some (x6, wrap64 (1 + x5), 0)) else (some (0, 0, 2))))
def dragnetref02_Take.f (k : Nat) (l0 : List Int) : Option (Int × Int × Int) := if (l0.length : Int) = 0 then (some (0, 0, 3)) else (if 0 < (l0.length : Int) then (if (rd l0 0) ≤ 247 then (some (IntKind.u64.wrap (rd l0 0), 1, 0)) else (if (wrap64 ((l0.length : Int) - 1)) < (wrap64 ((wrap64 (rd l0 0)) - 247)) then (some (0, 0, 3)) else (dragnetref02_Take.l0 k l0 (wrap64 ((wrap64 (rd l0 0)) - 247)) 0 (wrap64 ((wrap64 (rd l0 0)) - 247))))) else (none))
set_option maxHeartbeats 8000000 in
set_option maxRecDepth 100000 in
theorem dragnetref02_Take.calls (k : Nat) (A0 : Option Addr) (c0 : Nat) (l0 : List Int) (r1 : Int) (r2 : Int) (r3 : Int) (w : World) (hr0 : Kd.C (Kd.int .u8) w A0 l0.length l0) (hc0 : l0.length ≤ c0) (h : dragnetref02_Take.f k l0 = some (r1, r2, r3)) :
  Calls Tryd.prog 79 #[.slice A0 l0.length c0] w fun e w' => e = .returned (.tuple #[.int .u64 r1, .int .i64 r2, .int .i64 r3]) ∧ Below w.heap.size w w' := by
 have HR0 := Aside0.mk hr0
 have HC0 := Aside0.mk hc0
 clear hr0 hc0
 have HB := Aside0.mk (Below.refl w.heap.size w)
 have H : (if (l0.length : Int) = 0 then (some (0, 0, 3)) else (if 0 < (l0.length : Int) then (if (rd l0 0) ≤ 247 then (some (IntKind.u64.wrap (rd l0 0), 1, 0)) else (if (wrap64 ((l0.length : Int) - 1)) < (wrap64 ((wrap64 (rd l0 0)) - 247)) then (some (0, 0, 3)) else (dragnetref02_Take.l0 k l0 (wrap64 ((wrap64 (rd l0 0)) - 247)) 0 (wrap64 ((wrap64 (rd l0 0)) - 247))))) else (none))) = some (r1, r2, r3) := h
 clear h
 by_cases c2 : (l0.length : Int) = 0
 ·rw [if_pos c2] at H
  have c2b0 : ((l0.length : Int) == 0) = true := beq_iff_eq.mpr c2
  have c2b1 : ((l0.length : Int) != 0) = false := bne_eq_false_iff_eq.mpr c2
  clear c2
  simp only [Option.some.injEq, Prod.mk.injEq] at H
  obtain ⟨rfl, rfl, rfl⟩ := H
  go_enter Tryd.func79, Tryd.ntmps79
  go_wp2
  go_ret3
  exact ⟨by first | rfl | (simp [errW_none, errW_some] <;> rfl) | (simp [*, errW_none, errW_some] <;> rfl), by repeat (first | (with_reducible first | exact HB.out | apply below_alloc | apply pw_below_drewN | apply below_drew1) | exact HB.out)⟩
 ·rw [if_neg c2] at H
  have c2b0 : ((l0.length : Int) == 0) = false := beq_eq_false_iff_ne.mpr c2
  have c2b1 : ((l0.length : Int) != 0) = true := bne_iff_ne.mpr c2
  have c2b2 : ¬ (l0 = []) := fun h_ => c2 (by rw [h_]; rfl)
  by_cases c3 : 0 < (l0.length : Int)
  ·rw [if_pos c3] at H
   have c3b0 : decide (0 < (l0.length : Int)) = true := decide_eq_true c3
   have c3b1 : decide (0 < l0.length) = true := decide_eq_true (by omega)
   clear c3
   by_cases c4 : (rd l0 0) ≤ 247
   ·rw [if_pos c4] at H
    have c4b0 : decide ((rd l0 0) ≤ 247) = true := decide_eq_true c4
    clear c4
    simp only [Option.some.injEq, Prod.mk.injEq] at H
    obtain ⟨rfl, rfl, rfl⟩ := H
    have p271 : 0 ≤ (0 : Int) := (by omega)
    have q271 : 0 < (l0.length : Int) := of_decide_eq_true (by first | (with_reducible assumption) | assumption)
    obtain ⟨ad271, e271, hx271_0⟩ := Kd.at_int HR0.out 0 p271 q271
    cases e271
    have qi271 : (0 < l0.length) = True := eq_true (by omega)
    (try rw [show ((0 : Int)).toNat = 0 from rfl] at hx271_0)
    (try rw [Addr.add_zero'] at hx271_0)
    replace p271 := eq_true p271
    replace q271 := eq_true q271
    have p272 : 0 ≤ (0 : Int) := (by omega)
    have q272 : 0 < (l0.length : Int) := of_decide_eq_true (by first | (with_reducible assumption) | assumption)
    obtain ⟨ad272, e272, hx272_0⟩ := Kd.at_int HR0.out 0 p272 q272
    obtain rfl : ad271 = ad272 := (by injection e272)
    have qi272 : (0 < l0.length) = True := eq_true (by omega)
    (try rw [show ((0 : Int)).toNat = 0 from rfl] at hx272_0)
    (try rw [Addr.add_zero'] at hx272_0)
    replace p272 := eq_true p272
    replace q272 := eq_true q272
    go_enter Tryd.func79, Tryd.ntmps79
    go_wp2
    go_ret3
    exact ⟨by first | rfl | (simp [errW_none, errW_some] <;> rfl) | (simp [*, errW_none, errW_some] <;> rfl), by repeat (first | (with_reducible first | exact HB.out | apply below_alloc | apply pw_below_drewN | apply below_drew1) | exact HB.out)⟩
   ·rw [if_neg c4] at H
    have c4b0 : decide ((rd l0 0) ≤ 247) = false := decide_eq_false c4
    clear c4
    by_cases c5 : (wrap64 ((l0.length : Int) - 1)) < (wrap64 ((wrap64 (rd l0 0)) - 247))
    ·rw [if_pos c5] at H
     have c5b0 : decide ((wrap64 ((l0.length : Int) - 1)) < (wrap64 ((wrap64 (rd l0 0)) - 247))) = true := decide_eq_true c5
     clear c5
     simp only [Option.some.injEq, Prod.mk.injEq] at H
     obtain ⟨rfl, rfl, rfl⟩ := H
     have p271 : 0 ≤ (0 : Int) := (by omega)
     have q271 : 0 < (l0.length : Int) := of_decide_eq_true (by first | (with_reducible assumption) | assumption)
     obtain ⟨ad271, e271, hx271_0⟩ := Kd.at_int HR0.out 0 p271 q271
     cases e271
     have qi271 : (0 < l0.length) = True := eq_true (by omega)
     (try rw [show ((0 : Int)).toNat = 0 from rfl] at hx271_0)
     (try rw [Addr.add_zero'] at hx271_0)
     replace p271 := eq_true p271
     replace q271 := eq_true q271
     have p273 : 0 ≤ (0 : Int) := (by omega)
     have q273 : 0 < (l0.length : Int) := of_decide_eq_true (by first | (with_reducible assumption) | assumption)
     obtain ⟨ad273, e273, hx273_0⟩ := Kd.at_int HR0.out 0 p273 q273
     obtain rfl : ad271 = ad273 := (by injection e273)
     have qi273 : (0 < l0.length) = True := eq_true (by omega)
     (try rw [show ((0 : Int)).toNat = 0 from rfl] at hx273_0)
     (try rw [Addr.add_zero'] at hx273_0)
     replace p273 := eq_true p273
     replace q273 := eq_true q273
     go_enter Tryd.func79, Tryd.ntmps79
     go_wp2
     go_ret3
     exact ⟨by first | rfl | (simp [errW_none, errW_some] <;> rfl) | (simp [*, errW_none, errW_some] <;> rfl), by repeat (first | (with_reducible first | exact HB.out | apply below_alloc | apply pw_below_drewN | apply below_drew1) | exact HB.out)⟩
    ·rw [if_neg c5] at H
     have c5b0 : decide ((wrap64 ((l0.length : Int) - 1)) < (wrap64 ((wrap64 (rd l0 0)) - 247))) = false := decide_eq_false c5
     clear c5
     have H' := Aside0.mk H
     clear H
     have p271 : 0 ≤ (0 : Int) := (by omega)
     have q271 : 0 < (l0.length : Int) := of_decide_eq_true (by first | (with_reducible assumption) | assumption)
     obtain ⟨ad271, e271, hx271_0⟩ := Kd.at_int HR0.out 0 p271 q271
     cases e271
     have qi271 : (0 < l0.length) = True := eq_true (by omega)
     (try rw [show ((0 : Int)).toNat = 0 from rfl] at hx271_0)
     (try rw [Addr.add_zero'] at hx271_0)
     replace p271 := eq_true p271
     replace q271 := eq_true q271
     have p273 : 0 ≤ (0 : Int) := (by omega)
     have q273 : 0 < (l0.length : Int) := of_decide_eq_true (by first | (with_reducible assumption) | assumption)
     obtain ⟨ad273, e273, hx273_0⟩ := Kd.at_int HR0.out 0 p273 q273
     obtain rfl : ad271 = ad273 := (by injection e273)
     have qi273 : (0 < l0.length) = True := eq_true (by omega)
     (try rw [show ((0 : Int)).toNat = 0 from rfl] at hx273_0)
     (try rw [Addr.add_zero'] at hx273_0)
     replace p273 := eq_true p273
     replace q273 := eq_true q273
     go_enter Tryd.func79, Tryd.ntmps79
     go_wp2
     go_loopg [6, 7] k (fun kq v6 v7 w' => ∃ (x6_1 : Int) (x7_1 : Int), v6 = .int .u64 x6_1 ∧ v7 = .int .i64 x7_1 ∧ Aside0 (dragnetref02_Take.l0 kq l0 (wrap64 ((wrap64 (rd l0 0)) - 247)) x6_1 x7_1 = some (r1, r2, r3)) ∧ Aside0 (kq ≤ k) ∧ Aside0 (Below w.heap.size w w'))
     case atStart => exact ⟨(0), (wrap64 ((wrap64 (rd l0 0)) - 247)), (by first | rfl | (simp; done) | (simp [*]; done)), (by first | rfl | (simp; done) | (simp [*]; done)), H', ⟨Nat.le_refl _⟩, ⟨by repeat (first | (with_reducible first | exact HB.out | apply below_alloc | apply pw_below_drewN | apply below_drew1) | exact HB.out)⟩⟩
     case round =>
      clear H'
      try clear c2
      try clear c2b0
      try clear c2b1
      try clear c2b2
      try clear p2
      try clear q2
      try clear hx2
      try clear qi2
      try clear c3
      try clear c3b0
      try clear c3b1
      try clear c4
      try clear c4b0
      try clear c5
      try clear c5b0
      try clear hx271_0
      try clear hx272_0
      try clear hx273_0
      try clear p271
      try clear p272
      try clear p273
      try clear q271
      try clear q272
      try clear q273
      obtain ⟨x6_1, x7_1, rfl, rfl, HA, HK1, HB⟩ := hrel
      cases gk with
      | zero => exact absurd HA.out (by simp [dragnetref02_Take.l0])
      | succ k1 =>
       have H := HA.out
       clear HA
       simp only [dragnetref02_Take.l0] at H
       by_cases c6 : x7_1 > 0
       ·rw [if_pos c6] at H
        have c6b0 : decide (0 < x7_1) = true := decide_eq_true c6
        clear c6
        by_cases c7 : 0 ≤ x7_1
        ·rw [if_pos c7] at H
         have c7b0 : decide (0 ≤ x7_1) = true := decide_eq_true c7
         clear c7
         by_cases c8 : x7_1 < (l0.length : Int)
         ·rw [if_pos c8] at H
          have c8b0 : decide (x7_1 < (l0.length : Int)) = true := decide_eq_true c8
          clear c8
          have H' := Aside0.mk H
          clear H
          have p274 : 0 ≤ (x7_1 : Int) := of_decide_eq_true (by first | (with_reducible assumption) | assumption)
          have q274 : x7_1 < (l0.length : Int) := of_decide_eq_true (by first | (with_reducible assumption) | assumption)
          obtain ⟨ad274, e274, hx274_0⟩ := Kd.at_int HR0.out x7_1 p274 q274
          obtain rfl : ad271 = ad274 := (by injection e274)
          replace hx274_0 := (HB.out.cell (World.block_lt_of_cell? w _ hx274_0)).trans hx274_0
          replace p274 := eq_true p274
          replace q274 := eq_true q274
          go_wp2
          go_roundg k1
          case measure => have := HK1.out; omega
          case rel => exact ⟨(IntKind.u64.wrap ((IntKind.u64.wrap (x6_1 * 256)) + (IntKind.u64.wrap (rd l0 x7_1)))), (wrap64 (x7_1 - 1)), (by first | rfl | (simp; done) | (simp [*]; done)), (by first | rfl | (simp; done) | (simp [*]; done)), H', ⟨by have := HK1.out; omega⟩, ⟨by repeat (first | (with_reducible first | exact HB.out | apply below_alloc | apply pw_below_drewN | apply below_drew1) | exact HB.out)⟩⟩
         ·rw [if_neg c8] at H
          exact absurd H (by simp)
        ·rw [if_neg c7] at H
         exact absurd H (by simp)
       ·rw [if_neg c6] at H
        have c6b0 : decide (0 < x7_1) = false := decide_eq_false c6
        clear c6
        replace H := Option.bind_eq_some_iff.mp H
        obtain ⟨t275, A90, H⟩ := H
        replace H : (if (t275.length : Int) = (wrap64 (1 + (wrap64 ((wrap64 (rd l0 0)) - 247)))) then (some (x6_1, wrap64 (1 + (wrap64 ((wrap64 (rd l0 0)) - 247))), 0)) else (some (0, 0, 2))) = some (r1, r2, r3) := H
        have A9 := Aside0.mk A90
        clear A90
        by_cases c10 : (t275.length : Int) = (wrap64 (1 + (wrap64 ((wrap64 (rd l0 0)) - 247))))
        ·rw [if_pos c10] at H
         have c10b0 : ((t275.length : Int) == (wrap64 (1 + (wrap64 ((wrap64 (rd l0 0)) - 247))))) = true := beq_iff_eq.mpr c10
         have c10b1 : ((t275.length : Int) != (wrap64 (1 + (wrap64 ((wrap64 (rd l0 0)) - 247))))) = false := bne_eq_false_iff_eq.mpr c10
         clear c10
         simp only [Option.some.injEq, Prod.mk.injEq] at H
         obtain ⟨rfl, rfl, rfl⟩ := H
         go_wp2_with (first | ((with_reducible refine gate_callee (f := 42) rfl ?_); refine goesL_ (some 43) rfl rfl Tryd.func42 (by kernel_rfl) rfl #[.int .u64 x6_1] rfl (by (try simp only [List.map_toArray, List.map_cons, List.map_nil]); first | done | rfl | (simp only [List.length_drop, List.length_take]; rfl)) ?_; (with_reducible refine (dragnetref02_Bytes.calls k1 x6_1 t275 _ A9.out).mono ?_); rintro e w11 ⟨v276, rfl, ho0, hb⟩; refine ⟨_, rfl, ?_⟩; have n0_ := Aside0.mk (Kd.R_lower ho0 (below_size (by repeat (first | (with_reducible first | exact HB.out | apply below_alloc | apply pw_below_drewN | apply below_drew1) | exact HB.out)))); have n1_ := Aside0.mk (below_step (by repeat (first | (with_reducible first | exact HB.out | apply below_alloc | apply pw_below_drewN | apply below_drew1) | exact HB.out)) hb); clear HB; have HO277 := n0_; have HB := n1_; clear n0_ n1_; (try clear hb); (try clear hb2); (try clear hk); (try clear hi); (try clear ho0); obtain ⟨Ao12, co12, eo12⟩ := Kd.R_slice HO277.out; subst eo12))
         go_ret3
         exact ⟨by first | rfl | (simp [errW_none, errW_some] <;> rfl) | (simp [*, errW_none, errW_some] <;> rfl), by repeat (first | (with_reducible first | exact HB.out | apply below_alloc | apply pw_below_drewN | apply below_drew1) | exact HB.out)⟩
        ·rw [if_neg c10] at H
         have c10b0 : ((t275.length : Int) == (wrap64 (1 + (wrap64 ((wrap64 (rd l0 0)) - 247))))) = false := beq_eq_false_iff_ne.mpr c10
         have c10b1 : ((t275.length : Int) != (wrap64 (1 + (wrap64 ((wrap64 (rd l0 0)) - 247))))) = true := bne_iff_ne.mpr c10
         simp only [Option.some.injEq, Prod.mk.injEq] at H
         obtain ⟨rfl, rfl, rfl⟩ := H
         go_wp2_with (first | ((with_reducible refine gate_callee (f := 42) rfl ?_); refine goesL_ (some 43) rfl rfl Tryd.func42 (by kernel_rfl) rfl #[.int .u64 x6_1] rfl (by (try simp only [List.map_toArray, List.map_cons, List.map_nil]); first | done | rfl | (simp only [List.length_drop, List.length_take]; rfl)) ?_; (with_reducible refine (dragnetref02_Bytes.calls k1 x6_1 t275 _ A9.out).mono ?_); rintro e w13 ⟨v276, rfl, ho0, hb⟩; refine ⟨_, rfl, ?_⟩; have n0_ := Aside0.mk (Kd.R_lower ho0 (below_size (by repeat (first | (with_reducible first | exact HB.out | apply below_alloc | apply pw_below_drewN | apply below_drew1) | exact HB.out)))); have n1_ := Aside0.mk (below_step (by repeat (first | (with_reducible first | exact HB.out | apply below_alloc | apply pw_below_drewN | apply below_drew1) | exact HB.out)) hb); clear HB; have HO277 := n0_; have HB := n1_; clear n0_ n1_; (try clear hb); (try clear hb2); (try clear hk); (try clear hi); (try clear ho0); obtain ⟨Ao14, co14, eo14⟩ := Kd.R_slice HO277.out; subst eo14))
         go_ret3
         exact ⟨by first | rfl | (simp [errW_none, errW_some] <;> rfl) | (simp [*, errW_none, errW_some] <;> rfl), by repeat (first | (with_reducible first | exact HB.out | apply below_alloc | apply pw_below_drewN | apply below_drew1) | exact HB.out)⟩
  ·rw [if_neg c3] at H
   exact absurd H (by simp)
def dragnetref18_Formed.f (l0_0 : List S63) (a0_1 : Int) (a0_2 : Int) : Option Bool := if l0_0.length < 140737488355328 then some (decide (FormedC l0_0 a0_1 a0_2)) else none
set_option maxHeartbeats 8000000 in
set_option maxRecDepth 100000 in
theorem dragnetref18_Formed.calls (A0_0 : Option Addr) (c0_0 : Nat) (l0_0 : List (S63)) (a0_1 : Int) (a0_2 : Int) (r : Bool) (w : World) (hr0_0 : Kd.C k63 w A0_0 l0_0.length l0_0) (hc0_0 : l0_0.length ≤ c0_0) (h : dragnetref18_Formed.f l0_0 a0_1 a0_2 = some r) :
  Calls Tryd.prog 16 #[.agg #[.slice A0_0 l0_0.length c0_0, .int .i64 a0_1, .int .i64 a0_2]] w fun e w' => e = .returned (.bool r) ∧ Below w.heap.size w w' := by
 unfold dragnetref18_Formed.f at h
 by_cases hl : l0_0.length < 140737488355328
 case neg => rw [if_neg hl] at h; cases h
 rw [if_pos hl] at h
 have HRR := Aside0.mk (Option.some.inj h)
 clear h
 have HR := Aside0.mk hr0_0
 have HC := Aside0.mk hc0_0
 have HB := Aside0.mk (Below.refl w.heap.size w)
 have HL := Aside0.mk hl
 clear hr0_0 hc0_0 hl
 have hu27 := Tryd.underlying27
 have hu63 := Tryd.underlying63
 have hu25 := Tryd.underlying25
 by_cases c0 : 64 < (l0_0.length : Int)
 ·have c0b : decide (64 < (l0_0.length : Int)) = true := decide_eq_true c0
  have hno : decide (FormedC l0_0 a0_1 a0_2) = false := decide_eq_false (fun h => by have := h.1; omega)
  clear c0
  obtain rfl : r = false := HRR.out.symm.trans hno
  go_enter Tryd.func16, Tryd.ntmps16
  go_wp2_with (first
   | ((with_reducible refine gate_dst (N := 1) rfl ?_); refine box_event ?hg (N := 1) ?hd (cs := #[.slice A0_0 l0_0.length c0_0, .int .i64 a0_1, .int .i64 a0_2]) (t := 27) ?hr ?_; (case hd => rfl); (case hg => rfl); (case hr => first | (go_simp; done) | (go_simp; rfl)); intro g1 hg1 w1 hbox hb; have HB_ := Aside0.mk (below_step HB.out hb); have CB1 := Aside0.mk hbox; clear hb hbox hg1 HB; have HB := HB_; clear HB_; have v10 : w1.cell? ⟨g1, 0, none⟩ = some (.slice A0_0 l0_0.length c0_0) := (blk_cell CB1.out 0).trans rfl; have v11 : w1.cell? ⟨g1, 1, none⟩ = some (.int .i64 a0_1) := (blk_cell CB1.out 1).trans rfl; have v12 : w1.cell? ⟨g1, 2, none⟩ = some (.int .i64 a0_2) := (blk_cell CB1.out 2).trans rfl))
  go_ret
  exact ⟨rfl, HB.out⟩
 ·have c0b : decide (64 < (l0_0.length : Int)) = false := decide_eq_false c0
  have C0 := Aside0.mk c0
  clear c0
  by_cases c1 : a0_1 < 0
  ·have c1b : decide (a0_1 < 0) = true := decide_eq_true c1
   have hno : decide (FormedC l0_0 a0_1 a0_2) = false := decide_eq_false (fun h => by have := h.2.1; omega)
   clear c1
   obtain rfl : r = false := HRR.out.symm.trans hno
   go_enter Tryd.func16, Tryd.ntmps16
   go_wp2_with (first
    | ((with_reducible refine gate_dst (N := 1) rfl ?_); refine box_event ?hg (N := 1) ?hd (cs := #[.slice A0_0 l0_0.length c0_0, .int .i64 a0_1, .int .i64 a0_2]) (t := 27) ?hr ?_; (case hd => rfl); (case hg => rfl); (case hr => first | (go_simp; done) | (go_simp; rfl)); intro g1 hg1 w1 hbox hb; have HB_ := Aside0.mk (below_step HB.out hb); have CB1 := Aside0.mk hbox; clear hb hbox hg1 HB; have HB := HB_; clear HB_; have v10 : w1.cell? ⟨g1, 0, none⟩ = some (.slice A0_0 l0_0.length c0_0) := (blk_cell CB1.out 0).trans rfl; have v11 : w1.cell? ⟨g1, 1, none⟩ = some (.int .i64 a0_1) := (blk_cell CB1.out 1).trans rfl; have v12 : w1.cell? ⟨g1, 2, none⟩ = some (.int .i64 a0_2) := (blk_cell CB1.out 2).trans rfl))
   go_ret
   exact ⟨rfl, HB.out⟩
  ·have c1b : decide (a0_1 < 0) = false := decide_eq_false c1
   have C1 := Aside0.mk c1
   clear c1
   by_cases c2 : 2147483647 < a0_1
   ·have c2b : decide (2147483647 < a0_1) = true := decide_eq_true c2
    have hno : decide (FormedC l0_0 a0_1 a0_2) = false := decide_eq_false (fun h => by have := h.2.2.1; omega)
    clear c2
    obtain rfl : r = false := HRR.out.symm.trans hno
    go_enter Tryd.func16, Tryd.ntmps16
    go_wp2_with (first
     | ((with_reducible refine gate_dst (N := 1) rfl ?_); refine box_event ?hg (N := 1) ?hd (cs := #[.slice A0_0 l0_0.length c0_0, .int .i64 a0_1, .int .i64 a0_2]) (t := 27) ?hr ?_; (case hd => rfl); (case hg => rfl); (case hr => first | (go_simp; done) | (go_simp; rfl)); intro g1 hg1 w1 hbox hb; have HB_ := Aside0.mk (below_step HB.out hb); have CB1 := Aside0.mk hbox; clear hb hbox hg1 HB; have HB := HB_; clear HB_; have v10 : w1.cell? ⟨g1, 0, none⟩ = some (.slice A0_0 l0_0.length c0_0) := (blk_cell CB1.out 0).trans rfl; have v11 : w1.cell? ⟨g1, 1, none⟩ = some (.int .i64 a0_1) := (blk_cell CB1.out 1).trans rfl; have v12 : w1.cell? ⟨g1, 2, none⟩ = some (.int .i64 a0_2) := (blk_cell CB1.out 2).trans rfl))
    go_ret
    exact ⟨rfl, HB.out⟩
   ·have c2b : decide (2147483647 < a0_1) = false := decide_eq_false c2
    have C2 := Aside0.mk c2
    clear c2
    by_cases c3 : a0_2 < 0
    ·have c3b : decide (a0_2 < 0) = true := decide_eq_true c3
     have hno : decide (FormedC l0_0 a0_1 a0_2) = false := decide_eq_false (fun h => by have := h.2.2.2.1; omega)
     clear c3
     obtain rfl : r = false := HRR.out.symm.trans hno
     go_enter Tryd.func16, Tryd.ntmps16
     go_wp2_with (first
      | ((with_reducible refine gate_dst (N := 1) rfl ?_); refine box_event ?hg (N := 1) ?hd (cs := #[.slice A0_0 l0_0.length c0_0, .int .i64 a0_1, .int .i64 a0_2]) (t := 27) ?hr ?_; (case hd => rfl); (case hg => rfl); (case hr => first | (go_simp; done) | (go_simp; rfl)); intro g1 hg1 w1 hbox hb; have HB_ := Aside0.mk (below_step HB.out hb); have CB1 := Aside0.mk hbox; clear hb hbox hg1 HB; have HB := HB_; clear HB_; have v10 : w1.cell? ⟨g1, 0, none⟩ = some (.slice A0_0 l0_0.length c0_0) := (blk_cell CB1.out 0).trans rfl; have v11 : w1.cell? ⟨g1, 1, none⟩ = some (.int .i64 a0_1) := (blk_cell CB1.out 1).trans rfl; have v12 : w1.cell? ⟨g1, 2, none⟩ = some (.int .i64 a0_2) := (blk_cell CB1.out 2).trans rfl))
     go_ret
     exact ⟨rfl, HB.out⟩
    ·have c3b : decide (a0_2 < 0) = false := decide_eq_false c3
     have C3 := Aside0.mk c3
     clear c3
     by_cases c4 : 1099511627776 < a0_2
     ·have c4b : decide (1099511627776 < a0_2) = true := decide_eq_true c4
      have hno : decide (FormedC l0_0 a0_1 a0_2) = false := decide_eq_false (fun h => by have := h.2.2.2.2.1; omega)
      clear c4
      obtain rfl : r = false := HRR.out.symm.trans hno
      go_enter Tryd.func16, Tryd.ntmps16
      go_wp2_with (first
       | ((with_reducible refine gate_dst (N := 1) rfl ?_); refine box_event ?hg (N := 1) ?hd (cs := #[.slice A0_0 l0_0.length c0_0, .int .i64 a0_1, .int .i64 a0_2]) (t := 27) ?hr ?_; (case hd => rfl); (case hg => rfl); (case hr => first | (go_simp; done) | (go_simp; rfl)); intro g1 hg1 w1 hbox hb; have HB_ := Aside0.mk (below_step HB.out hb); have CB1 := Aside0.mk hbox; clear hb hbox hg1 HB; have HB := HB_; clear HB_; have v10 : w1.cell? ⟨g1, 0, none⟩ = some (.slice A0_0 l0_0.length c0_0) := (blk_cell CB1.out 0).trans rfl; have v11 : w1.cell? ⟨g1, 1, none⟩ = some (.int .i64 a0_1) := (blk_cell CB1.out 1).trans rfl; have v12 : w1.cell? ⟨g1, 2, none⟩ = some (.int .i64 a0_2) := (blk_cell CB1.out 2).trans rfl))
      go_ret
      exact ⟨rfl, HB.out⟩
     ·have c4b : decide (1099511627776 < a0_2) = false := decide_eq_false c4
      have C4 := Aside0.mk c4
      clear c4
      go_enter Tryd.func16, Tryd.ntmps16
      go_upto_region 3 with (first
       | ((with_reducible refine gate_dst (N := 1) rfl ?_); refine box_event ?hg (N := 1) ?hd (cs := #[.slice A0_0 l0_0.length c0_0, .int .i64 a0_1, .int .i64 a0_2]) (t := 27) ?hr ?_; (case hd => rfl); (case hg => rfl); (case hr => first | (go_simp; done) | (go_simp; rfl)); intro g1 hg1 w1 hbox hb; have HB_ := Aside0.mk (below_step HB.out hb); have CB1 := Aside0.mk hbox; clear hb hbox hg1 HB; have HB := HB_; clear HB_; have v10 : w1.cell? ⟨g1, 0, none⟩ = some (.slice A0_0 l0_0.length c0_0) := (blk_cell CB1.out 0).trans rfl; have v11 : w1.cell? ⟨g1, 1, none⟩ = some (.int .i64 a0_1) := (blk_cell CB1.out 1).trans rfl; have v12 : w1.cell? ⟨g1, 2, none⟩ = some (.int .i64 a0_2) := (blk_cell CB1.out 2).trans rfl))
      go_wp2
      go_loopw [3] (fun v3 w' => ∃ i : Nat, v3 = .int .i64 i ∧ i ≤ l0_0.length ∧ Aside0 (∀ j, j < i → okC l0_0 a0_1 a0_2 j) ∧ Aside0 (w'.heap[g1]? = some (.cells #[.slice A0_0 l0_0.length c0_0, .int .i64 a0_1, .int .i64 a0_2] 27 (0, 0))) ∧ Aside0 (Below w.heap.size w w')) (fun v3 _ => l0_0.length - (intOf v3).toNat)
      case atStart => exact ⟨0, rfl, Nat.zero_le _, ⟨fun j hj => absurd hj (Nat.not_lt_zero j)⟩, CB1, HB⟩
      case round =>
       clear CB1 HB v10 v11 v12 c0b c1b c2b c3b c4b
       obtain ⟨i, rfl, hil, HOK, CB1, HB⟩ := hrel
       have v10 : wr.cell? ⟨g1, 0, none⟩ = some (.slice A0_0 l0_0.length c0_0) := (blk_cell CB1.out 0).trans rfl
       have v11 : wr.cell? ⟨g1, 1, none⟩ = some (.int .i64 a0_1) := (blk_cell CB1.out 1).trans rfl
       have v12 : wr.cell? ⟨g1, 2, none⟩ = some (.int .i64 a0_2) := (blk_cell CB1.out 2).trans rfl
       by_cases cs : i < l0_0.length
       ·have csd := decide_eq_true (show (i : Int) < (l0_0.length : Int) by omega)
        obtain ⟨ad, rfl, hx0, hx1, hx2, hx3⟩ := at_T63 HR.out (i : Int) (by omega) (by omega)
        obtain ⟨x, hx⟩ : ∃ x, x = rd_T63 l0_0 (i : Int) := ⟨_, rfl⟩
        have HX := Aside0.mk hx
        rw [← hx] at hx0 hx1 hx2 hx3
        replace hx0 := (HB.out.cell (World.block_lt_of_cell? w _ hx0)).trans hx0
        replace hx1 := (HB.out.cell (World.block_lt_of_cell? w _ hx1)).trans hx1
        replace hx2 := (HB.out.cell (World.block_lt_of_cell? w _ hx2)).trans hx2
        replace hx3 := (HB.out.cell (World.block_lt_of_cell? w _ hx3)).trans hx3
        rw [Int.toNat_natCast] at hx0 hx1 hx2 hx3
        clear hx
        have q0 := eq_true (show (0 : Int) ≤ (i : Int) by omega)
        have q1 := eq_true (show (i : Int) < (l0_0.length : Int) by omega)
        have hwr : IntKind.i64.wrap ((i : Int) + 1) = ((i + 1 : Nat) : Int) := by rw [IntKind.wrap_i64]; have := HL.out; omega
        have HE := Aside0.mk (endC_ge HOK.out)
        go_upto_region 7 with (first
         | fail)
        have BX := Aside0.mk (blk_new wr (.cells #[.int .i64 x.f0, .int .i64 x.f1, .int .i64 x.f2, .int .i64 x.f3] 63 (0, 0)))
        have CB1_ := Aside0.mk (blk_alloc CB1.out (.cells #[.int .i64 x.f0, .int .i64 x.f1, .int .i64 x.f2, .int .i64 x.f3] 63 (0, 0)))
        have HB_ := Aside0.mk (below_alloc HB.out (.cells #[.int .i64 x.f0, .int .i64 x.f1, .int .i64 x.f2, .int .i64 x.f3] 63 (0, 0)))
        clear CB1 HB hx0 hx1 hx2 hx3 v10 v11 v12
        generalize wr.alloc (.cells #[.int .i64 x.f0, .int .i64 x.f1, .int .i64 x.f2, .int .i64 x.f3] 63 (0, 0)) = W2 at *
        generalize wr.heap.size = g4 at *
        have HB := HB_
        have CB1 := CB1_
        clear HB_ CB1_
        have v10 : W2.cell? ⟨g1, 0, none⟩ = some (.slice (some ad) l0_0.length c0_0) := (blk_cell CB1.out 0).trans rfl
        have v11 : W2.cell? ⟨g1, 1, none⟩ = some (.int .i64 a0_1) := (blk_cell CB1.out 1).trans rfl
        have v12 : W2.cell? ⟨g1, 2, none⟩ = some (.int .i64 a0_2) := (blk_cell CB1.out 2).trans rfl
        have y0 : W2.cell? ⟨g4, 0, none⟩ = some (.int .i64 x.f0) := (blk_cell BX.out 0).trans rfl
        have y1 : W2.cell? ⟨g4, 1, none⟩ = some (.int .i64 x.f1) := (blk_cell BX.out 1).trans rfl
        have y2 : W2.cell? ⟨g4, 2, none⟩ = some (.int .i64 x.f2) := (blk_cell BX.out 2).trans rfl
        have y3 : W2.cell? ⟨g4, 3, none⟩ = some (.int .i64 x.f3) := (blk_cell BX.out 3).trans rfl
        by_cases i0 : i = 0
        ·have hE := Aside0.mk (show endC l0_0 i = -1 by unfold endC; rw [if_pos i0])
         have i0d : decide ((0 : Int) < (i : Int)) = false := decide_eq_false (by omega)
         have i0n : (0 < i) = False := eq_false (by omega)
         have HI0 := Aside0.mk i0
         clear i0
         by_cases d0 : x.f0 < 0
         ·have d0b : decide (x.f0 < 0) = true := decide_eq_true d0
          have hno : decide (FormedC l0_0 a0_1 a0_2) = false := formed_not cs (fun h => by unfold okC at h; rw [← HX.out] at h; have := h.1; omega)
          clear d0
          go_quiet (fail)
          have HB7 := Aside0.mk (pw_below_drewN HB.out nq)
          go_wp2
          go_ret
          obtain rfl : r = false := HRR.out.symm.trans hno
          exact ⟨rfl, HB7.out⟩
         ·have d0b : decide (x.f0 < 0) = false := decide_eq_false d0
          have D0 := Aside0.mk d0
          clear d0
          by_cases d1 : a0_1 ≤ x.f0
          ·have d1b : decide (a0_1 ≤ x.f0) = true := decide_eq_true d1
           have hno : decide (FormedC l0_0 a0_1 a0_2) = false := formed_not cs (fun h => by unfold okC at h; rw [← HX.out] at h; have := h.2.1; omega)
           clear d1
           go_quiet (fail)
           have HB7 := Aside0.mk (pw_below_drewN HB.out nq)
           go_wp2
           go_ret
           obtain rfl : r = false := HRR.out.symm.trans hno
           exact ⟨rfl, HB7.out⟩
          ·have d1b : decide (a0_1 ≤ x.f0) = false := decide_eq_false d1
           have D1 := Aside0.mk d1
           clear d1
           by_cases d2 : x.f1 < 0
           ·have d2b : decide (x.f1 < 0) = true := decide_eq_true d2
            have hno : decide (FormedC l0_0 a0_1 a0_2) = false := formed_not cs (fun h => by unfold okC at h; rw [← HX.out] at h; have := h.2.2.2.1; have := HE.out; omega)
            clear d2
            go_quiet (fail)
            have HB7 := Aside0.mk (pw_below_drewN HB.out nq)
            go_wp2
            go_ret
            obtain rfl : r = false := HRR.out.symm.trans hno
            exact ⟨rfl, HB7.out⟩
           ·have d2b : decide (x.f1 < 0) = false := decide_eq_false d2
            have D2 := Aside0.mk d2
            clear d2
            by_cases d3 : x.f2 < x.f1
            ·have d3b : decide (x.f2 < x.f1) = true := decide_eq_true d3
             have hno : decide (FormedC l0_0 a0_1 a0_2) = false := formed_not cs (fun h => by unfold okC at h; rw [← HX.out] at h; have := h.2.2.2.2.1; omega)
             clear d3
             go_quiet (fail)
             have HB7 := Aside0.mk (pw_below_drewN HB.out nq)
             go_wp2
             go_ret
             obtain rfl : r = false := HRR.out.symm.trans hno
             exact ⟨rfl, HB7.out⟩
            ·have d3b : decide (x.f2 < x.f1) = false := decide_eq_false d3
             have D3 := Aside0.mk d3
             clear d3
             by_cases d4 : a0_2 ≤ x.f2
             ·have d4b : decide (a0_2 ≤ x.f2) = true := decide_eq_true d4
              have hno : decide (FormedC l0_0 a0_1 a0_2) = false := formed_not cs (fun h => by unfold okC at h; rw [← HX.out] at h; have := h.2.2.2.2.2.1; omega)
              clear d4
              go_quiet (fail)
              have HB7 := Aside0.mk (pw_below_drewN HB.out nq)
              go_wp2
              go_ret
              obtain rfl : r = false := HRR.out.symm.trans hno
              exact ⟨rfl, HB7.out⟩
             ·have d4b : decide (a0_2 ≤ x.f2) = false := decide_eq_false d4
              have D4 := Aside0.mk d4
              clear d4
              by_cases d5 : x.f3 < 1
              ·have d5b : decide (x.f3 < 1) = true := decide_eq_true d5
               have hno : decide (FormedC l0_0 a0_1 a0_2) = false := formed_not cs (fun h => by unfold okC at h; rw [← HX.out] at h; have := h.2.2.2.2.2.2.1; omega)
               clear d5
               go_quiet (fail)
               have HB7 := Aside0.mk (pw_below_drewN HB.out nq)
               go_wp2
               go_ret
               obtain rfl : r = false := HRR.out.symm.trans hno
               exact ⟨rfl, HB7.out⟩
              ·have d5b : decide (x.f3 < 1) = false := decide_eq_false d5
               have D5 := Aside0.mk d5
               clear d5
               by_cases d6 : 4096 < x.f3
               ·have d6b : decide (4096 < x.f3) = true := decide_eq_true d6
                have hno : decide (FormedC l0_0 a0_1 a0_2) = false := formed_not cs (fun h => by unfold okC at h; rw [← HX.out] at h; have := h.2.2.2.2.2.2.2.1; omega)
                clear d6
                go_quiet (fail)
                have HB7 := Aside0.mk (pw_below_drewN HB.out nq)
                go_wp2
                go_ret
                obtain rfl : r = false := HRR.out.symm.trans hno
                exact ⟨rfl, HB7.out⟩
               ·have d6b : decide (4096 < x.f3) = false := decide_eq_false d6
                have D6 := Aside0.mk d6
                clear d6
                have hsb : wrap64 (x.f2 - x.f1) = x.f2 - x.f1 := by have := D2.out; have := D3.out; have := D4.out; have := C4.out; unfold wrap64; omega
                have hsc : wrap64 (x.f3 - 1) = x.f3 - 1 := by have := D5.out; have := D6.out; unfold wrap64; omega
                by_cases d7 : x.f2 - x.f1 < x.f3 - 1
                ·have d7b : decide (x.f2 - x.f1 < x.f3 - 1) = true := decide_eq_true d7
                 have hno : decide (FormedC l0_0 a0_1 a0_2) = false := formed_not cs (fun h => by unfold okC at h; rw [← HX.out] at h; have := h.2.2.2.2.2.2.2.2; omega)
                 clear d7
                 go_quiet (fail)
                 have HB7 := Aside0.mk (pw_below_drewN HB.out nq)
                 go_wp2
                 go_ret
                 obtain rfl : r = false := HRR.out.symm.trans hno
                 exact ⟨rfl, HB7.out⟩
                ·have d7b : decide (x.f2 - x.f1 < x.f3 - 1) = false := decide_eq_false d7
                 have D7 := Aside0.mk d7
                 clear d7
                 have HOKI := Aside0.mk (show (∀ k, k < i → (rd_T63 l0_0 (k : Int)).f0 ≠ x.f0) → okC l0_0 a0_1 a0_2 i from fun hne => by
                  unfold okC
                  rw [← HX.out]
                  have d0_ := D0.out
                  have d1_ := D1.out
                  have d2_ := D2.out
                  have d3_ := D3.out
                  have d4_ := D4.out
                  have d5_ := D5.out
                  have d6_ := D6.out
                  have d7_ := D7.out
                  exact ⟨by omega, by omega, hne, by rw [hE.out]; omega, by omega, by omega, by omega, by omega, by omega⟩)
                 go_quiet (fail)
                 have HB_ := Aside0.mk (pw_below_drewN HB.out nq)
                 have CB1_ := Aside0.mk (blk_drewN CB1.out nq)
                 have BX_ := Aside0.mk (blk_drewN BX.out nq)
                 clear HB CB1 BX v10 v11 v12 y0 y1 y2 y3 
                 generalize W2.drewN nq = W3 at *
                 go_wp2
                 go_loopw [5] (fun v5 w' => ∃ t : Nat, v5 = .int .i64 t ∧ t ≤ i ∧ Aside0 (∀ s, s < t → (rd_T63 l0_0 (s : Int)).f0 ≠ x.f0) ∧ Aside0 (w'.heap[g1]? = some (.cells #[.slice (some ad) l0_0.length c0_0, .int .i64 a0_1, .int .i64 a0_2] 27 (0, 0))) ∧ Aside0 (w'.heap[g4]? = some (.cells #[.int .i64 x.f0, .int .i64 x.f1, .int .i64 x.f2, .int .i64 x.f3] 63 (0, 0))) ∧ Aside0 (Below w.heap.size w w')) (fun v5 _ => i - (intOf v5).toNat)
                 case atStart => exact ⟨0, rfl, Nat.zero_le _, ⟨fun s hs => absurd hs (Nat.not_lt_zero s)⟩, CB1_, BX_, HB_⟩
                 case round =>
                  clear CB1_ BX_ HB_
                  obtain ⟨t, rfl, hti, HNE, CB1, BX, HB⟩ := hrel
                  by_cases ct : t < i
                  ·exact absurd ct (by have := HI0.out; omega)
                  ·obtain rfl : t = i := by omega
                   have ctd : decide ((t : Int) < (t : Int)) = false := decide_eq_false (Int.lt_irrefl _)
                   have hoki := HOKI.out HNE.out
                   go_wp2
                   go_roundw
                   ·exact ⟨t + 1, by rw [HI0.out]; rfl, cs, ⟨fun s hs => by rcases Nat.lt_or_eq_of_le (Nat.lt_succ_iff.1 hs) with h3 | h3; exact HOK.out s h3; rw [h3]; exact hoki⟩, CB1, HB⟩
                   ·show l0_0.length - (((t : Int) + 1)).toNat < l0_0.length - (t : Int).toNat
                    omega
        ·have hE := Aside0.mk (show endC l0_0 i = (rd_T63 l0_0 ((i - 1 : Nat) : Int)).f2 by unfold endC; rw [if_neg i0])
         have i0d : decide ((0 : Int) < (i : Int)) = true := decide_eq_true (by omega)
         have i0n : (0 < i) = True := eq_true (by omega)
         obtain ⟨j, hj⟩ : ∃ j, j = (i : Int) - 1 := ⟨_, rfl⟩
         have hwr0 : IntKind.i64.wrap ((i : Int) - 1) = j := by have := HL.out; rw [IntKind.wrap_i64]; omega
         have hwr1 : wrap64 ((i : Int) - 1) = j := by have := HL.out; unfold wrap64; omega
         have HJ := Aside0.mk (show ((i - 1 : Nat) : Int) = j by omega)
         have i1a : (0 : Int) ≤ j := by omega
         have i1b : j < l0_0.length := by omega
         clear hj
         obtain ⟨ad2, ead, hp0, hp1, hp2, hp3⟩ := at_T63 HR.out j i1a i1b
         replace i1a := eq_true i1a
         replace i1b := eq_true i1b
         cases ead
         replace hp2 := (HB.out.cell (World.block_lt_of_cell? w _ hp2)).trans hp2
         clear hp0 hp1 hp3
         obtain ⟨y, hyy⟩ : ∃ y, y = rd_T63 l0_0 j := ⟨_, rfl⟩
         have HY := Aside0.mk hyy
         rw [← hyy] at hp2
         clear hyy
         by_cases d0 : x.f0 < 0
         ·have d0b : decide (x.f0 < 0) = true := decide_eq_true d0
          have hno : decide (FormedC l0_0 a0_1 a0_2) = false := formed_not cs (fun h => by unfold okC at h; rw [← HX.out] at h; have := h.1; omega)
          clear d0
          go_quiet (fail)
          have HB7 := Aside0.mk (pw_below_drewN HB.out nq)
          go_wp2
          go_ret
          obtain rfl : r = false := HRR.out.symm.trans hno
          exact ⟨rfl, HB7.out⟩
         ·have d0b : decide (x.f0 < 0) = false := decide_eq_false d0
          have D0 := Aside0.mk d0
          clear d0
          by_cases d1 : a0_1 ≤ x.f0
          ·have d1b : decide (a0_1 ≤ x.f0) = true := decide_eq_true d1
           have hno : decide (FormedC l0_0 a0_1 a0_2) = false := formed_not cs (fun h => by unfold okC at h; rw [← HX.out] at h; have := h.2.1; omega)
           clear d1
           go_quiet (fail)
           have HB7 := Aside0.mk (pw_below_drewN HB.out nq)
           go_wp2
           go_ret
           obtain rfl : r = false := HRR.out.symm.trans hno
           exact ⟨rfl, HB7.out⟩
          ·have d1b : decide (a0_1 ≤ x.f0) = false := decide_eq_false d1
           have D1 := Aside0.mk d1
           clear d1
           by_cases d2 : x.f1 < 0
           ·have d2b : decide (x.f1 < 0) = true := decide_eq_true d2
            have hno : decide (FormedC l0_0 a0_1 a0_2) = false := formed_not cs (fun h => by unfold okC at h; rw [← HX.out] at h; have := h.2.2.2.1; have := HE.out; omega)
            clear d2
            go_quiet (fail)
            have HB7 := Aside0.mk (pw_below_drewN HB.out nq)
            go_wp2
            go_ret
            obtain rfl : r = false := HRR.out.symm.trans hno
            exact ⟨rfl, HB7.out⟩
           ·have d2b : decide (x.f1 < 0) = false := decide_eq_false d2
            have D2 := Aside0.mk d2
            clear d2
            by_cases d3 : x.f2 < x.f1
            ·have d3b : decide (x.f2 < x.f1) = true := decide_eq_true d3
             have hno : decide (FormedC l0_0 a0_1 a0_2) = false := formed_not cs (fun h => by unfold okC at h; rw [← HX.out] at h; have := h.2.2.2.2.1; omega)
             clear d3
             go_quiet (fail)
             have HB7 := Aside0.mk (pw_below_drewN HB.out nq)
             go_wp2
             go_ret
             obtain rfl : r = false := HRR.out.symm.trans hno
             exact ⟨rfl, HB7.out⟩
            ·have d3b : decide (x.f2 < x.f1) = false := decide_eq_false d3
             have D3 := Aside0.mk d3
             clear d3
             by_cases d4 : a0_2 ≤ x.f2
             ·have d4b : decide (a0_2 ≤ x.f2) = true := decide_eq_true d4
              have hno : decide (FormedC l0_0 a0_1 a0_2) = false := formed_not cs (fun h => by unfold okC at h; rw [← HX.out] at h; have := h.2.2.2.2.2.1; omega)
              clear d4
              go_quiet (fail)
              have HB7 := Aside0.mk (pw_below_drewN HB.out nq)
              go_wp2
              go_ret
              obtain rfl : r = false := HRR.out.symm.trans hno
              exact ⟨rfl, HB7.out⟩
             ·have d4b : decide (a0_2 ≤ x.f2) = false := decide_eq_false d4
              have D4 := Aside0.mk d4
              clear d4
              by_cases d5 : x.f3 < 1
              ·have d5b : decide (x.f3 < 1) = true := decide_eq_true d5
               have hno : decide (FormedC l0_0 a0_1 a0_2) = false := formed_not cs (fun h => by unfold okC at h; rw [← HX.out] at h; have := h.2.2.2.2.2.2.1; omega)
               clear d5
               go_quiet (fail)
               have HB7 := Aside0.mk (pw_below_drewN HB.out nq)
               go_wp2
               go_ret
               obtain rfl : r = false := HRR.out.symm.trans hno
               exact ⟨rfl, HB7.out⟩
              ·have d5b : decide (x.f3 < 1) = false := decide_eq_false d5
               have D5 := Aside0.mk d5
               clear d5
               by_cases d6 : 4096 < x.f3
               ·have d6b : decide (4096 < x.f3) = true := decide_eq_true d6
                have hno : decide (FormedC l0_0 a0_1 a0_2) = false := formed_not cs (fun h => by unfold okC at h; rw [← HX.out] at h; have := h.2.2.2.2.2.2.2.1; omega)
                clear d6
                go_quiet (fail)
                have HB7 := Aside0.mk (pw_below_drewN HB.out nq)
                go_wp2
                go_ret
                obtain rfl : r = false := HRR.out.symm.trans hno
                exact ⟨rfl, HB7.out⟩
               ·have d6b : decide (4096 < x.f3) = false := decide_eq_false d6
                have D6 := Aside0.mk d6
                clear d6
                have hsb : wrap64 (x.f2 - x.f1) = x.f2 - x.f1 := by have := D2.out; have := D3.out; have := D4.out; have := C4.out; unfold wrap64; omega
                have hsc : wrap64 (x.f3 - 1) = x.f3 - 1 := by have := D5.out; have := D6.out; unfold wrap64; omega
                by_cases d7 : x.f2 - x.f1 < x.f3 - 1
                ·have d7b : decide (x.f2 - x.f1 < x.f3 - 1) = true := decide_eq_true d7
                 have hno : decide (FormedC l0_0 a0_1 a0_2) = false := formed_not cs (fun h => by unfold okC at h; rw [← HX.out] at h; have := h.2.2.2.2.2.2.2.2; omega)
                 clear d7
                 go_quiet (fail)
                 have HB7 := Aside0.mk (pw_below_drewN HB.out nq)
                 go_wp2
                 go_ret
                 obtain rfl : r = false := HRR.out.symm.trans hno
                 exact ⟨rfl, HB7.out⟩
                ·have d7b : decide (x.f2 - x.f1 < x.f3 - 1) = false := decide_eq_false d7
                 have D7 := Aside0.mk d7
                 clear d7
                 by_cases d8 : x.f1 ≤ y.f2
                 ·have d8b : decide (x.f1 ≤ y.f2) = true := decide_eq_true d8
                  have hno : decide (FormedC l0_0 a0_1 a0_2) = false := formed_not cs (fun h => by unfold okC at h; rw [← HX.out] at h; have := h.2.2.2.1; rw [hE.out, HJ.out, ← HY.out] at this; omega)
                  clear d8
                  go_quiet (fail)
                  have HB7 := Aside0.mk (pw_below_drewN HB.out nq)
                  go_wp2
                  go_ret
                  obtain rfl : r = false := HRR.out.symm.trans hno
                  exact ⟨rfl, HB7.out⟩
                 ·have d8b : decide (x.f1 ≤ y.f2) = false := decide_eq_false d8
                  have D8 := Aside0.mk d8
                  clear d8
                  have HOKI := Aside0.mk (show (∀ k, k < i → (rd_T63 l0_0 (k : Int)).f0 ≠ x.f0) → okC l0_0 a0_1 a0_2 i from fun hne => by
                   unfold okC
                   rw [← HX.out]
                   have d0_ := D0.out
                   have d1_ := D1.out
                   have d2_ := D2.out
                   have d3_ := D3.out
                   have d4_ := D4.out
                   have d5_ := D5.out
                   have d6_ := D6.out
                   have d7_ := D7.out
                   have d8_ := D8.out
                   exact ⟨by omega, by omega, hne, by rw [hE.out, HJ.out, ← HY.out]; omega, by omega, by omega, by omega, by omega, by omega⟩)
                  go_quiet (fail)
                  have HB_ := Aside0.mk (pw_below_drewN HB.out nq)
                  have CB1_ := Aside0.mk (blk_drewN CB1.out nq)
                  have BX_ := Aside0.mk (blk_drewN BX.out nq)
                  clear HB CB1 BX v10 v11 v12 y0 y1 y2 y3 hp2
                  generalize W2.drewN nq = W3 at *
                  go_wp2
                  go_loopw [5] (fun v5 w' => ∃ t : Nat, v5 = .int .i64 t ∧ t ≤ i ∧ Aside0 (∀ s, s < t → (rd_T63 l0_0 (s : Int)).f0 ≠ x.f0) ∧ Aside0 (w'.heap[g1]? = some (.cells #[.slice (some ad) l0_0.length c0_0, .int .i64 a0_1, .int .i64 a0_2] 27 (0, 0))) ∧ Aside0 (w'.heap[g4]? = some (.cells #[.int .i64 x.f0, .int .i64 x.f1, .int .i64 x.f2, .int .i64 x.f3] 63 (0, 0))) ∧ Aside0 (Below w.heap.size w w')) (fun v5 _ => i - (intOf v5).toNat)
                  case atStart => exact ⟨0, rfl, Nat.zero_le _, ⟨fun s hs => absurd hs (Nat.not_lt_zero s)⟩, CB1_, BX_, HB_⟩
                  case round =>
                   clear CB1_ BX_ HB_
                   obtain ⟨t, rfl, hti, HNE, CB1, BX, HB⟩ := hrel
                   by_cases ct : t < i
                   ·have ctd := decide_eq_true (show (t : Int) < (i : Int) by omega)
                    have ctn := eq_true ct
                    obtain ⟨ad3, ead, hs0, hs1, hs2, hs3⟩ := at_T63 HR.out (t : Int) (by omega) (by omega)
                    cases ead
                    rw [Int.toNat_natCast] at hs0
                    obtain ⟨z, hz⟩ : ∃ z, z = (rd_T63 l0_0 (t : Int)).f0 := ⟨_, rfl⟩
                    have HZ := Aside0.mk hz
                    rw [← hz] at hs0
                    replace hs0 := (HB.out.cell (World.block_lt_of_cell? w _ hs0)).trans hs0
                    clear hs1 hs2 hs3 hz
                    have s0 := eq_true (show (0 : Int) ≤ (t : Int) by omega)
                    have s1 := eq_true (show (t : Int) < (l0_0.length : Int) by omega)
                    have hwt : IntKind.i64.wrap ((t : Int) + 1) = ((t + 1 : Nat) : Int) := by rw [IntKind.wrap_i64]; have := HL.out; omega
                    have v10 : wr.cell? ⟨g1, 0, none⟩ = some (.slice (some ad) l0_0.length c0_0) := (blk_cell CB1.out 0).trans rfl
                    have y0 : wr.cell? ⟨g4, 0, none⟩ = some (.int .i64 x.f0) := (blk_cell BX.out 0).trans rfl
                    by_cases ez : z = x.f0
                    ·have ezb : (z == x.f0) = true := beq_iff_eq.mpr ez
                     have ezd : decide (z = x.f0) = true := decide_eq_true ez
                     have hno : decide (FormedC l0_0 a0_1 a0_2) = false := formed_not cs (fun h => by unfold okC at h; rw [← HX.out] at h; exact h.2.2.1 t ct (HZ.out.symm.trans ez))
                     clear ez
                     go_upto_region 12 with (first
                      | fail)
                     go_quiet (fail)
                     have HB7 := Aside0.mk (pw_below_drewN HB.out nq)
                     go_wp2
                     go_ret
                     obtain rfl : r = false := HRR.out.symm.trans hno
                     exact ⟨rfl, HB7.out⟩
                    ·have ezb : (z == x.f0) = false := beq_eq_false_iff_ne.mpr ez
                     have ezd : decide (z = x.f0) = false := decide_eq_false ez
                     have HEZ := Aside0.mk ez
                     clear ez
                     go_upto_region 12 with (first
                      | fail)
                     go_quiet (fail)
                     have HB_ := Aside0.mk (pw_below_drewN HB.out nq)
                     have CB1_ := Aside0.mk (blk_drewN CB1.out nq)
                     have BX_ := Aside0.mk (blk_drewN BX.out nq)
                     go_wp2
                     go_roundw
                     ·exact ⟨t + 1, rfl, ct, ⟨fun s hs => by rcases Nat.lt_or_eq_of_le (Nat.lt_succ_iff.1 hs) with h3 | h3; exact HNE.out s h3; rw [h3]; exact fun h => HEZ.out (HZ.out.trans h)⟩, CB1_, BX_, HB_⟩
                     ·show i - (((t + 1 : Nat) : Int)).toNat < i - (t : Int).toNat
                      omega
                   ·obtain rfl : t = i := by omega
                    have ctd : decide ((t : Int) < (t : Int)) = false := decide_eq_false (Int.lt_irrefl _)
                    have hoki := HOKI.out HNE.out
                    go_wp2
                    go_roundw
                    ·exact ⟨t + 1, rfl, cs, ⟨fun s hs => by rcases Nat.lt_or_eq_of_le (Nat.lt_succ_iff.1 hs) with h3 | h3; exact HOK.out s h3; rw [h3]; exact hoki⟩, CB1, HB⟩
                    ·show l0_0.length - (((t + 1 : Nat) : Int)).toNat < l0_0.length - (t : Int).toNat
                     omega
       ·obtain rfl : i = l0_0.length := by omega
        have csd : decide ((l0_0.length : Int) < (l0_0.length : Int)) = false := decide_eq_false (Int.lt_irrefl _)
        have hyes : decide (FormedC l0_0 a0_1 a0_2) = true := decide_eq_true ⟨by have := C0.out; omega, by have := C1.out; omega, by have := C2.out; omega, by have := C3.out; omega, by have := C4.out; omega, HOK.out⟩
        go_wp2
        go_ret
        obtain rfl : r = true := HRR.out.symm.trans hyes
        exact ⟨rfl, HB.out⟩
end Go.Proofs.YtdcifmonhaklcaaDoor.R
