/- Walks: each Go function that is told here comes to what the plain function beside it says, wherever that one answers. Written by a program of this session (wip/tools/pr.sh), after the manner of print.sh. -/
import Derived.Test.YtjgbimlogenodaaPx0
import Derived.Test.YtjgbimlogenodaaPx2
import Derived.Test.YtjgbimlogenodaaPx4
namespace Go.Proofs.Ytjgbimlogenodaa.P
open Go.RowKit Go.Proofs.YtjgbimlogenodaaW.PrintWords Go.Proofs.YtjgbimlogenodaaW.PrintLast Go.Proofs.YtjgbimlogenodaaW.PrintMore
attribute [local go_sem] max2_int min2_int max_two min_two max_three min_three max_four min_four   -- for this text's walks alone
set_option linter.unusedVariables false
set_option linter.unusedSimpArgs false

/-! ### dragnetref05_Unpack: function 14 -/
mutual
def dragnetref05_Unpack.l0 : Nat → List Int → Int → List Int → Int → Option (List Int × Int)
  | 0, _, _, _, _ => none
  | k + 1, x0, x1, x6, x7 => if x7 ≥ (x0.length : Int) then (some (([] : List Int), 2)) else (if 0 ≤ x7 then (if x7 < (x0.length : Int) then (if (wrap64 (Int.tdiv (wrap64 (rd x0 x7)) 16)) = 15 then ((dragnetref05_sum.f k x0 (wrap64 (x7 + 1))).bind fun bt190 => (if bt190.2 < 0 then (some (([] : List Int), 2)) else (dragnetref05_Unpack.j1 k x0 x1 x6 bt190.2 bt190.1 (Int.tmod (wrap64 (rd x0 x7)) 16)))) else (dragnetref05_Unpack.j1 k x0 x1 x6 (wrap64 (x7 + 1)) (wrap64 (Int.tdiv (wrap64 (rd x0 x7)) 16)) (Int.tmod (wrap64 (rd x0 x7)) 16))) else (none)) else (none))
def dragnetref05_Unpack.j1 : Nat → List Int → Int → List Int → Int → Int → Int → Option (List Int × Int)
  | 0, _, _, _, _, _, _ => none
  | k + 1, x0, x1, x6, x7, x8, x9 => if x8 > (wrap64 (x1 - (x6.length : Int))) then (some (([] : List Int), 5)) else (if x8 > (wrap64 ((x0.length : Int) - x7)) then (some (([] : List Int), 2)) else (if 0 ≤ x7 then (if x7 ≤ (wrap64 (x7 + x8)) then (if (wrap64 (x7 + x8)) ≤ (x0.length : Int) then (if x6.length + ((x0.take ((wrap64 (x7 + x8)) : Int).toNat).drop (x7 : Int).toNat).length < 140737488355328 then ((some (x6 ++ ((x0.take ((wrap64 (x7 + x8)) : Int).toNat).drop (x7 : Int).toNat) : List Int)).bind fun y193 => (if (wrap64 (x7 + x8)) = (x0.length : Int) then (if x9 = 0 then ((dragnetref01_Copy.f y193).bind fun t196 => (some (t196, 0))) else (some (([] : List Int), 2))) else (if (wrap64 ((x0.length : Int) - (wrap64 (x7 + x8)))) < 2 then (some (([] : List Int), 2)) else (if 0 ≤ (wrap64 (x7 + x8)) then (if (wrap64 (x7 + x8)) < (x0.length : Int) then (if 0 ≤ (wrap64 ((wrap64 (x7 + x8)) + 1)) then (if (wrap64 ((wrap64 (x7 + x8)) + 1)) < (x0.length : Int) then (if (wrap64 ((wrap64 (rd x0 (wrap64 (x7 + x8)))) + (wrap64 (256 * (wrap64 (rd x0 (wrap64 ((wrap64 (x7 + x8)) + 1)))))))) = 0 then (dragnetref05_Unpack.j2 k x0 x1 y193 (wrap64 ((wrap64 (x7 + x8)) + 2)) x9 (wrap64 ((wrap64 (rd x0 (wrap64 (x7 + x8)))) + (wrap64 (256 * (wrap64 (rd x0 (wrap64 ((wrap64 (x7 + x8)) + 1)))))))) true) else (dragnetref05_Unpack.j2 k x0 x1 y193 (wrap64 ((wrap64 (x7 + x8)) + 2)) x9 (wrap64 ((wrap64 (rd x0 (wrap64 (x7 + x8)))) + (wrap64 (256 * (wrap64 (rd x0 (wrap64 ((wrap64 (x7 + x8)) + 1)))))))) (decide ((wrap64 ((wrap64 (rd x0 (wrap64 (x7 + x8)))) + (wrap64 (256 * (wrap64 (rd x0 (wrap64 ((wrap64 (x7 + x8)) + 1)))))))) > (y193.length : Int))))) else (none)) else (none)) else (none)) else (none))))) else (none)) else (none)) else (none)) else (none)))
def dragnetref05_Unpack.j2 : Nat → List Int → Int → List Int → Int → Int → Int → Bool → Option (List Int × Int)
  | 0, _, _, _, _, _, _, _ => none
  | k + 1, x0, x1, x6, x7, x9, x10, x99 => if x99 = true then (some (([] : List Int), 2)) else (if x9 = 15 then ((dragnetref05_sum.f k x0 x7).bind fun bt201 => (if bt201.2 < 0 then (some (([] : List Int), 2)) else (dragnetref05_Unpack.j3 k x0 x1 x6 bt201.2 bt201.1 x10))) else (dragnetref05_Unpack.j3 k x0 x1 x6 x7 x9 x10))
def dragnetref05_Unpack.j3 : Nat → List Int → Int → List Int → Int → Int → Int → Option (List Int × Int)
  | 0, _, _, _, _, _, _ => none
  | k + 1, x0, x1, x6, x7, x8, x10 => if (wrap64 (x8 + 4)) > (wrap64 (x1 - (x6.length : Int))) then (some (([] : List Int), 5)) else (dragnetref05_Unpack.l1 k x0 x1 x6 x7 (wrap64 (x8 + 4)) x10)
def dragnetref05_Unpack.l1 : Nat → List Int → Int → List Int → Int → Int → Int → Option (List Int × Int)
  | 0, _, _, _, _, _, _ => none
  | k + 1, x0, x1, x6, x7, x8, x10 => if x8 > 0 then (if 0 ≤ (wrap64 ((x6.length : Int) - x10)) then (if (wrap64 ((x6.length : Int) - x10)) < (x6.length : Int) then (if x6.length < 140737488355328 then (dragnetref05_Unpack.l1 k x0 x1 (x6 ++ [rd x6 (wrap64 ((x6.length : Int) - x10))]) x7 (wrap64 (x8 - 1)) x10) else (none)) else (none)) else (none)) else (dragnetref05_Unpack.l0 k x0 x1 x6 x7)
end
def dragnetref05_Unpack.f (k : Nat) (l0 : List Int) (a1 : Int) : Option (List Int × Int) := if a1 < 0 then (some (([] : List Int), 1)) else (dragnetref05_Unpack.l0 k l0 a1 ([] : List Int) 0)
theorem dragnetref05_Unpack.mono_l : ∀ k, (∀ y0 y1 y2 y3, LeO (dragnetref05_Unpack.l0 k y0 y1 y2 y3) (dragnetref05_Unpack.l0 (k + 1) y0 y1 y2 y3)) ∧ (∀ y0 y1 y2 y3 y4 y5, LeO (dragnetref05_Unpack.j1 k y0 y1 y2 y3 y4 y5) (dragnetref05_Unpack.j1 (k + 1) y0 y1 y2 y3 y4 y5)) ∧ (∀ y0 y1 y2 y3 y4 y5 y6, LeO (dragnetref05_Unpack.j2 k y0 y1 y2 y3 y4 y5 y6) (dragnetref05_Unpack.j2 (k + 1) y0 y1 y2 y3 y4 y5 y6)) ∧ (∀ y0 y1 y2 y3 y4 y5, LeO (dragnetref05_Unpack.j3 k y0 y1 y2 y3 y4 y5) (dragnetref05_Unpack.j3 (k + 1) y0 y1 y2 y3 y4 y5)) ∧ (∀ y0 y1 y2 y3 y4 y5, LeO (dragnetref05_Unpack.l1 k y0 y1 y2 y3 y4 y5) (dragnetref05_Unpack.l1 (k + 1) y0 y1 y2 y3 y4 y5))
  | 0 => ⟨fun _ _ _ _ r h => by simp [dragnetref05_Unpack.l0] at h, fun _ _ _ _ _ _ r h => by simp [dragnetref05_Unpack.j1] at h, fun _ _ _ _ _ _ _ r h => by simp [dragnetref05_Unpack.j2] at h, fun _ _ _ _ _ _ r h => by simp [dragnetref05_Unpack.j3] at h, fun _ _ _ _ _ _ r h => by simp [dragnetref05_Unpack.l1] at h⟩
  | k + 1 => by
    obtain ⟨ih0, ih1, ih2, ih3, ih4⟩ := dragnetref05_Unpack.mono_l k
    refine ⟨?_, ?_, ?_, ?_, ?_⟩
    · intro y0 y1 y2 y3
      unfold dragnetref05_Unpack.l0
      repeat' first
      | (with_reducible exact ih0 _ _ _ _)
      | (with_reducible exact ih1 _ _ _ _ _ _)
      | (with_reducible exact ih2 _ _ _ _ _ _ _)
      | (with_reducible exact ih3 _ _ _ _ _ _)
      | (with_reducible exact ih4 _ _ _ _ _ _)
      | (with_reducible exact dragnetref05_sum.mono _ _ _)
      | (with_reducible exact LeO.refl _)
      | (with_reducible exact LeO.none _)
      | (with_reducible refine LeO.ite ?_ ?_)
      | (with_reducible refine LeO.bind ?_ (fun _ => ?_))
      | exact ih0 _ _ _ _
      | exact ih1 _ _ _ _ _ _
      | exact ih2 _ _ _ _ _ _ _
      | exact ih3 _ _ _ _ _ _
      | exact ih4 _ _ _ _ _ _
      | exact dragnetref05_sum.mono _ _ _
      | exact LeO.none _
      | refine LeO.ite ?_ ?_
      | refine LeO.bind ?_ (fun _ => ?_)
    · intro y0 y1 y2 y3 y4 y5
      unfold dragnetref05_Unpack.j1
      repeat' first
      | (with_reducible exact ih0 _ _ _ _)
      | (with_reducible exact ih1 _ _ _ _ _ _)
      | (with_reducible exact ih2 _ _ _ _ _ _ _)
      | (with_reducible exact ih3 _ _ _ _ _ _)
      | (with_reducible exact ih4 _ _ _ _ _ _)
      | (with_reducible exact dragnetref05_sum.mono _ _ _)
      | (with_reducible exact LeO.refl _)
      | (with_reducible exact LeO.none _)
      | (with_reducible refine LeO.ite ?_ ?_)
      | (with_reducible refine LeO.bind ?_ (fun _ => ?_))
      | exact ih0 _ _ _ _
      | exact ih1 _ _ _ _ _ _
      | exact ih2 _ _ _ _ _ _ _
      | exact ih3 _ _ _ _ _ _
      | exact ih4 _ _ _ _ _ _
      | exact dragnetref05_sum.mono _ _ _
      | exact LeO.none _
      | refine LeO.ite ?_ ?_
      | refine LeO.bind ?_ (fun _ => ?_)
    · intro y0 y1 y2 y3 y4 y5 y6
      unfold dragnetref05_Unpack.j2
      repeat' first
      | (with_reducible exact ih0 _ _ _ _)
      | (with_reducible exact ih1 _ _ _ _ _ _)
      | (with_reducible exact ih2 _ _ _ _ _ _ _)
      | (with_reducible exact ih3 _ _ _ _ _ _)
      | (with_reducible exact ih4 _ _ _ _ _ _)
      | (with_reducible exact dragnetref05_sum.mono _ _ _)
      | (with_reducible exact LeO.refl _)
      | (with_reducible exact LeO.none _)
      | (with_reducible refine LeO.ite ?_ ?_)
      | (with_reducible refine LeO.bind ?_ (fun _ => ?_))
      | exact ih0 _ _ _ _
      | exact ih1 _ _ _ _ _ _
      | exact ih2 _ _ _ _ _ _ _
      | exact ih3 _ _ _ _ _ _
      | exact ih4 _ _ _ _ _ _
      | exact dragnetref05_sum.mono _ _ _
      | exact LeO.none _
      | refine LeO.ite ?_ ?_
      | refine LeO.bind ?_ (fun _ => ?_)
    · intro y0 y1 y2 y3 y4 y5
      unfold dragnetref05_Unpack.j3
      repeat' first
      | (with_reducible exact ih0 _ _ _ _)
      | (with_reducible exact ih1 _ _ _ _ _ _)
      | (with_reducible exact ih2 _ _ _ _ _ _ _)
      | (with_reducible exact ih3 _ _ _ _ _ _)
      | (with_reducible exact ih4 _ _ _ _ _ _)
      | (with_reducible exact dragnetref05_sum.mono _ _ _)
      | (with_reducible exact LeO.refl _)
      | (with_reducible exact LeO.none _)
      | (with_reducible refine LeO.ite ?_ ?_)
      | (with_reducible refine LeO.bind ?_ (fun _ => ?_))
      | exact ih0 _ _ _ _
      | exact ih1 _ _ _ _ _ _
      | exact ih2 _ _ _ _ _ _ _
      | exact ih3 _ _ _ _ _ _
      | exact ih4 _ _ _ _ _ _
      | exact dragnetref05_sum.mono _ _ _
      | exact LeO.none _
      | refine LeO.ite ?_ ?_
      | refine LeO.bind ?_ (fun _ => ?_)
    · intro y0 y1 y2 y3 y4 y5
      unfold dragnetref05_Unpack.l1
      repeat' first
      | (with_reducible exact ih0 _ _ _ _)
      | (with_reducible exact ih1 _ _ _ _ _ _)
      | (with_reducible exact ih2 _ _ _ _ _ _ _)
      | (with_reducible exact ih3 _ _ _ _ _ _)
      | (with_reducible exact ih4 _ _ _ _ _ _)
      | (with_reducible exact dragnetref05_sum.mono _ _ _)
      | (with_reducible exact LeO.refl _)
      | (with_reducible exact LeO.none _)
      | (with_reducible refine LeO.ite ?_ ?_)
      | (with_reducible refine LeO.bind ?_ (fun _ => ?_))
      | exact ih0 _ _ _ _
      | exact ih1 _ _ _ _ _ _
      | exact ih2 _ _ _ _ _ _ _
      | exact ih3 _ _ _ _ _ _
      | exact ih4 _ _ _ _ _ _
      | exact dragnetref05_sum.mono _ _ _
      | exact LeO.none _
      | refine LeO.ite ?_ ?_
      | refine LeO.bind ?_ (fun _ => ?_)
theorem dragnetref05_Unpack.mono : ∀ a0 a1 k, LeO (dragnetref05_Unpack.f k a0 a1) (dragnetref05_Unpack.f (k + 1) a0 a1) := by
  intro a0 a1 k
  obtain ⟨ih0, ih1, ih2, ih3, ih4⟩ := dragnetref05_Unpack.mono_l k
  unfold dragnetref05_Unpack.f
  repeat' first
      | (with_reducible exact ih0 _ _ _ _)
      | (with_reducible exact ih1 _ _ _ _ _ _)
      | (with_reducible exact ih2 _ _ _ _ _ _ _)
      | (with_reducible exact ih3 _ _ _ _ _ _)
      | (with_reducible exact ih4 _ _ _ _ _ _)
      | (with_reducible exact dragnetref05_sum.mono _ _ _)
      | (with_reducible exact LeO.refl _)
      | (with_reducible exact LeO.none _)
      | (with_reducible refine LeO.ite ?_ ?_)
      | (with_reducible refine LeO.bind ?_ (fun _ => ?_))
      | exact ih0 _ _ _ _
      | exact ih1 _ _ _ _ _ _
      | exact ih2 _ _ _ _ _ _ _
      | exact ih3 _ _ _ _ _ _
      | exact ih4 _ _ _ _ _ _
      | exact dragnetref05_sum.mono _ _ _
      | exact LeO.none _
      | refine LeO.ite ?_ ?_
      | refine LeO.bind ?_ (fun _ => ?_)
set_option maxHeartbeats 8000000 in
set_option maxRecDepth 100000 in
theorem dragnetref05_Unpack.calls (k : Nat) (A0 : Option Addr) (c0 : Nat) (l0 : List Int) (a1 : Int) (r1 : List Int) (r2 : Int) (w : World) (hr0 : Kd.C (Kd.int .u8) w A0 l0.length l0) (hc0 : l0.length ≤ c0) (h : dragnetref05_Unpack.f k l0 a1 = some (r1, r2)) :
    Calls Try.prog 14 #[.slice A0 l0.length c0, .int .i64 a1] w fun e w' => ∃ v0_ : Value, e = .returned (.tuple #[v0_, .int .i64 r2]) ∧ Kd.R (Kd.int .u8) 5 w' w.heap.size (fun _ => True) v0_ r1 ∧ Below w.heap.size w w' := by
  have HR0 := Aside0.mk hr0
  have HC0 := Aside0.mk hc0
  clear hr0 hc0
  have HB := Aside0.mk (Below.refl w.heap.size w)
  have H : (if a1 < 0 then (some (([] : List Int), 1)) else (dragnetref05_Unpack.l0 k l0 a1 ([] : List Int) 0)) = some (r1, r2) := h
  clear h
  by_cases c3 : a1 < 0
  · rw [if_pos c3] at H
    have c3b0 : decide (a1 < 0) = true := decide_eq_true c3
    clear c3
    simp only [Option.some.injEq, Prod.mk.injEq] at H
    obtain ⟨rfl, rfl⟩ := H
    go_enter Try.func14, Try.ntmps14
    go_wp2
    repeat (go_quiet (fail); try go_wp2)
    go_ret2
    exact ⟨_, by first | rfl | (simp [errW_none, errW_some] <;> rfl) | (simp [*, errW_none, errW_some] <;> rfl), by first | exact Kd.R_nil _ _ _ _ _ | exact Kd.N_nil _ _ _ _ _ | exact Kd.V_nil _ _ _ _ _ | exact Kd.Q_nil _ _ _ _ _ | exact Kd.S_nil _ _ _ _ _, by repeat (first | (with_reducible first | exact HB.out | apply below_alloc | apply pw_below_drewN | apply below_drew1) | exact HB.out)⟩
  · rw [if_neg c3] at H
    have c3b0 : decide (a1 < 0) = false := decide_eq_false c3
    clear c3
    have H' := Aside0.mk H
    clear H
    go_enter Try.func14, Try.ntmps14
    go_wp2
    repeat (go_quiet (fail); try go_wp2)
    go_loopg [6, 7] k (fun kq v6 v7 w' => ∃ (x6_1 : List Int) (x7_1 : Int), v7 = .int .i64 x7_1 ∧ Aside0 (dragnetref05_Unpack.l0 kq l0 a1 x6_1 x7_1 = some (r1, r2)) ∧ Aside0 (kq ≤ k) ∧ Aside0 (Kd.R (Kd.int .u8) 5 w' w.heap.size (fun _ => True) v6 x6_1) ∧ Aside0 (Below w.heap.size w w'))
    case atStart => exact ⟨(([] : List Int)), (0), (by first | rfl | (simp; done) | (simp [*]; done)), H', ⟨Nat.le_refl _⟩, ⟨by first | exact Kd.R_nil _ _ _ _ _ | exact Kd.N_nil _ _ _ _ _ | exact Kd.V_nil _ _ _ _ _ | exact Kd.Q_nil _ _ _ _ _ | exact Kd.S_nil _ _ _ _ _⟩, ⟨by repeat (first | (with_reducible first | exact HB.out | apply below_alloc | apply pw_below_drewN | apply below_drew1) | exact HB.out)⟩⟩
    case round =>
      clear H'
      try clear c1
      try clear p2
      try clear c3
      try clear c3b0
      obtain ⟨x6_1, x7_1, rfl, HA, HK1, HO_6, HB⟩ := hrel
      cases gk with
      | zero => exact absurd HA.out (by simp [dragnetref05_Unpack.l0])
      | succ k1 =>
        have H := HA.out
        clear HA
        simp only [dragnetref05_Unpack.l0] at H
        by_cases c4 : x7_1 ≥ (l0.length : Int)
        · rw [if_pos c4] at H
          have c4b0 : decide ((l0.length : Int) ≤ x7_1) = true := decide_eq_true c4
          clear c4
          simp only [Option.some.injEq, Prod.mk.injEq] at H
          obtain ⟨rfl, rfl⟩ := H
          go_wp2
          repeat (go_quiet (fail); try go_wp2)
          go_ret2
          exact ⟨_, by first | rfl | (simp [errW_none, errW_some] <;> rfl) | (simp [*, errW_none, errW_some] <;> rfl), by first | exact Kd.R_nil _ _ _ _ _ | exact Kd.N_nil _ _ _ _ _ | exact Kd.V_nil _ _ _ _ _ | exact Kd.Q_nil _ _ _ _ _ | exact Kd.S_nil _ _ _ _ _, by repeat (first | (with_reducible first | exact HB.out | apply below_alloc | apply pw_below_drewN | apply below_drew1) | exact HB.out)⟩
        · rw [if_neg c4] at H
          have c4b0 : decide ((l0.length : Int) ≤ x7_1) = false := decide_eq_false c4
          clear c4
          by_cases c5 : 0 ≤ x7_1
          · rw [if_pos c5] at H
            have c5b0 : decide (0 ≤ x7_1) = true := decide_eq_true c5
            clear c5
            by_cases c6 : x7_1 < (l0.length : Int)
            · rw [if_pos c6] at H
              have c6b0 : decide (x7_1 < (l0.length : Int)) = true := decide_eq_true c6
              clear c6
              have HC7 := Aside0.mk H
              clear H
              have p188 : 0 ≤ (x7_1 : Int) := of_decide_eq_true (by first | (with_reducible assumption) | assumption)
              have q188 : x7_1 < (l0.length : Int) := of_decide_eq_true (by first | (with_reducible assumption) | assumption)
              obtain ⟨ad188, e188, hx188_0⟩ := Kd.at_int HR0.out x7_1 p188 q188
              cases e188
              replace hx188_0 := (HB.out.cell (World.block_lt_of_cell? w _ hx188_0)).trans hx188_0
              replace p188 := eq_true p188
              replace q188 := eq_true q188
              have p189 : 0 ≤ (x7_1 : Int) := of_decide_eq_true (by first | (with_reducible assumption) | assumption)
              have q189 : x7_1 < (l0.length : Int) := of_decide_eq_true (by first | (with_reducible assumption) | assumption)
              obtain ⟨ad189, e189, hx189_0⟩ := Kd.at_int HR0.out x7_1 p189 q189
              obtain rfl : ad188 = ad189 := (by injection e189)
              replace hx189_0 := (HB.out.cell (World.block_lt_of_cell? w _ hx189_0)).trans hx189_0
              replace p189 := eq_true p189
              replace q189 := eq_true q189
              go_upto_if 32 with (fail)
              repeat (go_quiet (fail); go_upto_if 32 with (fail))
              go_cut [7, 8] (fun v7 v8 wc => ∃ (kq : Nat) (x7_6 : Int) (x8_6 : Int), v7 = .int .i64 x7_6 ∧ v8 = .int .i64 x8_6 ∧ Aside0 (dragnetref05_Unpack.j1 kq l0 a1 x6_1 x7_6 x8_6 (Int.tmod (wrap64 (rd l0 x7_1)) 16) = some (r1, r2)) ∧ Aside0 (kq ≤ k1) ∧ Aside0 (Kd.R (Kd.int .u8) 5 wc w.heap.size (fun _ => True) u6 x6_1) ∧ Aside0 (Below w.heap.size w wc))
              case first =>
                have H := HC7.out
                clear HC7
                by_cases c8 : (wrap64 (Int.tdiv (wrap64 (rd l0 x7_1)) 16)) = 15
                · rw [if_pos c8] at H
                  have c8b0 : ((wrap64 (Int.tdiv (wrap64 (rd l0 x7_1)) 16)) == 15) = true := beq_iff_eq.mpr c8
                  have c8b1 : ((wrap64 (Int.tdiv (wrap64 (rd l0 x7_1)) 16)) != 15) = false := bne_eq_false_iff_eq.mpr c8
                  clear c8
                  (first | rw [c8b0] | (simp only [i64_w, i32_w]; rw [c8b0]) | skip)
                  replace H := Option.bind_eq_some_iff.mp H
                  obtain ⟨⟨t190, t191⟩, A90, H⟩ := H
                  replace H : (if t191 < 0 then (some (([] : List Int), 2)) else (dragnetref05_Unpack.j1 k1 l0 a1 x6_1 t191 t190 (Int.tmod (wrap64 (rd l0 x7_1)) 16))) = some (r1, r2) := H
                  have A9 := Aside0.mk A90
                  clear A90
                  by_cases c10 : t191 < 0
                  · rw [if_pos c10] at H
                    have c10b0 : decide (t191 < 0) = true := decide_eq_true c10
                    clear c10
                    simp only [Option.some.injEq, Prod.mk.injEq] at H
                    obtain ⟨rfl, rfl⟩ := H
                    go_wp2_with (first | (go_at_call 22; (with_reducible refine (dragnetref05_sum.calls k1 _ _ l0 (wrap64 (x7_1 + 1)) t190 t191 _ ?side1 ?side2 A9.out).mono ?_); (case side1 => repeat (first | exact (Kd.C_below HR0.out HB.out) | (with_reducible refine Kd.C_alloc ?_ _) | (with_reducible refine Kd.C_drewN ?_ _) | (with_reducible refine Kd.C_drew ?_))); (case side2 => exact HC0.out); rintro e w' ⟨rfl, ⟨nd, rfl⟩⟩; (try first | exact ⟨rfl, _, World.drewN_drewN _ _ _⟩ | exact ⟨rfl, _, Eq.trans (World.drewN_drewN _ _ _) (congrArg (World.drewN _) (Nat.add_assoc _ _ _))⟩)))
                    repeat (go_quiet (first | (go_at_call 22; (with_reducible refine (dragnetref05_sum.calls k1 _ _ l0 (wrap64 (x7_1 + 1)) t190 t191 _ ?side1 ?side2 A9.out).mono ?_); (case side1 => repeat (first | exact (Kd.C_below HR0.out HB.out) | (with_reducible refine Kd.C_alloc ?_ _) | (with_reducible refine Kd.C_drewN ?_ _) | (with_reducible refine Kd.C_drew ?_))); (case side2 => exact HC0.out); rintro e w' ⟨rfl, ⟨nd, rfl⟩⟩; (try first | exact ⟨rfl, _, World.drewN_drewN _ _ _⟩ | exact ⟨rfl, _, Eq.trans (World.drewN_drewN _ _ _) (congrArg (World.drewN _) (Nat.add_assoc _ _ _))⟩))); try go_wp2_with (first | (go_at_call 22; (with_reducible refine (dragnetref05_sum.calls k1 _ _ l0 (wrap64 (x7_1 + 1)) t190 t191 _ ?side1 ?side2 A9.out).mono ?_); (case side1 => repeat (first | exact (Kd.C_below HR0.out HB.out) | (with_reducible refine Kd.C_alloc ?_ _) | (with_reducible refine Kd.C_drewN ?_ _) | (with_reducible refine Kd.C_drew ?_))); (case side2 => exact HC0.out); rintro e w' ⟨rfl, ⟨nd, rfl⟩⟩; (try first | exact ⟨rfl, _, World.drewN_drewN _ _ _⟩ | exact ⟨rfl, _, Eq.trans (World.drewN_drewN _ _ _) (congrArg (World.drewN _) (Nat.add_assoc _ _ _))⟩))))
                    go_ret2
                    exact ⟨_, by first | rfl | (simp [errW_none, errW_some] <;> rfl) | (simp [*, errW_none, errW_some] <;> rfl), by first | exact Kd.R_nil _ _ _ _ _ | exact Kd.N_nil _ _ _ _ _ | exact Kd.V_nil _ _ _ _ _ | exact Kd.Q_nil _ _ _ _ _ | exact Kd.S_nil _ _ _ _ _, by repeat (first | (with_reducible first | exact HB.out | apply below_alloc | apply pw_below_drewN | apply below_drew1) | exact HB.out)⟩
                  · rw [if_neg c10] at H
                    have c10b0 : decide (t191 < 0) = false := decide_eq_false c10
                    clear c10
                    have H' := Aside0.mk H
                    clear H
                    go_wp2_with (first | (go_at_call 22; (with_reducible refine (dragnetref05_sum.calls k1 _ _ l0 (wrap64 (x7_1 + 1)) t190 t191 _ ?side1 ?side2 A9.out).mono ?_); (case side1 => repeat (first | exact (Kd.C_below HR0.out HB.out) | (with_reducible refine Kd.C_alloc ?_ _) | (with_reducible refine Kd.C_drewN ?_ _) | (with_reducible refine Kd.C_drew ?_))); (case side2 => exact HC0.out); rintro e w' ⟨rfl, ⟨nd, rfl⟩⟩; (try first | exact ⟨rfl, _, World.drewN_drewN _ _ _⟩ | exact ⟨rfl, _, Eq.trans (World.drewN_drewN _ _ _) (congrArg (World.drewN _) (Nat.add_assoc _ _ _))⟩)))
                    repeat (go_quiet (first | (go_at_call 22; (with_reducible refine (dragnetref05_sum.calls k1 _ _ l0 (wrap64 (x7_1 + 1)) t190 t191 _ ?side1 ?side2 A9.out).mono ?_); (case side1 => repeat (first | exact (Kd.C_below HR0.out HB.out) | (with_reducible refine Kd.C_alloc ?_ _) | (with_reducible refine Kd.C_drewN ?_ _) | (with_reducible refine Kd.C_drew ?_))); (case side2 => exact HC0.out); rintro e w' ⟨rfl, ⟨nd, rfl⟩⟩; (try first | exact ⟨rfl, _, World.drewN_drewN _ _ _⟩ | exact ⟨rfl, _, Eq.trans (World.drewN_drewN _ _ _) (congrArg (World.drewN _) (Nat.add_assoc _ _ _))⟩))); try go_wp2_with (first | (go_at_call 22; (with_reducible refine (dragnetref05_sum.calls k1 _ _ l0 (wrap64 (x7_1 + 1)) t190 t191 _ ?side1 ?side2 A9.out).mono ?_); (case side1 => repeat (first | exact (Kd.C_below HR0.out HB.out) | (with_reducible refine Kd.C_alloc ?_ _) | (with_reducible refine Kd.C_drewN ?_ _) | (with_reducible refine Kd.C_drew ?_))); (case side2 => exact HC0.out); rintro e w' ⟨rfl, ⟨nd, rfl⟩⟩; (try first | exact ⟨rfl, _, World.drewN_drewN _ _ _⟩ | exact ⟨rfl, _, Eq.trans (World.drewN_drewN _ _ _) (congrArg (World.drewN _) (Nat.add_assoc _ _ _))⟩))))
                    go_meet
                    case rel => exact ⟨_, (t191), (t190), (by first | rfl | (simp; done) | (simp [*]; done)), (by first | rfl | (simp; done) | (simp [*]; done)), H', ⟨by have := HK1.out; first | omega | exact Nat.le_refl _⟩, ⟨by (with_reducible repeat (first | apply Kd.R_alloc | apply Kd.R_drewN | apply Kd.R_drew)); exact HO_6.out⟩, ⟨by repeat (first | (with_reducible first | exact HB.out | apply below_alloc | apply pw_below_drewN | apply below_drew1) | exact HB.out)⟩⟩
                · rw [if_neg c8] at H
                  have c8b0 : ((wrap64 (Int.tdiv (wrap64 (rd l0 x7_1)) 16)) == 15) = false := beq_eq_false_iff_ne.mpr c8
                  have c8b1 : ((wrap64 (Int.tdiv (wrap64 (rd l0 x7_1)) 16)) != 15) = true := bne_iff_ne.mpr c8
                  (first | rw [c8b0] | (simp only [i64_w, i32_w]; rw [c8b0]) | skip)
                  have H' := Aside0.mk H
                  clear H
                  go_wp2
                  repeat (go_quiet (fail); try go_wp2)
                  go_meet
                  case rel => exact ⟨_, (wrap64 (x7_1 + 1)), (wrap64 (Int.tdiv (wrap64 (rd l0 x7_1)) 16)), (by first | rfl | (simp; done) | (simp [*]; done)), (by first | rfl | (simp; done) | (simp [*]; done)), H', ⟨by have := HK1.out; first | omega | exact Nat.le_refl _⟩, ⟨by (with_reducible repeat (first | apply Kd.R_alloc | apply Kd.R_drewN | apply Kd.R_drew)); exact HO_6.out⟩, ⟨by repeat (first | (with_reducible first | exact HB.out | apply below_alloc | apply pw_below_drewN | apply below_drew1) | exact HB.out)⟩⟩
              case rest =>
                clear HC7
                try clear c1
                try clear p1
                try clear q1
                try clear hx1
                try clear p2
                try clear c3
                try clear c3b0
                try clear c4
                try clear c4b0
                try clear c5
                try clear c5b0
                try clear c6
                try clear c6b0
                try clear p6
                try clear c8
                try clear c8b0
                try clear c8b1
                try clear c10
                try clear c10b0
                try clear hx188_0
                try clear hx189_0
                try clear p188
                try clear p189
                try clear p2
                try clear q188
                try clear q189
                obtain ⟨kq, x7_6, x8_6, rfl, rfl, HA, HJ6, HO_6, HB⟩ := hcut
                cases kq with
                | zero => exact absurd HA.out (by simp [dragnetref05_Unpack.j1])
                | succ kj6 =>
                  have H := HA.out
                  clear HA
                  simp only [dragnetref05_Unpack.j1] at H
                  by_cases c11 : x8_6 > (wrap64 (a1 - (x6_1.length : Int)))
                  · rw [if_pos c11] at H
                    have c11b0 : decide ((wrap64 (a1 - (x6_1.length : Int))) < x8_6) = true := decide_eq_true c11
                    clear c11
                    simp only [Option.some.injEq, Prod.mk.injEq] at H
                    obtain ⟨rfl, rfl⟩ := H
                    obtain ⟨Ao12, co12, eo12⟩ := Kd.R_slice HO_6.out
                    subst eo12
                    go_wp2
                    repeat (go_quiet (fail); try go_wp2)
                    go_ret2
                    exact ⟨_, by first | rfl | (simp [errW_none, errW_some] <;> rfl) | (simp [*, errW_none, errW_some] <;> rfl), by first | exact Kd.R_nil _ _ _ _ _ | exact Kd.N_nil _ _ _ _ _ | exact Kd.V_nil _ _ _ _ _ | exact Kd.Q_nil _ _ _ _ _ | exact Kd.S_nil _ _ _ _ _, by repeat (first | (with_reducible first | exact HB.out | apply below_alloc | apply pw_below_drewN | apply below_drew1) | exact HB.out)⟩
                  · rw [if_neg c11] at H
                    have c11b0 : decide ((wrap64 (a1 - (x6_1.length : Int))) < x8_6) = false := decide_eq_false c11
                    clear c11
                    by_cases c13 : x8_6 > (wrap64 ((l0.length : Int) - x7_6))
                    · rw [if_pos c13] at H
                      have c13b0 : decide ((wrap64 ((l0.length : Int) - x7_6)) < x8_6) = true := decide_eq_true c13
                      clear c13
                      simp only [Option.some.injEq, Prod.mk.injEq] at H
                      obtain ⟨rfl, rfl⟩ := H
                      obtain ⟨Ao14, co14, eo14⟩ := Kd.R_slice HO_6.out
                      subst eo14
                      go_wp2
                      repeat (go_quiet (fail); try go_wp2)
                      go_ret2
                      exact ⟨_, by first | rfl | (simp [errW_none, errW_some] <;> rfl) | (simp [*, errW_none, errW_some] <;> rfl), by first | exact Kd.R_nil _ _ _ _ _ | exact Kd.N_nil _ _ _ _ _ | exact Kd.V_nil _ _ _ _ _ | exact Kd.Q_nil _ _ _ _ _ | exact Kd.S_nil _ _ _ _ _, by repeat (first | (with_reducible first | exact HB.out | apply below_alloc | apply pw_below_drewN | apply below_drew1) | exact HB.out)⟩
                    · rw [if_neg c13] at H
                      have c13b0 : decide ((wrap64 ((l0.length : Int) - x7_6)) < x8_6) = false := decide_eq_false c13
                      clear c13
                      by_cases c15 : 0 ≤ x7_6
                      · rw [if_pos c15] at H
                        have c15b0 := eq_true c15
                        have c15b1 : decide (0 ≤ x7_6) = true := decide_eq_true c15
                        clear c15
                        by_cases c16 : x7_6 ≤ (wrap64 (x7_6 + x8_6))
                        · rw [if_pos c16] at H
                          have c16b0 := eq_true c16
                          have c16b1 : decide (x7_6 ≤ (wrap64 (x7_6 + x8_6))) = true := decide_eq_true c16
                          by_cases c17 : (wrap64 (x7_6 + x8_6)) ≤ (l0.length : Int)
                          · rw [if_pos c17] at H
                            have c17b0 := eq_true c17
                            have c17b1 : decide ((wrap64 (x7_6 + x8_6)) ≤ (l0.length : Int)) = true := decide_eq_true c17
                            by_cases c18 : x6_1.length + ((l0.take ((wrap64 (x7_6 + x8_6)) : Int).toNat).drop (x7_6 : Int).toNat).length < 140737488355328
                            · rw [if_pos c18] at H
                              have LMc18 := Aside0.mk c18
                              clear c18
                              obtain ⟨y193, hy193⟩ : ∃ y_ : List Int, y_ = (x6_1 ++ ((l0.take ((wrap64 (x7_6 + x8_6)) : Int).toNat).drop (x7_6 : Int).toNat)) := ⟨_, rfl⟩
                              replace H : (if (wrap64 (x7_6 + x8_6)) = (l0.length : Int) then (if (Int.tmod (wrap64 (rd l0 x7_1)) 16) = 0 then ((dragnetref01_Copy.f y193).bind fun t196 => (some (t196, 0))) else (some (([] : List Int), 2))) else (if (wrap64 ((l0.length : Int) - (wrap64 (x7_6 + x8_6)))) < 2 then (some (([] : List Int), 2)) else (if 0 ≤ (wrap64 (x7_6 + x8_6)) then (if (wrap64 (x7_6 + x8_6)) < (l0.length : Int) then (if 0 ≤ (wrap64 ((wrap64 (x7_6 + x8_6)) + 1)) then (if (wrap64 ((wrap64 (x7_6 + x8_6)) + 1)) < (l0.length : Int) then (if (wrap64 ((wrap64 (rd l0 (wrap64 (x7_6 + x8_6)))) + (wrap64 (256 * (wrap64 (rd l0 (wrap64 ((wrap64 (x7_6 + x8_6)) + 1)))))))) = 0 then (dragnetref05_Unpack.j2 kj6 l0 a1 y193 (wrap64 ((wrap64 (x7_6 + x8_6)) + 2)) (Int.tmod (wrap64 (rd l0 x7_1)) 16) (wrap64 ((wrap64 (rd l0 (wrap64 (x7_6 + x8_6)))) + (wrap64 (256 * (wrap64 (rd l0 (wrap64 ((wrap64 (x7_6 + x8_6)) + 1)))))))) true) else (dragnetref05_Unpack.j2 kj6 l0 a1 y193 (wrap64 ((wrap64 (x7_6 + x8_6)) + 2)) (Int.tmod (wrap64 (rd l0 x7_1)) 16) (wrap64 ((wrap64 (rd l0 (wrap64 (x7_6 + x8_6)))) + (wrap64 (256 * (wrap64 (rd l0 (wrap64 ((wrap64 (x7_6 + x8_6)) + 1)))))))) (decide ((wrap64 ((wrap64 (rd l0 (wrap64 (x7_6 + x8_6)))) + (wrap64 (256 * (wrap64 (rd l0 (wrap64 ((wrap64 (x7_6 + x8_6)) + 1)))))))) > (y193.length : Int))))) else (none)) else (none)) else (none)) else (none)))) = some (r1, r2) := by first | (rw [hy193]; with_reducible exact H) | (have H2_ := (Option.bind_some _ _).symm.trans H; rw [hy193]; with_reducible exact H2_) | (have H2_ := (Option.bind_some _ _).symm.trans H; with_reducible exact H2_) | with_reducible exact H | (rw [hy193]; exact H) | exact H
                              have Ny193 := Aside0.mk hy193
                              clear hy193
                              by_cases c19 : (wrap64 (x7_6 + x8_6)) = (l0.length : Int)
                              · rw [if_pos c19] at H
                                have c19b0 : ((wrap64 (x7_6 + x8_6)) == (l0.length : Int)) = true := beq_iff_eq.mpr c19
                                have c19b1 : ((wrap64 (x7_6 + x8_6)) != (l0.length : Int)) = false := bne_eq_false_iff_eq.mpr c19
                                clear c19
                                by_cases c20 : (Int.tmod (wrap64 (rd l0 x7_1)) 16) = 0
                                · rw [if_pos c20] at H
                                  have c20b0 : ((Int.tmod (wrap64 (rd l0 x7_1)) 16) == 0) = true := beq_iff_eq.mpr c20
                                  have c20b1 : ((Int.tmod (wrap64 (rd l0 x7_1)) 16) != 0) = false := bne_eq_false_iff_eq.mpr c20
                                  clear c20
                                  replace H := Option.bind_eq_some_iff.mp H
                                  obtain ⟨t196, A210, H⟩ := H
                                  replace H : (some (t196, 0)) = some (r1, r2) := H
                                  have A21 := Aside0.mk A210
                                  clear A210
                                  simp only [Option.some.injEq, Prod.mk.injEq] at H
                                  obtain ⟨rfl, rfl⟩ := H
                                  obtain ⟨Ao22, co22, eo22⟩ := Kd.R_slice HO_6.out
                                  subst eo22
                                  obtain ⟨i023, hi023, _, hsz23, _⟩ := info_parts info5
                                  obtain ⟨A23, hcut23, hA23, hC23⟩ := print_mid_of (P := Try.prog) (Value.int .u8) 0 22 5 .i64 .i64 Try.underlying22 hi023 hsz23 (some ad188) c0 l0 x7_6 (wrap64 (x7_6 + x8_6)) (of_decide_eq_true (by first | (with_reducible assumption) | assumption)) (by first | omega | exact of_decide_eq_true (by first | (with_reducible assumption) | assumption)) (of_decide_eq_true (by first | (with_reducible assumption) | assumption)) HC0.out
                                  have HR192 := Aside0.mk (Kd.C_of_reads (h1 := fun _ => rfl) (hA23 _ (Kd.reads_of_C HR0.out)))
                                  have HC192 := Aside0.mk hC23
                                  clear hA23 hC23 hi023 hsz23
                                  go_wp2_with (first | ((with_reducible refine gate_builtin (b := .append) (xs := #[.tmp 53, .tmp 59]) rfl ?_); (try (refine gate_guard (by rfl) ?_; dsimp only)); at_builtin; refine Kd.R_append_rows (Kd.int .u8) (w0 := w) w.heap.size rfl (.tmp 53) (.tmp 59) 22 5 (.int .u8 0) 1 rfl Try.underlying22 info5 rfl (by decide) (by omega) (.slice Ao22 x6_1.length co22) x6_1 ((l0.take ((wrap64 (x7_6 + x8_6)) : Int).toNat).drop (x7_6 : Int).toNat) _ _ _ (fun _ => True) (fun _ => False) rfl rfl ?aO ?aR (fun _ _ h => h) (fun _ h => h.elim) ?aF ?aB ?aS ?aL ?_; (case aR => first | (rw [← show ((l0.take ((wrap64 (x7_6 + x8_6)) : Int).toNat).drop (x7_6 : Int).toNat).length = ((wrap64 (x7_6 + x8_6)).toNat - x7_6.toNat) from (by rw [List.length_drop, List.length_take]; have h_ : ((wrap64 (x7_6 + x8_6)) : Int) ≤ (l0.length : Int) := of_decide_eq_true (by first | (with_reducible assumption) | assumption); omega)]; repeat (first | exact (Kd.C_below HR192.out HB.out) | (with_reducible refine Kd.C_alloc ?_ _) | (with_reducible refine Kd.C_drewN ?_ _) | (with_reducible refine Kd.C_drew ?_))) | (repeat (first | exact (Kd.C_below HR192.out HB.out) | (with_reducible refine Kd.C_alloc ?_ _) | (with_reducible refine Kd.C_drewN ?_ _) | (with_reducible refine Kd.C_drew ?_)))); (case aB => exact (by repeat (first | (with_reducible first | exact HB.out | apply below_alloc | apply pw_below_drewN | apply below_drew1) | exact HB.out))); (case aF => exact (fun _ _ => trivial)); (case aO => exact (by (with_reducible repeat (first | apply Kd.R_alloc | apply Kd.R_drewN | apply Kd.R_drew)); exact HO_6.out)); (case aS => exact (below_size (by repeat (first | (with_reducible first | exact HB.out | apply below_alloc | apply pw_below_drewN | apply below_drew1) | exact HB.out)))); (case aL => have := LMc18.out; have hlx_ := (show ((l0.take ((wrap64 (x7_6 + x8_6)) : Int).toNat).drop (x7_6 : Int).toNat).length = ((wrap64 (x7_6 + x8_6)).toNat - x7_6.toNat) from (by rw [List.length_drop, List.length_take]; have h_ : ((wrap64 (x7_6 + x8_6)) : Int) ≤ (l0.length : Int) := of_decide_eq_true (by first | (with_reducible assumption) | assumption); omega)); omega); intro v194 w24 ho hb hg hat; rw [← Ny193.out] at ho; have n0_ := Aside0.mk (hb); have n1_ := Aside0.mk (ho); clear HB; clear HO_6; have HB := n0_; have HO195 := n1_; clear n0_ n1_; clear ho hb hg hat; obtain ⟨Ao25, co25, eo25⟩ := Kd.R_slice HO195.out; subst eo25) | (go_at_call 9; (with_reducible refine (dragnetref01_Copy.calls _ _ y193 t196 _ ?side1 ?side2 A21.out).mono ?_); (case side1 => repeat (first | exact (Kd.R_reads' HO195.out).2.2 | (with_reducible refine Kd.C_alloc ?_ _) | (with_reducible refine Kd.C_drewN ?_ _) | (with_reducible refine Kd.C_drew ?_))); (case side2 => exact (Kd.R_reads' HO195.out).2.1); rintro e w26 ⟨v197, rfl, ho0, hb⟩; have n0_ := Aside0.mk (Kd.R_elder' (by (with_reducible repeat (first | apply Kd.R_alloc | apply Kd.R_drewN | apply Kd.R_drew)); exact HO195.out) (Kd.R_base ho0) hb); have n1_ := Aside0.mk (Kd.R_lower (Kd.R_new' ho0 (Kd.R_lt (by (with_reducible repeat (first | apply Kd.R_alloc | apply Kd.R_drewN | apply Kd.R_drew)); exact HO195.out))) (below_size (by repeat (first | (with_reducible first | exact HB.out | apply below_alloc | apply pw_below_drewN | apply below_drew1) | exact HB.out)))); have n2_ := Aside0.mk (below_step (by repeat (first | (with_reducible first | exact HB.out | apply below_alloc | apply pw_below_drewN | apply below_drew1) | exact HB.out)) hb); clear HO195; clear HB; have HO195 := n0_; have HO198 := n1_; have HB := n2_; clear n0_ n1_ n2_; (try clear hb); (try clear hb2); (try clear hk); (try clear hi); (try clear ho0)))
                                  repeat (go_quiet (first | ((with_reducible refine gate_builtin (b := .append) (xs := #[.tmp 53, .tmp 59]) rfl ?_); (try (refine gate_guard (by rfl) ?_; dsimp only)); at_builtin; refine Kd.R_append_rows (Kd.int .u8) (w0 := w) w.heap.size rfl (.tmp 53) (.tmp 59) 22 5 (.int .u8 0) 1 rfl Try.underlying22 info5 rfl (by decide) (by omega) (.slice Ao22 x6_1.length co22) x6_1 ((l0.take ((wrap64 (x7_6 + x8_6)) : Int).toNat).drop (x7_6 : Int).toNat) _ _ _ (fun _ => True) (fun _ => False) rfl rfl ?aO ?aR (fun _ _ h => h) (fun _ h => h.elim) ?aF ?aB ?aS ?aL ?_; (case aR => first | (rw [← show ((l0.take ((wrap64 (x7_6 + x8_6)) : Int).toNat).drop (x7_6 : Int).toNat).length = ((wrap64 (x7_6 + x8_6)).toNat - x7_6.toNat) from (by rw [List.length_drop, List.length_take]; have h_ : ((wrap64 (x7_6 + x8_6)) : Int) ≤ (l0.length : Int) := of_decide_eq_true (by first | (with_reducible assumption) | assumption); omega)]; repeat (first | exact (Kd.C_below HR192.out HB.out) | (with_reducible refine Kd.C_alloc ?_ _) | (with_reducible refine Kd.C_drewN ?_ _) | (with_reducible refine Kd.C_drew ?_))) | (repeat (first | exact (Kd.C_below HR192.out HB.out) | (with_reducible refine Kd.C_alloc ?_ _) | (with_reducible refine Kd.C_drewN ?_ _) | (with_reducible refine Kd.C_drew ?_)))); (case aB => exact (by repeat (first | (with_reducible first | exact HB.out | apply below_alloc | apply pw_below_drewN | apply below_drew1) | exact HB.out))); (case aF => exact (fun _ _ => trivial)); (case aO => exact (by (with_reducible repeat (first | apply Kd.R_alloc | apply Kd.R_drewN | apply Kd.R_drew)); exact HO_6.out)); (case aS => exact (below_size (by repeat (first | (with_reducible first | exact HB.out | apply below_alloc | apply pw_below_drewN | apply below_drew1) | exact HB.out)))); (case aL => have := LMc18.out; have hlx_ := (show ((l0.take ((wrap64 (x7_6 + x8_6)) : Int).toNat).drop (x7_6 : Int).toNat).length = ((wrap64 (x7_6 + x8_6)).toNat - x7_6.toNat) from (by rw [List.length_drop, List.length_take]; have h_ : ((wrap64 (x7_6 + x8_6)) : Int) ≤ (l0.length : Int) := of_decide_eq_true (by first | (with_reducible assumption) | assumption); omega)); omega); intro v194 w24 ho hb hg hat; rw [← Ny193.out] at ho; have n0_ := Aside0.mk (hb); have n1_ := Aside0.mk (ho); clear HB; clear HO_6; have HB := n0_; have HO195 := n1_; clear n0_ n1_; clear ho hb hg hat; obtain ⟨Ao25, co25, eo25⟩ := Kd.R_slice HO195.out; subst eo25) | (go_at_call 9; (with_reducible refine (dragnetref01_Copy.calls _ _ y193 t196 _ ?side1 ?side2 A21.out).mono ?_); (case side1 => repeat (first | exact (Kd.R_reads' HO195.out).2.2 | (with_reducible refine Kd.C_alloc ?_ _) | (with_reducible refine Kd.C_drewN ?_ _) | (with_reducible refine Kd.C_drew ?_))); (case side2 => exact (Kd.R_reads' HO195.out).2.1); rintro e w26 ⟨v197, rfl, ho0, hb⟩; have n0_ := Aside0.mk (Kd.R_elder' (by (with_reducible repeat (first | apply Kd.R_alloc | apply Kd.R_drewN | apply Kd.R_drew)); exact HO195.out) (Kd.R_base ho0) hb); have n1_ := Aside0.mk (Kd.R_lower (Kd.R_new' ho0 (Kd.R_lt (by (with_reducible repeat (first | apply Kd.R_alloc | apply Kd.R_drewN | apply Kd.R_drew)); exact HO195.out))) (below_size (by repeat (first | (with_reducible first | exact HB.out | apply below_alloc | apply pw_below_drewN | apply below_drew1) | exact HB.out)))); have n2_ := Aside0.mk (below_step (by repeat (first | (with_reducible first | exact HB.out | apply below_alloc | apply pw_below_drewN | apply below_drew1) | exact HB.out)) hb); clear HO195; clear HB; have HO195 := n0_; have HO198 := n1_; have HB := n2_; clear n0_ n1_ n2_; (try clear hb); (try clear hb2); (try clear hk); (try clear hi); (try clear ho0))); try go_wp2_with (first | ((with_reducible refine gate_builtin (b := .append) (xs := #[.tmp 53, .tmp 59]) rfl ?_); (try (refine gate_guard (by rfl) ?_; dsimp only)); at_builtin; refine Kd.R_append_rows (Kd.int .u8) (w0 := w) w.heap.size rfl (.tmp 53) (.tmp 59) 22 5 (.int .u8 0) 1 rfl Try.underlying22 info5 rfl (by decide) (by omega) (.slice Ao22 x6_1.length co22) x6_1 ((l0.take ((wrap64 (x7_6 + x8_6)) : Int).toNat).drop (x7_6 : Int).toNat) _ _ _ (fun _ => True) (fun _ => False) rfl rfl ?aO ?aR (fun _ _ h => h) (fun _ h => h.elim) ?aF ?aB ?aS ?aL ?_; (case aR => first | (rw [← show ((l0.take ((wrap64 (x7_6 + x8_6)) : Int).toNat).drop (x7_6 : Int).toNat).length = ((wrap64 (x7_6 + x8_6)).toNat - x7_6.toNat) from (by rw [List.length_drop, List.length_take]; have h_ : ((wrap64 (x7_6 + x8_6)) : Int) ≤ (l0.length : Int) := of_decide_eq_true (by first | (with_reducible assumption) | assumption); omega)]; repeat (first | exact (Kd.C_below HR192.out HB.out) | (with_reducible refine Kd.C_alloc ?_ _) | (with_reducible refine Kd.C_drewN ?_ _) | (with_reducible refine Kd.C_drew ?_))) | (repeat (first | exact (Kd.C_below HR192.out HB.out) | (with_reducible refine Kd.C_alloc ?_ _) | (with_reducible refine Kd.C_drewN ?_ _) | (with_reducible refine Kd.C_drew ?_)))); (case aB => exact (by repeat (first | (with_reducible first | exact HB.out | apply below_alloc | apply pw_below_drewN | apply below_drew1) | exact HB.out))); (case aF => exact (fun _ _ => trivial)); (case aO => exact (by (with_reducible repeat (first | apply Kd.R_alloc | apply Kd.R_drewN | apply Kd.R_drew)); exact HO_6.out)); (case aS => exact (below_size (by repeat (first | (with_reducible first | exact HB.out | apply below_alloc | apply pw_below_drewN | apply below_drew1) | exact HB.out)))); (case aL => have := LMc18.out; have hlx_ := (show ((l0.take ((wrap64 (x7_6 + x8_6)) : Int).toNat).drop (x7_6 : Int).toNat).length = ((wrap64 (x7_6 + x8_6)).toNat - x7_6.toNat) from (by rw [List.length_drop, List.length_take]; have h_ : ((wrap64 (x7_6 + x8_6)) : Int) ≤ (l0.length : Int) := of_decide_eq_true (by first | (with_reducible assumption) | assumption); omega)); omega); intro v194 w24 ho hb hg hat; rw [← Ny193.out] at ho; have n0_ := Aside0.mk (hb); have n1_ := Aside0.mk (ho); clear HB; clear HO_6; have HB := n0_; have HO195 := n1_; clear n0_ n1_; clear ho hb hg hat; obtain ⟨Ao25, co25, eo25⟩ := Kd.R_slice HO195.out; subst eo25) | (go_at_call 9; (with_reducible refine (dragnetref01_Copy.calls _ _ y193 t196 _ ?side1 ?side2 A21.out).mono ?_); (case side1 => repeat (first | exact (Kd.R_reads' HO195.out).2.2 | (with_reducible refine Kd.C_alloc ?_ _) | (with_reducible refine Kd.C_drewN ?_ _) | (with_reducible refine Kd.C_drew ?_))); (case side2 => exact (Kd.R_reads' HO195.out).2.1); rintro e w26 ⟨v197, rfl, ho0, hb⟩; have n0_ := Aside0.mk (Kd.R_elder' (by (with_reducible repeat (first | apply Kd.R_alloc | apply Kd.R_drewN | apply Kd.R_drew)); exact HO195.out) (Kd.R_base ho0) hb); have n1_ := Aside0.mk (Kd.R_lower (Kd.R_new' ho0 (Kd.R_lt (by (with_reducible repeat (first | apply Kd.R_alloc | apply Kd.R_drewN | apply Kd.R_drew)); exact HO195.out))) (below_size (by repeat (first | (with_reducible first | exact HB.out | apply below_alloc | apply pw_below_drewN | apply below_drew1) | exact HB.out)))); have n2_ := Aside0.mk (below_step (by repeat (first | (with_reducible first | exact HB.out | apply below_alloc | apply pw_below_drewN | apply below_drew1) | exact HB.out)) hb); clear HO195; clear HB; have HO195 := n0_; have HO198 := n1_; have HB := n2_; clear n0_ n1_ n2_; (try clear hb); (try clear hb2); (try clear hk); (try clear hi); (try clear ho0))))
                                  go_ret2
                                  exact ⟨_, by first | rfl | (simp [errW_none, errW_some] <;> rfl) | (simp [*, errW_none, errW_some] <;> rfl), by (with_reducible repeat (first | apply Kd.R_alloc | apply Kd.R_drewN | apply Kd.R_drew)); exact Kd.R_mono HO198.out (fun _ hk => trivial), by repeat (first | (with_reducible first | exact HB.out | apply below_alloc | apply pw_below_drewN | apply below_drew1) | exact HB.out)⟩
                                · rw [if_neg c20] at H
                                  have c20b0 : ((Int.tmod (wrap64 (rd l0 x7_1)) 16) == 0) = false := beq_eq_false_iff_ne.mpr c20
                                  have c20b1 : ((Int.tmod (wrap64 (rd l0 x7_1)) 16) != 0) = true := bne_iff_ne.mpr c20
                                  simp only [Option.some.injEq, Prod.mk.injEq] at H
                                  obtain ⟨rfl, rfl⟩ := H
                                  obtain ⟨Ao27, co27, eo27⟩ := Kd.R_slice HO_6.out
                                  subst eo27
                                  obtain ⟨i028, hi028, _, hsz28, _⟩ := info_parts info5
                                  obtain ⟨A28, hcut28, hA28, hC28⟩ := print_mid_of (P := Try.prog) (Value.int .u8) 0 22 5 .i64 .i64 Try.underlying22 hi028 hsz28 (some ad188) c0 l0 x7_6 (wrap64 (x7_6 + x8_6)) (of_decide_eq_true (by first | (with_reducible assumption) | assumption)) (by first | omega | exact of_decide_eq_true (by first | (with_reducible assumption) | assumption)) (of_decide_eq_true (by first | (with_reducible assumption) | assumption)) HC0.out
                                  have HR192 := Aside0.mk (Kd.C_of_reads (h1 := fun _ => rfl) (hA28 _ (Kd.reads_of_C HR0.out)))
                                  have HC192 := Aside0.mk hC28
                                  clear hA28 hC28 hi028 hsz28
                                  go_wp2_with (first | ((with_reducible refine gate_builtin (b := .append) (xs := #[.tmp 53, .tmp 59]) rfl ?_); (try (refine gate_guard (by rfl) ?_; dsimp only)); at_builtin; refine Kd.R_append_rows (Kd.int .u8) (w0 := w) w.heap.size rfl (.tmp 53) (.tmp 59) 22 5 (.int .u8 0) 1 rfl Try.underlying22 info5 rfl (by decide) (by omega) (.slice Ao27 x6_1.length co27) x6_1 ((l0.take ((wrap64 (x7_6 + x8_6)) : Int).toNat).drop (x7_6 : Int).toNat) _ _ _ (fun _ => True) (fun _ => False) rfl rfl ?aO ?aR (fun _ _ h => h) (fun _ h => h.elim) ?aF ?aB ?aS ?aL ?_; (case aR => first | (rw [← show ((l0.take ((wrap64 (x7_6 + x8_6)) : Int).toNat).drop (x7_6 : Int).toNat).length = ((wrap64 (x7_6 + x8_6)).toNat - x7_6.toNat) from (by rw [List.length_drop, List.length_take]; have h_ : ((wrap64 (x7_6 + x8_6)) : Int) ≤ (l0.length : Int) := of_decide_eq_true (by first | (with_reducible assumption) | assumption); omega)]; repeat (first | exact (Kd.C_below HR192.out HB.out) | (with_reducible refine Kd.C_alloc ?_ _) | (with_reducible refine Kd.C_drewN ?_ _) | (with_reducible refine Kd.C_drew ?_))) | (repeat (first | exact (Kd.C_below HR192.out HB.out) | (with_reducible refine Kd.C_alloc ?_ _) | (with_reducible refine Kd.C_drewN ?_ _) | (with_reducible refine Kd.C_drew ?_)))); (case aB => exact (by repeat (first | (with_reducible first | exact HB.out | apply below_alloc | apply pw_below_drewN | apply below_drew1) | exact HB.out))); (case aF => exact (fun _ _ => trivial)); (case aO => exact (by (with_reducible repeat (first | apply Kd.R_alloc | apply Kd.R_drewN | apply Kd.R_drew)); exact HO_6.out)); (case aS => exact (below_size (by repeat (first | (with_reducible first | exact HB.out | apply below_alloc | apply pw_below_drewN | apply below_drew1) | exact HB.out)))); (case aL => have := LMc18.out; have hlx_ := (show ((l0.take ((wrap64 (x7_6 + x8_6)) : Int).toNat).drop (x7_6 : Int).toNat).length = ((wrap64 (x7_6 + x8_6)).toNat - x7_6.toNat) from (by rw [List.length_drop, List.length_take]; have h_ : ((wrap64 (x7_6 + x8_6)) : Int) ≤ (l0.length : Int) := of_decide_eq_true (by first | (with_reducible assumption) | assumption); omega)); omega); intro v194 w29 ho hb hg hat; rw [← Ny193.out] at ho; have n0_ := Aside0.mk (hb); have n1_ := Aside0.mk (ho); clear HB; clear HO_6; have HB := n0_; have HO195 := n1_; clear n0_ n1_; clear ho hb hg hat))
                                  repeat (go_quiet (first | ((with_reducible refine gate_builtin (b := .append) (xs := #[.tmp 53, .tmp 59]) rfl ?_); (try (refine gate_guard (by rfl) ?_; dsimp only)); at_builtin; refine Kd.R_append_rows (Kd.int .u8) (w0 := w) w.heap.size rfl (.tmp 53) (.tmp 59) 22 5 (.int .u8 0) 1 rfl Try.underlying22 info5 rfl (by decide) (by omega) (.slice Ao27 x6_1.length co27) x6_1 ((l0.take ((wrap64 (x7_6 + x8_6)) : Int).toNat).drop (x7_6 : Int).toNat) _ _ _ (fun _ => True) (fun _ => False) rfl rfl ?aO ?aR (fun _ _ h => h) (fun _ h => h.elim) ?aF ?aB ?aS ?aL ?_; (case aR => first | (rw [← show ((l0.take ((wrap64 (x7_6 + x8_6)) : Int).toNat).drop (x7_6 : Int).toNat).length = ((wrap64 (x7_6 + x8_6)).toNat - x7_6.toNat) from (by rw [List.length_drop, List.length_take]; have h_ : ((wrap64 (x7_6 + x8_6)) : Int) ≤ (l0.length : Int) := of_decide_eq_true (by first | (with_reducible assumption) | assumption); omega)]; repeat (first | exact (Kd.C_below HR192.out HB.out) | (with_reducible refine Kd.C_alloc ?_ _) | (with_reducible refine Kd.C_drewN ?_ _) | (with_reducible refine Kd.C_drew ?_))) | (repeat (first | exact (Kd.C_below HR192.out HB.out) | (with_reducible refine Kd.C_alloc ?_ _) | (with_reducible refine Kd.C_drewN ?_ _) | (with_reducible refine Kd.C_drew ?_)))); (case aB => exact (by repeat (first | (with_reducible first | exact HB.out | apply below_alloc | apply pw_below_drewN | apply below_drew1) | exact HB.out))); (case aF => exact (fun _ _ => trivial)); (case aO => exact (by (with_reducible repeat (first | apply Kd.R_alloc | apply Kd.R_drewN | apply Kd.R_drew)); exact HO_6.out)); (case aS => exact (below_size (by repeat (first | (with_reducible first | exact HB.out | apply below_alloc | apply pw_below_drewN | apply below_drew1) | exact HB.out)))); (case aL => have := LMc18.out; have hlx_ := (show ((l0.take ((wrap64 (x7_6 + x8_6)) : Int).toNat).drop (x7_6 : Int).toNat).length = ((wrap64 (x7_6 + x8_6)).toNat - x7_6.toNat) from (by rw [List.length_drop, List.length_take]; have h_ : ((wrap64 (x7_6 + x8_6)) : Int) ≤ (l0.length : Int) := of_decide_eq_true (by first | (with_reducible assumption) | assumption); omega)); omega); intro v194 w29 ho hb hg hat; rw [← Ny193.out] at ho; have n0_ := Aside0.mk (hb); have n1_ := Aside0.mk (ho); clear HB; clear HO_6; have HB := n0_; have HO195 := n1_; clear n0_ n1_; clear ho hb hg hat)); try go_wp2_with (first | ((with_reducible refine gate_builtin (b := .append) (xs := #[.tmp 53, .tmp 59]) rfl ?_); (try (refine gate_guard (by rfl) ?_; dsimp only)); at_builtin; refine Kd.R_append_rows (Kd.int .u8) (w0 := w) w.heap.size rfl (.tmp 53) (.tmp 59) 22 5 (.int .u8 0) 1 rfl Try.underlying22 info5 rfl (by decide) (by omega) (.slice Ao27 x6_1.length co27) x6_1 ((l0.take ((wrap64 (x7_6 + x8_6)) : Int).toNat).drop (x7_6 : Int).toNat) _ _ _ (fun _ => True) (fun _ => False) rfl rfl ?aO ?aR (fun _ _ h => h) (fun _ h => h.elim) ?aF ?aB ?aS ?aL ?_; (case aR => first | (rw [← show ((l0.take ((wrap64 (x7_6 + x8_6)) : Int).toNat).drop (x7_6 : Int).toNat).length = ((wrap64 (x7_6 + x8_6)).toNat - x7_6.toNat) from (by rw [List.length_drop, List.length_take]; have h_ : ((wrap64 (x7_6 + x8_6)) : Int) ≤ (l0.length : Int) := of_decide_eq_true (by first | (with_reducible assumption) | assumption); omega)]; repeat (first | exact (Kd.C_below HR192.out HB.out) | (with_reducible refine Kd.C_alloc ?_ _) | (with_reducible refine Kd.C_drewN ?_ _) | (with_reducible refine Kd.C_drew ?_))) | (repeat (first | exact (Kd.C_below HR192.out HB.out) | (with_reducible refine Kd.C_alloc ?_ _) | (with_reducible refine Kd.C_drewN ?_ _) | (with_reducible refine Kd.C_drew ?_)))); (case aB => exact (by repeat (first | (with_reducible first | exact HB.out | apply below_alloc | apply pw_below_drewN | apply below_drew1) | exact HB.out))); (case aF => exact (fun _ _ => trivial)); (case aO => exact (by (with_reducible repeat (first | apply Kd.R_alloc | apply Kd.R_drewN | apply Kd.R_drew)); exact HO_6.out)); (case aS => exact (below_size (by repeat (first | (with_reducible first | exact HB.out | apply below_alloc | apply pw_below_drewN | apply below_drew1) | exact HB.out)))); (case aL => have := LMc18.out; have hlx_ := (show ((l0.take ((wrap64 (x7_6 + x8_6)) : Int).toNat).drop (x7_6 : Int).toNat).length = ((wrap64 (x7_6 + x8_6)).toNat - x7_6.toNat) from (by rw [List.length_drop, List.length_take]; have h_ : ((wrap64 (x7_6 + x8_6)) : Int) ≤ (l0.length : Int) := of_decide_eq_true (by first | (with_reducible assumption) | assumption); omega)); omega); intro v194 w29 ho hb hg hat; rw [← Ny193.out] at ho; have n0_ := Aside0.mk (hb); have n1_ := Aside0.mk (ho); clear HB; clear HO_6; have HB := n0_; have HO195 := n1_; clear n0_ n1_; clear ho hb hg hat)))
                                  go_ret2
                                  exact ⟨_, by first | rfl | (simp [errW_none, errW_some] <;> rfl) | (simp [*, errW_none, errW_some] <;> rfl), by first | exact Kd.R_nil _ _ _ _ _ | exact Kd.N_nil _ _ _ _ _ | exact Kd.V_nil _ _ _ _ _ | exact Kd.Q_nil _ _ _ _ _ | exact Kd.S_nil _ _ _ _ _, by repeat (first | (with_reducible first | exact HB.out | apply below_alloc | apply pw_below_drewN | apply below_drew1) | exact HB.out)⟩
                              · rw [if_neg c19] at H
                                have c19b0 : ((wrap64 (x7_6 + x8_6)) == (l0.length : Int)) = false := beq_eq_false_iff_ne.mpr c19
                                have c19b1 : ((wrap64 (x7_6 + x8_6)) != (l0.length : Int)) = true := bne_iff_ne.mpr c19
                                by_cases c30 : (wrap64 ((l0.length : Int) - (wrap64 (x7_6 + x8_6)))) < 2
                                · rw [if_pos c30] at H
                                  have c30b0 : decide ((wrap64 ((l0.length : Int) - (wrap64 (x7_6 + x8_6)))) < 2) = true := decide_eq_true c30
                                  clear c30
                                  simp only [Option.some.injEq, Prod.mk.injEq] at H
                                  obtain ⟨rfl, rfl⟩ := H
                                  obtain ⟨Ao31, co31, eo31⟩ := Kd.R_slice HO_6.out
                                  subst eo31
                                  obtain ⟨i032, hi032, _, hsz32, _⟩ := info_parts info5
                                  obtain ⟨A32, hcut32, hA32, hC32⟩ := print_mid_of (P := Try.prog) (Value.int .u8) 0 22 5 .i64 .i64 Try.underlying22 hi032 hsz32 (some ad188) c0 l0 x7_6 (wrap64 (x7_6 + x8_6)) (of_decide_eq_true (by first | (with_reducible assumption) | assumption)) (by first | omega | exact of_decide_eq_true (by first | (with_reducible assumption) | assumption)) (of_decide_eq_true (by first | (with_reducible assumption) | assumption)) HC0.out
                                  have HR192 := Aside0.mk (Kd.C_of_reads (h1 := fun _ => rfl) (hA32 _ (Kd.reads_of_C HR0.out)))
                                  have HC192 := Aside0.mk hC32
                                  clear hA32 hC32 hi032 hsz32
                                  go_wp2_with (first | ((with_reducible refine gate_builtin (b := .append) (xs := #[.tmp 53, .tmp 59]) rfl ?_); (try (refine gate_guard (by rfl) ?_; dsimp only)); at_builtin; refine Kd.R_append_rows (Kd.int .u8) (w0 := w) w.heap.size rfl (.tmp 53) (.tmp 59) 22 5 (.int .u8 0) 1 rfl Try.underlying22 info5 rfl (by decide) (by omega) (.slice Ao31 x6_1.length co31) x6_1 ((l0.take ((wrap64 (x7_6 + x8_6)) : Int).toNat).drop (x7_6 : Int).toNat) _ _ _ (fun _ => True) (fun _ => False) rfl rfl ?aO ?aR (fun _ _ h => h) (fun _ h => h.elim) ?aF ?aB ?aS ?aL ?_; (case aR => first | (rw [← show ((l0.take ((wrap64 (x7_6 + x8_6)) : Int).toNat).drop (x7_6 : Int).toNat).length = ((wrap64 (x7_6 + x8_6)).toNat - x7_6.toNat) from (by rw [List.length_drop, List.length_take]; have h_ : ((wrap64 (x7_6 + x8_6)) : Int) ≤ (l0.length : Int) := of_decide_eq_true (by first | (with_reducible assumption) | assumption); omega)]; repeat (first | exact (Kd.C_below HR192.out HB.out) | (with_reducible refine Kd.C_alloc ?_ _) | (with_reducible refine Kd.C_drewN ?_ _) | (with_reducible refine Kd.C_drew ?_))) | (repeat (first | exact (Kd.C_below HR192.out HB.out) | (with_reducible refine Kd.C_alloc ?_ _) | (with_reducible refine Kd.C_drewN ?_ _) | (with_reducible refine Kd.C_drew ?_)))); (case aB => exact (by repeat (first | (with_reducible first | exact HB.out | apply below_alloc | apply pw_below_drewN | apply below_drew1) | exact HB.out))); (case aF => exact (fun _ _ => trivial)); (case aO => exact (by (with_reducible repeat (first | apply Kd.R_alloc | apply Kd.R_drewN | apply Kd.R_drew)); exact HO_6.out)); (case aS => exact (below_size (by repeat (first | (with_reducible first | exact HB.out | apply below_alloc | apply pw_below_drewN | apply below_drew1) | exact HB.out)))); (case aL => have := LMc18.out; have hlx_ := (show ((l0.take ((wrap64 (x7_6 + x8_6)) : Int).toNat).drop (x7_6 : Int).toNat).length = ((wrap64 (x7_6 + x8_6)).toNat - x7_6.toNat) from (by rw [List.length_drop, List.length_take]; have h_ : ((wrap64 (x7_6 + x8_6)) : Int) ≤ (l0.length : Int) := of_decide_eq_true (by first | (with_reducible assumption) | assumption); omega)); omega); intro v194 w33 ho hb hg hat; rw [← Ny193.out] at ho; have n0_ := Aside0.mk (hb); have n1_ := Aside0.mk (ho); clear HB; clear HO_6; have HB := n0_; have HO195 := n1_; clear n0_ n1_; clear ho hb hg hat))
                                  repeat (go_quiet (first | ((with_reducible refine gate_builtin (b := .append) (xs := #[.tmp 53, .tmp 59]) rfl ?_); (try (refine gate_guard (by rfl) ?_; dsimp only)); at_builtin; refine Kd.R_append_rows (Kd.int .u8) (w0 := w) w.heap.size rfl (.tmp 53) (.tmp 59) 22 5 (.int .u8 0) 1 rfl Try.underlying22 info5 rfl (by decide) (by omega) (.slice Ao31 x6_1.length co31) x6_1 ((l0.take ((wrap64 (x7_6 + x8_6)) : Int).toNat).drop (x7_6 : Int).toNat) _ _ _ (fun _ => True) (fun _ => False) rfl rfl ?aO ?aR (fun _ _ h => h) (fun _ h => h.elim) ?aF ?aB ?aS ?aL ?_; (case aR => first | (rw [← show ((l0.take ((wrap64 (x7_6 + x8_6)) : Int).toNat).drop (x7_6 : Int).toNat).length = ((wrap64 (x7_6 + x8_6)).toNat - x7_6.toNat) from (by rw [List.length_drop, List.length_take]; have h_ : ((wrap64 (x7_6 + x8_6)) : Int) ≤ (l0.length : Int) := of_decide_eq_true (by first | (with_reducible assumption) | assumption); omega)]; repeat (first | exact (Kd.C_below HR192.out HB.out) | (with_reducible refine Kd.C_alloc ?_ _) | (with_reducible refine Kd.C_drewN ?_ _) | (with_reducible refine Kd.C_drew ?_))) | (repeat (first | exact (Kd.C_below HR192.out HB.out) | (with_reducible refine Kd.C_alloc ?_ _) | (with_reducible refine Kd.C_drewN ?_ _) | (with_reducible refine Kd.C_drew ?_)))); (case aB => exact (by repeat (first | (with_reducible first | exact HB.out | apply below_alloc | apply pw_below_drewN | apply below_drew1) | exact HB.out))); (case aF => exact (fun _ _ => trivial)); (case aO => exact (by (with_reducible repeat (first | apply Kd.R_alloc | apply Kd.R_drewN | apply Kd.R_drew)); exact HO_6.out)); (case aS => exact (below_size (by repeat (first | (with_reducible first | exact HB.out | apply below_alloc | apply pw_below_drewN | apply below_drew1) | exact HB.out)))); (case aL => have := LMc18.out; have hlx_ := (show ((l0.take ((wrap64 (x7_6 + x8_6)) : Int).toNat).drop (x7_6 : Int).toNat).length = ((wrap64 (x7_6 + x8_6)).toNat - x7_6.toNat) from (by rw [List.length_drop, List.length_take]; have h_ : ((wrap64 (x7_6 + x8_6)) : Int) ≤ (l0.length : Int) := of_decide_eq_true (by first | (with_reducible assumption) | assumption); omega)); omega); intro v194 w33 ho hb hg hat; rw [← Ny193.out] at ho; have n0_ := Aside0.mk (hb); have n1_ := Aside0.mk (ho); clear HB; clear HO_6; have HB := n0_; have HO195 := n1_; clear n0_ n1_; clear ho hb hg hat)); try go_wp2_with (first | ((with_reducible refine gate_builtin (b := .append) (xs := #[.tmp 53, .tmp 59]) rfl ?_); (try (refine gate_guard (by rfl) ?_; dsimp only)); at_builtin; refine Kd.R_append_rows (Kd.int .u8) (w0 := w) w.heap.size rfl (.tmp 53) (.tmp 59) 22 5 (.int .u8 0) 1 rfl Try.underlying22 info5 rfl (by decide) (by omega) (.slice Ao31 x6_1.length co31) x6_1 ((l0.take ((wrap64 (x7_6 + x8_6)) : Int).toNat).drop (x7_6 : Int).toNat) _ _ _ (fun _ => True) (fun _ => False) rfl rfl ?aO ?aR (fun _ _ h => h) (fun _ h => h.elim) ?aF ?aB ?aS ?aL ?_; (case aR => first | (rw [← show ((l0.take ((wrap64 (x7_6 + x8_6)) : Int).toNat).drop (x7_6 : Int).toNat).length = ((wrap64 (x7_6 + x8_6)).toNat - x7_6.toNat) from (by rw [List.length_drop, List.length_take]; have h_ : ((wrap64 (x7_6 + x8_6)) : Int) ≤ (l0.length : Int) := of_decide_eq_true (by first | (with_reducible assumption) | assumption); omega)]; repeat (first | exact (Kd.C_below HR192.out HB.out) | (with_reducible refine Kd.C_alloc ?_ _) | (with_reducible refine Kd.C_drewN ?_ _) | (with_reducible refine Kd.C_drew ?_))) | (repeat (first | exact (Kd.C_below HR192.out HB.out) | (with_reducible refine Kd.C_alloc ?_ _) | (with_reducible refine Kd.C_drewN ?_ _) | (with_reducible refine Kd.C_drew ?_)))); (case aB => exact (by repeat (first | (with_reducible first | exact HB.out | apply below_alloc | apply pw_below_drewN | apply below_drew1) | exact HB.out))); (case aF => exact (fun _ _ => trivial)); (case aO => exact (by (with_reducible repeat (first | apply Kd.R_alloc | apply Kd.R_drewN | apply Kd.R_drew)); exact HO_6.out)); (case aS => exact (below_size (by repeat (first | (with_reducible first | exact HB.out | apply below_alloc | apply pw_below_drewN | apply below_drew1) | exact HB.out)))); (case aL => have := LMc18.out; have hlx_ := (show ((l0.take ((wrap64 (x7_6 + x8_6)) : Int).toNat).drop (x7_6 : Int).toNat).length = ((wrap64 (x7_6 + x8_6)).toNat - x7_6.toNat) from (by rw [List.length_drop, List.length_take]; have h_ : ((wrap64 (x7_6 + x8_6)) : Int) ≤ (l0.length : Int) := of_decide_eq_true (by first | (with_reducible assumption) | assumption); omega)); omega); intro v194 w33 ho hb hg hat; rw [← Ny193.out] at ho; have n0_ := Aside0.mk (hb); have n1_ := Aside0.mk (ho); clear HB; clear HO_6; have HB := n0_; have HO195 := n1_; clear n0_ n1_; clear ho hb hg hat)))
                                  go_ret2
                                  exact ⟨_, by first | rfl | (simp [errW_none, errW_some] <;> rfl) | (simp [*, errW_none, errW_some] <;> rfl), by first | exact Kd.R_nil _ _ _ _ _ | exact Kd.N_nil _ _ _ _ _ | exact Kd.V_nil _ _ _ _ _ | exact Kd.Q_nil _ _ _ _ _ | exact Kd.S_nil _ _ _ _ _, by repeat (first | (with_reducible first | exact HB.out | apply below_alloc | apply pw_below_drewN | apply below_drew1) | exact HB.out)⟩
                                · rw [if_neg c30] at H
                                  have c30b0 : decide ((wrap64 ((l0.length : Int) - (wrap64 (x7_6 + x8_6)))) < 2) = false := decide_eq_false c30
                                  clear c30
                                  obtain ⟨ji34, hji34⟩ : ∃ j_ : Int, (wrap64 (x7_6 + x8_6)) = j_ := ⟨_, rfl⟩
                                  replace H : (if 0 ≤ (ji34) then (if (ji34) < (l0.length : Int) then (if 0 ≤ (wrap64 ((ji34) + 1)) then (if (wrap64 ((ji34) + 1)) < (l0.length : Int) then (if (wrap64 ((wrap64 (rd l0 (ji34))) + (wrap64 (256 * (wrap64 (rd l0 (wrap64 ((ji34) + 1)))))))) = 0 then (dragnetref05_Unpack.j2 kj6 l0 a1 y193 (wrap64 ((ji34) + 2)) (Int.tmod (wrap64 (rd l0 x7_1)) 16) (wrap64 ((wrap64 (rd l0 (ji34))) + (wrap64 (256 * (wrap64 (rd l0 (wrap64 ((ji34) + 1)))))))) true) else (dragnetref05_Unpack.j2 kj6 l0 a1 y193 (wrap64 ((ji34) + 2)) (Int.tmod (wrap64 (rd l0 x7_1)) 16) (wrap64 ((wrap64 (rd l0 (ji34))) + (wrap64 (256 * (wrap64 (rd l0 (wrap64 ((ji34) + 1)))))))) (decide ((wrap64 ((wrap64 (rd l0 (ji34))) + (wrap64 (256 * (wrap64 (rd l0 (wrap64 ((ji34) + 1)))))))) > (y193.length : Int))))) else (none)) else (none)) else (none)) else (none)) = some (r1, r2) := by first | (rw [hji34] at H; exact H) | (simp only [hji34] at H ⊢; exact H)
                                  (try rw [hji34] at c16b0)
                                  (try rw [hji34] at c16b1)
                                  (try rw [hji34] at c16)
                                  (try rw [hji34] at c17b0)
                                  (try rw [hji34] at c17b1)
                                  (try rw [hji34] at c17)
                                  (try rw [hji34] at c19b0)
                                  (try rw [hji34] at c19b1)
                                  (try rw [hji34] at c30b0)
                                  (try rw [hji34] at Ny193)
                                  (try rw [hji34] at LMc18)
                                  have hji34w : (IntKind.i64.wrap (x7_6 + x8_6)) = ji34 := (i64_w _).trans hji34
                                  by_cases c35 : 0 ≤ (ji34)
                                  · rw [if_pos c35] at H
                                    have c35b0 : decide (0 ≤ (ji34)) = true := decide_eq_true c35
                                    clear c35
                                    by_cases c36 : (ji34) < (l0.length : Int)
                                    · rw [if_pos c36] at H
                                      have c36b0 : decide ((ji34) < (l0.length : Int)) = true := decide_eq_true c36
                                      clear c36
                                      obtain ⟨ji37, hji37⟩ : ∃ j_ : Int, (wrap64 ((ji34) + 1)) = j_ := ⟨_, rfl⟩
                                      replace H : (if 0 ≤ (ji37) then (if (ji37) < (l0.length : Int) then (if (wrap64 ((wrap64 (rd l0 (ji34))) + (wrap64 (256 * (wrap64 (rd l0 (ji37))))))) = 0 then (dragnetref05_Unpack.j2 kj6 l0 a1 y193 (wrap64 ((ji34) + 2)) (Int.tmod (wrap64 (rd l0 x7_1)) 16) (wrap64 ((wrap64 (rd l0 (ji34))) + (wrap64 (256 * (wrap64 (rd l0 (ji37))))))) true) else (dragnetref05_Unpack.j2 kj6 l0 a1 y193 (wrap64 ((ji34) + 2)) (Int.tmod (wrap64 (rd l0 x7_1)) 16) (wrap64 ((wrap64 (rd l0 (ji34))) + (wrap64 (256 * (wrap64 (rd l0 (ji37))))))) (decide ((wrap64 ((wrap64 (rd l0 (ji34))) + (wrap64 (256 * (wrap64 (rd l0 (ji37))))))) > (y193.length : Int))))) else (none)) else (none)) = some (r1, r2) := by first | (rw [hji37] at H; exact H) | (simp only [hji37] at H ⊢; exact H)
                                      (try rw [hji37] at LMc18)
                                      have hji37w : (IntKind.i64.wrap ((ji34) + 1)) = ji37 := (i64_w _).trans hji37
                                      by_cases c38 : 0 ≤ (ji37)
                                      · rw [if_pos c38] at H
                                        have c38b0 : decide (0 ≤ (ji37)) = true := decide_eq_true c38
                                        clear c38
                                        by_cases c39 : (ji37) < (l0.length : Int)
                                        · rw [if_pos c39] at H
                                          have c39b0 : decide ((ji37) < (l0.length : Int)) = true := decide_eq_true c39
                                          clear c39
                                          have HC40 := Aside0.mk H
                                          clear H
                                          obtain ⟨Ao41, co41, eo41⟩ := Kd.R_slice HO_6.out
                                          subst eo41
                                          obtain ⟨i042, hi042, _, hsz42, _⟩ := info_parts info5
                                          obtain ⟨A42, hcut42, hA42, hC42⟩ := print_mid_of (P := Try.prog) (Value.int .u8) 0 22 5 .i64 .i64 Try.underlying22 hi042 hsz42 (some ad188) c0 l0 x7_6 (ji34) (of_decide_eq_true (by first | (with_reducible assumption) | assumption)) (by first | omega | exact of_decide_eq_true (by first | (with_reducible assumption) | assumption)) (of_decide_eq_true (by first | (with_reducible assumption) | assumption)) HC0.out
                                          have HR192 := Aside0.mk (Kd.C_of_reads (h1 := fun _ => rfl) (hA42 _ (Kd.reads_of_C HR0.out)))
                                          have HC192 := Aside0.mk hC42
                                          clear hA42 hC42 hi042 hsz42
                                          go_upto_region 27 with (first | ((with_reducible refine gate_builtin (b := .append) (xs := #[.tmp 53, .tmp 59]) rfl ?_); (try (refine gate_guard (by rfl) ?_; dsimp only)); at_builtin; refine Kd.R_append_rows (Kd.int .u8) (w0 := w) w.heap.size rfl (.tmp 53) (.tmp 59) 22 5 (.int .u8 0) 1 rfl Try.underlying22 info5 rfl (by decide) (by omega) (.slice Ao41 x6_1.length co41) x6_1 ((l0.take ((ji34) : Int).toNat).drop (x7_6 : Int).toNat) _ _ _ (fun _ => True) (fun _ => False) rfl rfl ?aO ?aR (fun _ _ h => h) (fun _ h => h.elim) ?aF ?aB ?aS ?aL ?_; (case aR => first | (rw [← show ((l0.take ((ji34) : Int).toNat).drop (x7_6 : Int).toNat).length = ((ji34).toNat - x7_6.toNat) from (by rw [List.length_drop, List.length_take]; have h_ : ((ji34) : Int) ≤ (l0.length : Int) := of_decide_eq_true (by first | (with_reducible assumption) | assumption); omega)]; repeat (first | exact (Kd.C_below HR192.out HB.out) | (with_reducible refine Kd.C_alloc ?_ _) | (with_reducible refine Kd.C_drewN ?_ _) | (with_reducible refine Kd.C_drew ?_))) | (repeat (first | exact (Kd.C_below HR192.out HB.out) | (with_reducible refine Kd.C_alloc ?_ _) | (with_reducible refine Kd.C_drewN ?_ _) | (with_reducible refine Kd.C_drew ?_)))); (case aB => exact (by repeat (first | (with_reducible first | exact HB.out | apply below_alloc | apply pw_below_drewN | apply below_drew1) | exact HB.out))); (case aF => exact (fun _ _ => trivial)); (case aO => exact (by (with_reducible repeat (first | apply Kd.R_alloc | apply Kd.R_drewN | apply Kd.R_drew)); exact HO_6.out)); (case aS => exact (below_size (by repeat (first | (with_reducible first | exact HB.out | apply below_alloc | apply pw_below_drewN | apply below_drew1) | exact HB.out)))); (case aL => have := LMc18.out; have hlx_ := (show ((l0.take ((ji34) : Int).toNat).drop (x7_6 : Int).toNat).length = ((ji34).toNat - x7_6.toNat) from (by rw [List.length_drop, List.length_take]; have h_ : ((ji34) : Int) ≤ (l0.length : Int) := of_decide_eq_true (by first | (with_reducible assumption) | assumption); omega)); omega); intro v194 w43 ho hb hg hat; rw [← Ny193.out] at ho; have n0_ := Aside0.mk (hb); have n1_ := Aside0.mk (ho); clear HB; clear HO_6; have HB := n0_; have HO195 := n1_; clear n0_ n1_; clear ho hb hg hat; have p199 : 0 ≤ ((ji34) : Int) := of_decide_eq_true (by first | (with_reducible assumption) | assumption); have q199 : (ji34) < (l0.length : Int) := of_decide_eq_true (by first | (with_reducible assumption) | assumption); obtain ⟨ad199, e199, hx199_0⟩ := Kd.at_int HR0.out (ji34) p199 q199; obtain rfl : ad188 = ad199 := (by injection e199); replace hx199_0 := (HB.out.cell (World.block_lt_of_cell? w _ hx199_0)).trans hx199_0; replace p199 := eq_true p199; replace q199 := eq_true q199; have p200 : 0 ≤ ((ji37) : Int) := of_decide_eq_true (by first | (with_reducible assumption) | assumption); have q200 : (ji37) < (l0.length : Int) := of_decide_eq_true (by first | (with_reducible assumption) | assumption); obtain ⟨ad200, e200, hx200_0⟩ := Kd.at_int HR0.out (ji37) p200 q200; obtain rfl : ad188 = ad200 := (by injection e200); replace hx200_0 := (HB.out.cell (World.block_lt_of_cell? w _ hx200_0)).trans hx200_0; replace p200 := eq_true p200; replace q200 := eq_true q200))
                                          repeat (go_quiet (first | ((with_reducible refine gate_builtin (b := .append) (xs := #[.tmp 53, .tmp 59]) rfl ?_); (try (refine gate_guard (by rfl) ?_; dsimp only)); at_builtin; refine Kd.R_append_rows (Kd.int .u8) (w0 := w) w.heap.size rfl (.tmp 53) (.tmp 59) 22 5 (.int .u8 0) 1 rfl Try.underlying22 info5 rfl (by decide) (by omega) (.slice Ao41 x6_1.length co41) x6_1 ((l0.take ((ji34) : Int).toNat).drop (x7_6 : Int).toNat) _ _ _ (fun _ => True) (fun _ => False) rfl rfl ?aO ?aR (fun _ _ h => h) (fun _ h => h.elim) ?aF ?aB ?aS ?aL ?_; (case aR => first | (rw [← show ((l0.take ((ji34) : Int).toNat).drop (x7_6 : Int).toNat).length = ((ji34).toNat - x7_6.toNat) from (by rw [List.length_drop, List.length_take]; have h_ : ((ji34) : Int) ≤ (l0.length : Int) := of_decide_eq_true (by first | (with_reducible assumption) | assumption); omega)]; repeat (first | exact (Kd.C_below HR192.out HB.out) | (with_reducible refine Kd.C_alloc ?_ _) | (with_reducible refine Kd.C_drewN ?_ _) | (with_reducible refine Kd.C_drew ?_))) | (repeat (first | exact (Kd.C_below HR192.out HB.out) | (with_reducible refine Kd.C_alloc ?_ _) | (with_reducible refine Kd.C_drewN ?_ _) | (with_reducible refine Kd.C_drew ?_)))); (case aB => exact (by repeat (first | (with_reducible first | exact HB.out | apply below_alloc | apply pw_below_drewN | apply below_drew1) | exact HB.out))); (case aF => exact (fun _ _ => trivial)); (case aO => exact (by (with_reducible repeat (first | apply Kd.R_alloc | apply Kd.R_drewN | apply Kd.R_drew)); exact HO_6.out)); (case aS => exact (below_size (by repeat (first | (with_reducible first | exact HB.out | apply below_alloc | apply pw_below_drewN | apply below_drew1) | exact HB.out)))); (case aL => have := LMc18.out; have hlx_ := (show ((l0.take ((ji34) : Int).toNat).drop (x7_6 : Int).toNat).length = ((ji34).toNat - x7_6.toNat) from (by rw [List.length_drop, List.length_take]; have h_ : ((ji34) : Int) ≤ (l0.length : Int) := of_decide_eq_true (by first | (with_reducible assumption) | assumption); omega)); omega); intro v194 w43 ho hb hg hat; rw [← Ny193.out] at ho; have n0_ := Aside0.mk (hb); have n1_ := Aside0.mk (ho); clear HB; clear HO_6; have HB := n0_; have HO195 := n1_; clear n0_ n1_; clear ho hb hg hat; have p199 : 0 ≤ ((ji34) : Int) := of_decide_eq_true (by first | (with_reducible assumption) | assumption); have q199 : (ji34) < (l0.length : Int) := of_decide_eq_true (by first | (with_reducible assumption) | assumption); obtain ⟨ad199, e199, hx199_0⟩ := Kd.at_int HR0.out (ji34) p199 q199; obtain rfl : ad188 = ad199 := (by injection e199); replace hx199_0 := (HB.out.cell (World.block_lt_of_cell? w _ hx199_0)).trans hx199_0; replace p199 := eq_true p199; replace q199 := eq_true q199; have p200 : 0 ≤ ((ji37) : Int) := of_decide_eq_true (by first | (with_reducible assumption) | assumption); have q200 : (ji37) < (l0.length : Int) := of_decide_eq_true (by first | (with_reducible assumption) | assumption); obtain ⟨ad200, e200, hx200_0⟩ := Kd.at_int HR0.out (ji37) p200 q200; obtain rfl : ad188 = ad200 := (by injection e200); replace hx200_0 := (HB.out.cell (World.block_lt_of_cell? w _ hx200_0)).trans hx200_0; replace p200 := eq_true p200; replace q200 := eq_true q200)); go_upto_region 27 with (first | ((with_reducible refine gate_builtin (b := .append) (xs := #[.tmp 53, .tmp 59]) rfl ?_); (try (refine gate_guard (by rfl) ?_; dsimp only)); at_builtin; refine Kd.R_append_rows (Kd.int .u8) (w0 := w) w.heap.size rfl (.tmp 53) (.tmp 59) 22 5 (.int .u8 0) 1 rfl Try.underlying22 info5 rfl (by decide) (by omega) (.slice Ao41 x6_1.length co41) x6_1 ((l0.take ((ji34) : Int).toNat).drop (x7_6 : Int).toNat) _ _ _ (fun _ => True) (fun _ => False) rfl rfl ?aO ?aR (fun _ _ h => h) (fun _ h => h.elim) ?aF ?aB ?aS ?aL ?_; (case aR => first | (rw [← show ((l0.take ((ji34) : Int).toNat).drop (x7_6 : Int).toNat).length = ((ji34).toNat - x7_6.toNat) from (by rw [List.length_drop, List.length_take]; have h_ : ((ji34) : Int) ≤ (l0.length : Int) := of_decide_eq_true (by first | (with_reducible assumption) | assumption); omega)]; repeat (first | exact (Kd.C_below HR192.out HB.out) | (with_reducible refine Kd.C_alloc ?_ _) | (with_reducible refine Kd.C_drewN ?_ _) | (with_reducible refine Kd.C_drew ?_))) | (repeat (first | exact (Kd.C_below HR192.out HB.out) | (with_reducible refine Kd.C_alloc ?_ _) | (with_reducible refine Kd.C_drewN ?_ _) | (with_reducible refine Kd.C_drew ?_)))); (case aB => exact (by repeat (first | (with_reducible first | exact HB.out | apply below_alloc | apply pw_below_drewN | apply below_drew1) | exact HB.out))); (case aF => exact (fun _ _ => trivial)); (case aO => exact (by (with_reducible repeat (first | apply Kd.R_alloc | apply Kd.R_drewN | apply Kd.R_drew)); exact HO_6.out)); (case aS => exact (below_size (by repeat (first | (with_reducible first | exact HB.out | apply below_alloc | apply pw_below_drewN | apply below_drew1) | exact HB.out)))); (case aL => have := LMc18.out; have hlx_ := (show ((l0.take ((ji34) : Int).toNat).drop (x7_6 : Int).toNat).length = ((ji34).toNat - x7_6.toNat) from (by rw [List.length_drop, List.length_take]; have h_ : ((ji34) : Int) ≤ (l0.length : Int) := of_decide_eq_true (by first | (with_reducible assumption) | assumption); omega)); omega); intro v194 w43 ho hb hg hat; rw [← Ny193.out] at ho; have n0_ := Aside0.mk (hb); have n1_ := Aside0.mk (ho); clear HB; clear HO_6; have HB := n0_; have HO195 := n1_; clear n0_ n1_; clear ho hb hg hat; have p199 : 0 ≤ ((ji34) : Int) := of_decide_eq_true (by first | (with_reducible assumption) | assumption); have q199 : (ji34) < (l0.length : Int) := of_decide_eq_true (by first | (with_reducible assumption) | assumption); obtain ⟨ad199, e199, hx199_0⟩ := Kd.at_int HR0.out (ji34) p199 q199; obtain rfl : ad188 = ad199 := (by injection e199); replace hx199_0 := (HB.out.cell (World.block_lt_of_cell? w _ hx199_0)).trans hx199_0; replace p199 := eq_true p199; replace q199 := eq_true q199; have p200 : 0 ≤ ((ji37) : Int) := of_decide_eq_true (by first | (with_reducible assumption) | assumption); have q200 : (ji37) < (l0.length : Int) := of_decide_eq_true (by first | (with_reducible assumption) | assumption); obtain ⟨ad200, e200, hx200_0⟩ := Kd.at_int HR0.out (ji37) p200 q200; obtain rfl : ad188 = ad200 := (by injection e200); replace hx200_0 := (HB.out.cell (World.block_lt_of_cell? w _ hx200_0)).trans hx200_0; replace p200 := eq_true p200; replace q200 := eq_true q200)))
                                          (try simp only [Act.put, List.setIfInBounds_toArray, List.set_cons_zero, List.set_cons_succ])
                                          go_cut [99] (fun v99 wc => ∃ (kq : Nat) (x99_39 : Bool), v99 = .bool x99_39 ∧ Aside0 (dragnetref05_Unpack.j2 kq l0 a1 y193 (wrap64 ((ji34) + 2)) (Int.tmod (wrap64 (rd l0 x7_1)) 16) (wrap64 ((wrap64 (rd l0 (ji34))) + (wrap64 (256 * (wrap64 (rd l0 (ji37))))))) x99_39 = some (r1, r2)) ∧ Aside0 (kq ≤ kj6) ∧ Aside0 (Kd.R (Kd.int .u8) 5 wc w.heap.size (fun _ => True) v194 y193) ∧ Aside0 (Below w.heap.size w wc))
                                          case first =>
                                            have H := HC40.out
                                            clear HC40
                                            by_cases c44 : (wrap64 ((wrap64 (rd l0 (ji34))) + (wrap64 (256 * (wrap64 (rd l0 (ji37))))))) = 0
                                            · rw [if_pos c44] at H
                                              have c44b0 : ((wrap64 ((wrap64 (rd l0 (ji34))) + (wrap64 (256 * (wrap64 (rd l0 (ji37))))))) == 0) = true := beq_iff_eq.mpr c44
                                              have c44b1 : ((wrap64 ((wrap64 (rd l0 (ji34))) + (wrap64 (256 * (wrap64 (rd l0 (ji37))))))) != 0) = false := bne_eq_false_iff_eq.mpr c44
                                              clear c44
                                              (first | rw [c44b0] | (simp only [i64_w, i32_w]; rw [c44b0]) | skip)
                                              have H' := Aside0.mk H
                                              clear H
                                              go_wp2
                                              repeat (go_quiet (fail); try go_wp2)
                                              go_meet
                                              case rel => exact ⟨_, (true), (by first | rfl | (simp; done) | (simp [*]; done)), H', ⟨by have := HK1.out; have := HJ6.out; first | omega | exact Nat.le_refl _⟩, ⟨by (with_reducible repeat (first | apply Kd.R_alloc | apply Kd.R_drewN | apply Kd.R_drew)); exact HO195.out⟩, ⟨by repeat (first | (with_reducible first | exact HB.out | apply below_alloc | apply pw_below_drewN | apply below_drew1) | exact HB.out)⟩⟩
                                            · rw [if_neg c44] at H
                                              have c44b0 : ((wrap64 ((wrap64 (rd l0 (ji34))) + (wrap64 (256 * (wrap64 (rd l0 (ji37))))))) == 0) = false := beq_eq_false_iff_ne.mpr c44
                                              have c44b1 : ((wrap64 ((wrap64 (rd l0 (ji34))) + (wrap64 (256 * (wrap64 (rd l0 (ji37))))))) != 0) = true := bne_iff_ne.mpr c44
                                              (first | rw [c44b0] | (simp only [i64_w, i32_w]; rw [c44b0]) | skip)
                                              have H' := Aside0.mk H
                                              clear H
                                              obtain ⟨Ao45, co45, eo45⟩ := Kd.R_slice HO195.out
                                              subst eo45
                                              go_wp2
                                              repeat (go_quiet (fail); try go_wp2)
                                              go_meet
                                              case rel => exact ⟨_, (decide ((wrap64 ((wrap64 (rd l0 (ji34))) + (wrap64 (256 * (wrap64 (rd l0 (ji37))))))) > (y193.length : Int))), (by first | rfl | (simp; done) | (simp only [← hji34, ← hji37] <;> (first | rfl | simp)) | (simp [*]; done)), H', ⟨by have := HK1.out; have := HJ6.out; first | omega | exact Nat.le_refl _⟩, ⟨by (with_reducible repeat (first | apply Kd.R_alloc | apply Kd.R_drewN | apply Kd.R_drew)); exact HO195.out⟩, ⟨by repeat (first | (with_reducible first | exact HB.out | apply below_alloc | apply pw_below_drewN | apply below_drew1) | exact HB.out)⟩⟩
                                          case rest =>
                                            clear HC40
                                            try clear c1
                                            try clear p1
                                            try clear q1
                                            try clear hx1
                                            try clear c2
                                            try clear p2
                                            try clear q2
                                            try clear hx2
                                            try clear c3
                                            try clear c3b0
                                            try clear c4
                                            try clear c4b0
                                            try clear c5
                                            try clear c5b0
                                            try clear c6
                                            try clear c6b0
                                            try clear p6
                                            try clear c8
                                            try clear c8b0
                                            try clear c8b1
                                            try clear c10
                                            try clear c10b0
                                            try clear c11
                                            try clear c11b0
                                            try clear c13
                                            try clear c13b0
                                            try clear c14
                                            try clear c15
                                            try clear c15b0
                                            try clear c15b1
                                            try clear c16
                                            try clear c16b0
                                            try clear c16b1
                                            try clear c17
                                            try clear c17b0
                                            try clear c17b1
                                            try clear c18
                                            try clear p18
                                            try clear q18
                                            try clear hx18
                                            try clear c19
                                            try clear c19b0
                                            try clear c19b1
                                            try clear p19
                                            try clear q19
                                            try clear hx19
                                            try clear c20
                                            try clear c20b0
                                            try clear c20b1
                                            try clear p20
                                            try clear q20
                                            try clear hx20
                                            try clear c30
                                            try clear c30b0
                                            try clear c35
                                            try clear c35b0
                                            try clear c36
                                            try clear c36b0
                                            try clear c38
                                            try clear c38b0
                                            try clear c39
                                            try clear c39b0
                                            try clear c44
                                            try clear c44b0
                                            try clear c44b1
                                            try clear hx188_0
                                            try clear hx189_0
                                            try clear hx199_0
                                            try clear hx200_0
                                            try clear p1
                                            try clear p188
                                            try clear p189
                                            try clear p199
                                            try clear p2
                                            try clear p200
                                            try clear p6
                                            try clear q1
                                            try clear q188
                                            try clear q189
                                            try clear q199
                                            try clear q200
                                            obtain ⟨kq, x99_39, rfl, HA, HJ39, HO_6, HB⟩ := hcut
                                            cases kq with
                                            | zero => exact absurd HA.out (by simp [dragnetref05_Unpack.j2])
                                            | succ kj39 =>
                                              have H := HA.out
                                              clear HA
                                              simp only [dragnetref05_Unpack.j2] at H
                                              by_cases c46 : x99_39 = true
                                              · subst c46
                                                have H1 : (some (([] : List Int), 2)) = some (r1, r2) := by rw [if_pos rfl] at H; exact H
                                                clear H
                                                have H := H1
                                                clear H1
                                                simp only [Option.some.injEq, Prod.mk.injEq] at H
                                                obtain ⟨rfl, rfl⟩ := H
                                                go_wp2
                                                repeat (go_quiet (fail); try go_wp2)
                                                go_ret2
                                                exact ⟨_, by first | rfl | (simp [errW_none, errW_some] <;> rfl) | (simp only [← hji34, ← hji37]; first | rfl | (simp [errW_none, errW_some] <;> rfl)) | (simp [*, errW_none, errW_some] <;> rfl), by first | exact Kd.R_nil _ _ _ _ _ | exact Kd.N_nil _ _ _ _ _ | exact Kd.V_nil _ _ _ _ _ | exact Kd.Q_nil _ _ _ _ _ | exact Kd.S_nil _ _ _ _ _, by repeat (first | (with_reducible first | exact HB.out | apply below_alloc | apply pw_below_drewN | apply below_drew1) | exact HB.out)⟩
                                              · replace c46 := Bool.eq_false_iff.mpr c46
                                                subst c46
                                                have H1 : (if (Int.tmod (wrap64 (rd l0 x7_1)) 16) = 15 then ((dragnetref05_sum.f kj39 l0 (wrap64 ((ji34) + 2))).bind fun bt201 => (if bt201.2 < 0 then (some (([] : List Int), 2)) else (dragnetref05_Unpack.j3 kj39 l0 a1 y193 bt201.2 bt201.1 (wrap64 ((wrap64 (rd l0 (ji34))) + (wrap64 (256 * (wrap64 (rd l0 (ji37)))))))))) else (dragnetref05_Unpack.j3 kj39 l0 a1 y193 (wrap64 ((ji34) + 2)) (Int.tmod (wrap64 (rd l0 x7_1)) 16) (wrap64 ((wrap64 (rd l0 (ji34))) + (wrap64 (256 * (wrap64 (rd l0 (ji37))))))))) = some (r1, r2) := by rw [if_neg (show ¬ (false = true) by decide)] at H; exact H
                                                clear H
                                                have H := H1
                                                clear H1
                                                have HC47 := Aside0.mk H
                                                clear H
                                                go_upto_if 102 with (fail)
                                                repeat (go_quiet (fail); go_upto_if 102 with (fail))
                                                go_cut [7, 8] (fun v7 v8 wc => ∃ (kq : Nat) (x7_46 : Int) (x8_46 : Int), v7 = .int .i64 x7_46 ∧ v8 = .int .i64 x8_46 ∧ Aside0 (dragnetref05_Unpack.j3 kq l0 a1 y193 x7_46 x8_46 (wrap64 ((wrap64 (rd l0 (ji34))) + (wrap64 (256 * (wrap64 (rd l0 (ji37))))))) = some (r1, r2)) ∧ Aside0 (kq ≤ kj39) ∧ Aside0 (Kd.R (Kd.int .u8) 5 wc w.heap.size (fun _ => True) v194 y193) ∧ Aside0 (Below w.heap.size w wc))
                                                case first =>
                                                  have H := HC47.out
                                                  clear HC47
                                                  by_cases c48 : (Int.tmod (wrap64 (rd l0 x7_1)) 16) = 15
                                                  · rw [if_pos c48] at H
                                                    have c48b0 : ((Int.tmod (wrap64 (rd l0 x7_1)) 16) == 15) = true := beq_iff_eq.mpr c48
                                                    have c48b1 : ((Int.tmod (wrap64 (rd l0 x7_1)) 16) != 15) = false := bne_eq_false_iff_eq.mpr c48
                                                    clear c48
                                                    (first | rw [c48b0] | (simp only [i64_w, i32_w]; rw [c48b0]) | skip)
                                                    replace H := Option.bind_eq_some_iff.mp H
                                                    obtain ⟨⟨t201, t202⟩, A490, H⟩ := H
                                                    replace H : (if t202 < 0 then (some (([] : List Int), 2)) else (dragnetref05_Unpack.j3 kj39 l0 a1 y193 t202 t201 (wrap64 ((wrap64 (rd l0 (ji34))) + (wrap64 (256 * (wrap64 (rd l0 (ji37))))))))) = some (r1, r2) := H
                                                    have A49 := Aside0.mk A490
                                                    clear A490
                                                    by_cases c50 : t202 < 0
                                                    · rw [if_pos c50] at H
                                                      have c50b0 : decide (t202 < 0) = true := decide_eq_true c50
                                                      clear c50
                                                      simp only [Option.some.injEq, Prod.mk.injEq] at H
                                                      obtain ⟨rfl, rfl⟩ := H
                                                      go_wp2_with (first | (go_at_call 22; (with_reducible refine (dragnetref05_sum.calls kj39 _ _ l0 (wrap64 ((ji34) + 2)) t201 t202 _ ?side1 ?side2 A49.out).mono ?_); (case side1 => repeat (first | exact (Kd.C_below HR0.out HB.out) | (with_reducible refine Kd.C_alloc ?_ _) | (with_reducible refine Kd.C_drewN ?_ _) | (with_reducible refine Kd.C_drew ?_))); (case side2 => exact HC0.out); rintro e w' ⟨rfl, ⟨nd, rfl⟩⟩; (try first | exact ⟨rfl, _, World.drewN_drewN _ _ _⟩ | exact ⟨rfl, _, Eq.trans (World.drewN_drewN _ _ _) (congrArg (World.drewN _) (Nat.add_assoc _ _ _))⟩)))
                                                      repeat (go_quiet (first | (go_at_call 22; (with_reducible refine (dragnetref05_sum.calls kj39 _ _ l0 (wrap64 ((ji34) + 2)) t201 t202 _ ?side1 ?side2 A49.out).mono ?_); (case side1 => repeat (first | exact (Kd.C_below HR0.out HB.out) | (with_reducible refine Kd.C_alloc ?_ _) | (with_reducible refine Kd.C_drewN ?_ _) | (with_reducible refine Kd.C_drew ?_))); (case side2 => exact HC0.out); rintro e w' ⟨rfl, ⟨nd, rfl⟩⟩; (try first | exact ⟨rfl, _, World.drewN_drewN _ _ _⟩ | exact ⟨rfl, _, Eq.trans (World.drewN_drewN _ _ _) (congrArg (World.drewN _) (Nat.add_assoc _ _ _))⟩))); try go_wp2_with (first | (go_at_call 22; (with_reducible refine (dragnetref05_sum.calls kj39 _ _ l0 (wrap64 ((ji34) + 2)) t201 t202 _ ?side1 ?side2 A49.out).mono ?_); (case side1 => repeat (first | exact (Kd.C_below HR0.out HB.out) | (with_reducible refine Kd.C_alloc ?_ _) | (with_reducible refine Kd.C_drewN ?_ _) | (with_reducible refine Kd.C_drew ?_))); (case side2 => exact HC0.out); rintro e w' ⟨rfl, ⟨nd, rfl⟩⟩; (try first | exact ⟨rfl, _, World.drewN_drewN _ _ _⟩ | exact ⟨rfl, _, Eq.trans (World.drewN_drewN _ _ _) (congrArg (World.drewN _) (Nat.add_assoc _ _ _))⟩))))
                                                      go_ret2
                                                      exact ⟨_, by first | rfl | (simp [errW_none, errW_some] <;> rfl) | (simp only [← hji34, ← hji37]; first | rfl | (simp [errW_none, errW_some] <;> rfl)) | (simp [*, errW_none, errW_some] <;> rfl), by first | exact Kd.R_nil _ _ _ _ _ | exact Kd.N_nil _ _ _ _ _ | exact Kd.V_nil _ _ _ _ _ | exact Kd.Q_nil _ _ _ _ _ | exact Kd.S_nil _ _ _ _ _, by repeat (first | (with_reducible first | exact HB.out | apply below_alloc | apply pw_below_drewN | apply below_drew1) | exact HB.out)⟩
                                                    · rw [if_neg c50] at H
                                                      have c50b0 : decide (t202 < 0) = false := decide_eq_false c50
                                                      clear c50
                                                      have H' := Aside0.mk H
                                                      clear H
                                                      go_wp2_with (first | (go_at_call 22; (with_reducible refine (dragnetref05_sum.calls kj39 _ _ l0 (wrap64 ((ji34) + 2)) t201 t202 _ ?side1 ?side2 A49.out).mono ?_); (case side1 => repeat (first | exact (Kd.C_below HR0.out HB.out) | (with_reducible refine Kd.C_alloc ?_ _) | (with_reducible refine Kd.C_drewN ?_ _) | (with_reducible refine Kd.C_drew ?_))); (case side2 => exact HC0.out); rintro e w' ⟨rfl, ⟨nd, rfl⟩⟩; (try first | exact ⟨rfl, _, World.drewN_drewN _ _ _⟩ | exact ⟨rfl, _, Eq.trans (World.drewN_drewN _ _ _) (congrArg (World.drewN _) (Nat.add_assoc _ _ _))⟩)))
                                                      repeat (go_quiet (first | (go_at_call 22; (with_reducible refine (dragnetref05_sum.calls kj39 _ _ l0 (wrap64 ((ji34) + 2)) t201 t202 _ ?side1 ?side2 A49.out).mono ?_); (case side1 => repeat (first | exact (Kd.C_below HR0.out HB.out) | (with_reducible refine Kd.C_alloc ?_ _) | (with_reducible refine Kd.C_drewN ?_ _) | (with_reducible refine Kd.C_drew ?_))); (case side2 => exact HC0.out); rintro e w' ⟨rfl, ⟨nd, rfl⟩⟩; (try first | exact ⟨rfl, _, World.drewN_drewN _ _ _⟩ | exact ⟨rfl, _, Eq.trans (World.drewN_drewN _ _ _) (congrArg (World.drewN _) (Nat.add_assoc _ _ _))⟩))); try go_wp2_with (first | (go_at_call 22; (with_reducible refine (dragnetref05_sum.calls kj39 _ _ l0 (wrap64 ((ji34) + 2)) t201 t202 _ ?side1 ?side2 A49.out).mono ?_); (case side1 => repeat (first | exact (Kd.C_below HR0.out HB.out) | (with_reducible refine Kd.C_alloc ?_ _) | (with_reducible refine Kd.C_drewN ?_ _) | (with_reducible refine Kd.C_drew ?_))); (case side2 => exact HC0.out); rintro e w' ⟨rfl, ⟨nd, rfl⟩⟩; (try first | exact ⟨rfl, _, World.drewN_drewN _ _ _⟩ | exact ⟨rfl, _, Eq.trans (World.drewN_drewN _ _ _) (congrArg (World.drewN _) (Nat.add_assoc _ _ _))⟩))))
                                                      go_meet
                                                      case rel => exact ⟨_, (t202), (t201), (by first | rfl | (simp; done) | (simp [*]; done)), (by first | rfl | (simp; done) | (simp [*]; done)), H', ⟨by have := HK1.out; have := HJ6.out; have := HJ39.out; first | omega | exact Nat.le_refl _⟩, ⟨by (with_reducible repeat (first | apply Kd.R_alloc | apply Kd.R_drewN | apply Kd.R_drew)); exact HO_6.out⟩, ⟨by repeat (first | (with_reducible first | exact HB.out | apply below_alloc | apply pw_below_drewN | apply below_drew1) | exact HB.out)⟩⟩
                                                  · rw [if_neg c48] at H
                                                    have c48b0 : ((Int.tmod (wrap64 (rd l0 x7_1)) 16) == 15) = false := beq_eq_false_iff_ne.mpr c48
                                                    have c48b1 : ((Int.tmod (wrap64 (rd l0 x7_1)) 16) != 15) = true := bne_iff_ne.mpr c48
                                                    (first | rw [c48b0] | (simp only [i64_w, i32_w]; rw [c48b0]) | skip)
                                                    have H' := Aside0.mk H
                                                    clear H
                                                    go_wp2
                                                    repeat (go_quiet (fail); try go_wp2)
                                                    go_meet
                                                    case rel => exact ⟨_, ((wrap64 ((ji34) + 2))), ((Int.tmod (wrap64 (rd l0 x7_1)) 16)), (by first | rfl | (simp; done) | (simp only [← hji34] <;> (first | rfl | simp)) | (simp [*]; done)), (by first | rfl | (simp; done) | (simp [*]; done)), H', ⟨by have := HK1.out; have := HJ6.out; have := HJ39.out; first | omega | exact Nat.le_refl _⟩, ⟨by (with_reducible repeat (first | apply Kd.R_alloc | apply Kd.R_drewN | apply Kd.R_drew)); exact HO_6.out⟩, ⟨by repeat (first | (with_reducible first | exact HB.out | apply below_alloc | apply pw_below_drewN | apply below_drew1) | exact HB.out)⟩⟩
                                                case rest =>
                                                  clear HC47
                                                  try clear c1
                                                  try clear p1
                                                  try clear q1
                                                  try clear hx1
                                                  try clear c2
                                                  try clear p2
                                                  try clear q2
                                                  try clear hx2
                                                  try clear c3
                                                  try clear c3b0
                                                  try clear c4
                                                  try clear c4b0
                                                  try clear c5
                                                  try clear c5b0
                                                  try clear c6
                                                  try clear c6b0
                                                  try clear p6
                                                  try clear c8
                                                  try clear c8b0
                                                  try clear c8b1
                                                  try clear c10
                                                  try clear c10b0
                                                  try clear c11
                                                  try clear c11b0
                                                  try clear c13
                                                  try clear c13b0
                                                  try clear c14
                                                  try clear c15
                                                  try clear c15b0
                                                  try clear c15b1
                                                  try clear c16
                                                  try clear c16b0
                                                  try clear c16b1
                                                  try clear c17
                                                  try clear c17b0
                                                  try clear c17b1
                                                  try clear c18
                                                  try clear p18
                                                  try clear q18
                                                  try clear hx18
                                                  try clear c19
                                                  try clear c19b0
                                                  try clear c19b1
                                                  try clear p19
                                                  try clear q19
                                                  try clear hx19
                                                  try clear c20
                                                  try clear c20b0
                                                  try clear c20b1
                                                  try clear p20
                                                  try clear q20
                                                  try clear hx20
                                                  try clear c30
                                                  try clear c30b0
                                                  try clear c35
                                                  try clear c35b0
                                                  try clear c36
                                                  try clear c36b0
                                                  try clear c38
                                                  try clear c38b0
                                                  try clear c39
                                                  try clear c39b0
                                                  try clear c44
                                                  try clear c44b0
                                                  try clear c44b1
                                                  try clear c46
                                                  try clear c48
                                                  try clear c48b0
                                                  try clear c48b1
                                                  try clear c50
                                                  try clear c50b0
                                                  try clear hx188_0
                                                  try clear hx189_0
                                                  try clear hx199_0
                                                  try clear hx200_0
                                                  try clear p1
                                                  try clear p18
                                                  try clear p188
                                                  try clear p189
                                                  try clear p19
                                                  try clear p199
                                                  try clear p2
                                                  try clear p20
                                                  try clear p200
                                                  try clear p6
                                                  try clear q1
                                                  try clear q18
                                                  try clear q188
                                                  try clear q189
                                                  try clear q19
                                                  try clear q199
                                                  try clear q2
                                                  try clear q20
                                                  try clear q200
                                                  obtain ⟨kq, x7_46, x8_46, rfl, rfl, HA, HJ46, HO_6, HB⟩ := hcut
                                                  cases kq with
                                                  | zero => exact absurd HA.out (by simp [dragnetref05_Unpack.j3])
                                                  | succ kj46 =>
                                                    have H := HA.out
                                                    clear HA
                                                    simp only [dragnetref05_Unpack.j3] at H
                                                    by_cases c51 : (wrap64 (x8_46 + 4)) > (wrap64 (a1 - (y193.length : Int)))
                                                    · rw [if_pos c51] at H
                                                      have c51b0 : decide ((wrap64 (a1 - (y193.length : Int))) < (wrap64 (x8_46 + 4))) = true := decide_eq_true c51
                                                      clear c51
                                                      simp only [Option.some.injEq, Prod.mk.injEq] at H
                                                      obtain ⟨rfl, rfl⟩ := H
                                                      obtain ⟨Ao52, co52, eo52⟩ := Kd.R_slice HO_6.out
                                                      subst eo52
                                                      go_wp2
                                                      repeat (go_quiet (fail); try go_wp2)
                                                      go_ret2
                                                      exact ⟨_, by first | rfl | (simp [errW_none, errW_some] <;> rfl) | (simp only [← hji34, ← hji37]; first | rfl | (simp [errW_none, errW_some] <;> rfl)) | (simp [*, errW_none, errW_some] <;> rfl), by first | exact Kd.R_nil _ _ _ _ _ | exact Kd.N_nil _ _ _ _ _ | exact Kd.V_nil _ _ _ _ _ | exact Kd.Q_nil _ _ _ _ _ | exact Kd.S_nil _ _ _ _ _, by repeat (first | (with_reducible first | exact HB.out | apply below_alloc | apply pw_below_drewN | apply below_drew1) | exact HB.out)⟩
                                                    · rw [if_neg c51] at H
                                                      have c51b0 : decide ((wrap64 (a1 - (y193.length : Int))) < (wrap64 (x8_46 + 4))) = false := decide_eq_false c51
                                                      clear c51
                                                      have H' := Aside0.mk H
                                                      clear H
                                                      obtain ⟨Ao53, co53, eo53⟩ := Kd.R_slice HO_6.out
                                                      subst eo53
                                                      go_wp2
                                                      repeat (go_quiet (fail); try go_wp2)
                                                      go_loopg [6, 8] kj46 (fun kq v6 v8 w' => ∃ (x6_5 : List Int) (x8_5 : Int), v8 = .int .i64 x8_5 ∧ Aside0 (dragnetref05_Unpack.l1 kq l0 a1 x6_5 x7_46 x8_5 (wrap64 ((wrap64 (rd l0 (ji34))) + (wrap64 (256 * (wrap64 (rd l0 (ji37))))))) = some (r1, r2)) ∧ Aside0 (kq ≤ kj46) ∧ Aside0 (Kd.R (Kd.int .u8) 5 w' w.heap.size (fun _ => True) v6 x6_5) ∧ Aside0 (Below w.heap.size w w'))
                                                      case atStart => exact ⟨(y193), (wrap64 (x8_46 + 4)), (by first | rfl | (simp; done) | (simp [*]; done)), H', ⟨Nat.le_refl _⟩, ⟨by (with_reducible repeat (first | apply Kd.R_alloc | apply Kd.R_drewN | apply Kd.R_drew)); exact HO_6.out⟩, ⟨by repeat (first | (with_reducible first | exact HB.out | apply below_alloc | apply pw_below_drewN | apply below_drew1) | exact HB.out)⟩⟩
                                                      case round =>
                                                        clear H'
                                                        try clear c1
                                                        try clear p1
                                                        try clear q1
                                                        try clear hx1
                                                        try clear c2
                                                        try clear p2
                                                        try clear q2
                                                        try clear hx2
                                                        try clear c3
                                                        try clear c3b0
                                                        try clear c4
                                                        try clear c4b0
                                                        try clear c5
                                                        try clear c5b0
                                                        try clear c6
                                                        try clear c6b0
                                                        try clear p6
                                                        try clear c8
                                                        try clear c8b0
                                                        try clear c8b1
                                                        try clear c10
                                                        try clear c10b0
                                                        try clear c11
                                                        try clear c11b0
                                                        try clear c13
                                                        try clear c13b0
                                                        try clear c14
                                                        try clear c15
                                                        try clear c15b0
                                                        try clear c15b1
                                                        try clear c16
                                                        try clear c16b0
                                                        try clear c16b1
                                                        try clear c17
                                                        try clear c17b0
                                                        try clear c17b1
                                                        try clear c18
                                                        try clear p18
                                                        try clear q18
                                                        try clear hx18
                                                        try clear c19
                                                        try clear c19b0
                                                        try clear c19b1
                                                        try clear p19
                                                        try clear q19
                                                        try clear hx19
                                                        try clear c20
                                                        try clear c20b0
                                                        try clear c20b1
                                                        try clear p20
                                                        try clear q20
                                                        try clear hx20
                                                        try clear c30
                                                        try clear c30b0
                                                        try clear c35
                                                        try clear c35b0
                                                        try clear c36
                                                        try clear c36b0
                                                        try clear c38
                                                        try clear c38b0
                                                        try clear c39
                                                        try clear c39b0
                                                        try clear c44
                                                        try clear c44b0
                                                        try clear c44b1
                                                        try clear c46
                                                        try clear c48
                                                        try clear c48b0
                                                        try clear c48b1
                                                        try clear c50
                                                        try clear c50b0
                                                        try clear c51
                                                        try clear c51b0
                                                        try clear hx188_0
                                                        try clear hx189_0
                                                        try clear hx199_0
                                                        try clear hx200_0
                                                        try clear p1
                                                        try clear p18
                                                        try clear p188
                                                        try clear p189
                                                        try clear p19
                                                        try clear p199
                                                        try clear p2
                                                        try clear p20
                                                        try clear p200
                                                        try clear p6
                                                        try clear q1
                                                        try clear q18
                                                        try clear q188
                                                        try clear q189
                                                        try clear q19
                                                        try clear q199
                                                        try clear q2
                                                        try clear q20
                                                        try clear q200
                                                        obtain ⟨x6_5, x8_5, rfl, HA, HK5, HO_6, HB⟩ := hrel
                                                        cases gk with
                                                        | zero => exact absurd HA.out (by simp [dragnetref05_Unpack.l1])
                                                        | succ k5 =>
                                                          have H := HA.out
                                                          clear HA
                                                          simp only [dragnetref05_Unpack.l1] at H
                                                          by_cases c54 : x8_5 > 0
                                                          · rw [if_pos c54] at H
                                                            have c54b0 : decide (0 < x8_5) = true := decide_eq_true c54
                                                            clear c54
                                                            obtain ⟨ji55, hji55⟩ : ∃ j_ : Int, (wrap64 ((x6_5.length : Int) - (wrap64 ((wrap64 (rd l0 (ji34))) + (wrap64 (256 * (wrap64 (rd l0 (ji37))))))))) = j_ := ⟨_, rfl⟩
                                                            replace H : (if 0 ≤ (ji55) then (if (ji55) < (x6_5.length : Int) then (if x6_5.length < 140737488355328 then (dragnetref05_Unpack.l1 k5 l0 a1 (x6_5 ++ [rd x6_5 (ji55)]) x7_46 (wrap64 (x8_5 - 1)) (wrap64 ((wrap64 (rd l0 (ji34))) + (wrap64 (256 * (wrap64 (rd l0 (ji37)))))))) else (none)) else (none)) else (none)) = some (r1, r2) := by first | (rw [hji55] at H; exact H) | (simp only [hji55] at H ⊢; exact H)
                                                            (try rw [hji55] at LMc18)
                                                            have hji55w : (IntKind.i64.wrap ((x6_5.length : Int) - (wrap64 ((wrap64 (rd l0 (ji34))) + (wrap64 (256 * (wrap64 (rd l0 (ji37))))))))) = ji55 := (i64_w _).trans hji55
                                                            by_cases c56 : 0 ≤ (ji55)
                                                            · rw [if_pos c56] at H
                                                              have c56b0 : decide (0 ≤ (ji55)) = true := decide_eq_true c56
                                                              clear c56
                                                              by_cases c57 : (ji55) < (x6_5.length : Int)
                                                              · rw [if_pos c57] at H
                                                                have c57b0 : decide ((ji55) < (x6_5.length : Int)) = true := decide_eq_true c57
                                                                clear c57
                                                                by_cases c58 : x6_5.length < 140737488355328
                                                                · rw [if_pos c58] at H
                                                                  have LMc58 := Aside0.mk c58
                                                                  clear c58
                                                                  obtain ⟨y204, hy204⟩ : ∃ y_ : List Int, y_ = (x6_5 ++ [rd x6_5 (ji55)]) := ⟨_, rfl⟩
                                                                  replace H : (dragnetref05_Unpack.l1 k5 l0 a1 y204 x7_46 (wrap64 (x8_5 - 1)) (wrap64 ((wrap64 (rd l0 (ji34))) + (wrap64 (256 * (wrap64 (rd l0 (ji37)))))))) = some (r1, r2) := by first | (rw [hy204]; with_reducible exact H) | (have H2_ := (Option.bind_some _ _).symm.trans H; rw [hy204]; with_reducible exact H2_) | (have H2_ := (Option.bind_some _ _).symm.trans H; with_reducible exact H2_) | with_reducible exact H | (rw [hy204]; exact H) | exact H
                                                                  have Ny204 := Aside0.mk hy204
                                                                  clear hy204
                                                                  have H' := Aside0.mk H
                                                                  clear H
                                                                  obtain ⟨Ao59, co59, eo59⟩ := Kd.R_slice HO_6.out
                                                                  subst eo59
                                                                  have p203 : 0 ≤ ((ji55) : Int) := of_decide_eq_true (by first | (with_reducible assumption) | assumption)
                                                                  have q203 : (ji55) < (x6_5.length : Int) := of_decide_eq_true (by first | (with_reducible assumption) | assumption)
                                                                  obtain ⟨ad203, e203, hx203_0⟩ := Kd.at_int (Kd.R_reads' HO_6.out).2.2 (ji55) p203 q203
                                                                  cases e203
                                                                  replace p203 := eq_true p203
                                                                  replace q203 := eq_true q203
                                                                  go_wp2_with (first | ((with_reducible refine gate_builtin (b := .append) (xs := #[.tmp 123, .tmp 131]) rfl ?_); (try (refine gate_guard (by rfl) ?_; dsimp only)); at_builtin; refine Kd.R_append (Kd.int .u8) (w0 := w) w.heap.size rfl (.tmp 123) (.tmp 131) 22 5 (.int .u8 0) 1 rfl Try.underlying22 info5 rfl (by decide) (by omega) (.slice (some ad203) x6_5.length co59) x6_5 (rd x6_5 (ji55)) [.int .u8 (rd x6_5 (ji55))] (fun _ => True) (fun _ => False) rfl rfl ?aP (fun _ hk => hk.elim) ?aF ?aO ?aB ?aS ?aL ?_; (case aP => exact rfl); (case aB => exact (by repeat (first | (with_reducible first | exact HB.out | apply below_alloc | apply pw_below_drewN | apply below_drew1) | exact HB.out))); (case aF => exact (fun _ _ => trivial)); (case aO => exact (by (with_reducible repeat (first | apply Kd.R_alloc | apply Kd.R_drewN | apply Kd.R_drew)); exact HO_6.out)); (case aS => exact (below_size (by repeat (first | (with_reducible first | exact HB.out | apply below_alloc | apply pw_below_drewN | apply below_drew1) | exact HB.out)))); (case aL => have := LMc58.out; omega); intro v205 w60 ho hb hg hat; rw [← Ny204.out] at ho; have n0_ := Aside0.mk (hb); have n1_ := Aside0.mk (ho); clear HB; clear HO_6; have HB := n0_; have HO206 := n1_; clear n0_ n1_; clear ho hb hg hat))
                                                                  repeat (go_quiet (first | ((with_reducible refine gate_builtin (b := .append) (xs := #[.tmp 123, .tmp 131]) rfl ?_); (try (refine gate_guard (by rfl) ?_; dsimp only)); at_builtin; refine Kd.R_append (Kd.int .u8) (w0 := w) w.heap.size rfl (.tmp 123) (.tmp 131) 22 5 (.int .u8 0) 1 rfl Try.underlying22 info5 rfl (by decide) (by omega) (.slice (some ad203) x6_5.length co59) x6_5 (rd x6_5 (ji55)) [.int .u8 (rd x6_5 (ji55))] (fun _ => True) (fun _ => False) rfl rfl ?aP (fun _ hk => hk.elim) ?aF ?aO ?aB ?aS ?aL ?_; (case aP => exact rfl); (case aB => exact (by repeat (first | (with_reducible first | exact HB.out | apply below_alloc | apply pw_below_drewN | apply below_drew1) | exact HB.out))); (case aF => exact (fun _ _ => trivial)); (case aO => exact (by (with_reducible repeat (first | apply Kd.R_alloc | apply Kd.R_drewN | apply Kd.R_drew)); exact HO_6.out)); (case aS => exact (below_size (by repeat (first | (with_reducible first | exact HB.out | apply below_alloc | apply pw_below_drewN | apply below_drew1) | exact HB.out)))); (case aL => have := LMc58.out; omega); intro v205 w60 ho hb hg hat; rw [← Ny204.out] at ho; have n0_ := Aside0.mk (hb); have n1_ := Aside0.mk (ho); clear HB; clear HO_6; have HB := n0_; have HO206 := n1_; clear n0_ n1_; clear ho hb hg hat)); try go_wp2_with (first | ((with_reducible refine gate_builtin (b := .append) (xs := #[.tmp 123, .tmp 131]) rfl ?_); (try (refine gate_guard (by rfl) ?_; dsimp only)); at_builtin; refine Kd.R_append (Kd.int .u8) (w0 := w) w.heap.size rfl (.tmp 123) (.tmp 131) 22 5 (.int .u8 0) 1 rfl Try.underlying22 info5 rfl (by decide) (by omega) (.slice (some ad203) x6_5.length co59) x6_5 (rd x6_5 (ji55)) [.int .u8 (rd x6_5 (ji55))] (fun _ => True) (fun _ => False) rfl rfl ?aP (fun _ hk => hk.elim) ?aF ?aO ?aB ?aS ?aL ?_; (case aP => exact rfl); (case aB => exact (by repeat (first | (with_reducible first | exact HB.out | apply below_alloc | apply pw_below_drewN | apply below_drew1) | exact HB.out))); (case aF => exact (fun _ _ => trivial)); (case aO => exact (by (with_reducible repeat (first | apply Kd.R_alloc | apply Kd.R_drewN | apply Kd.R_drew)); exact HO_6.out)); (case aS => exact (below_size (by repeat (first | (with_reducible first | exact HB.out | apply below_alloc | apply pw_below_drewN | apply below_drew1) | exact HB.out)))); (case aL => have := LMc58.out; omega); intro v205 w60 ho hb hg hat; rw [← Ny204.out] at ho; have n0_ := Aside0.mk (hb); have n1_ := Aside0.mk (ho); clear HB; clear HO_6; have HB := n0_; have HO206 := n1_; clear n0_ n1_; clear ho hb hg hat)))
                                                                  go_roundg k5
                                                                  case measure => have := HK1.out; have := HJ6.out; have := HJ39.out; have := HJ46.out; have := HK5.out; omega
                                                                  case rel => exact ⟨(y204), (wrap64 (x8_5 - 1)), (by first | rfl | (simp; done) | (simp [*]; done)), H', ⟨by have := HK1.out; have := HJ6.out; have := HJ39.out; have := HJ46.out; have := HK5.out; omega⟩, ⟨by (with_reducible repeat (first | apply Kd.R_alloc | apply Kd.R_drewN | apply Kd.R_drew)); exact HO206.out⟩, ⟨by repeat (first | (with_reducible first | exact HB.out | apply below_alloc | apply pw_below_drewN | apply below_drew1) | exact HB.out)⟩⟩
                                                                · rw [if_neg c58] at H
                                                                  exact absurd H (by simp)
                                                              · rw [if_neg c57] at H
                                                                exact absurd H (by simp)
                                                            · rw [if_neg c56] at H
                                                              exact absurd H (by simp)
                                                          · rw [if_neg c54] at H
                                                            have c54b0 : decide (0 < x8_5) = false := decide_eq_false c54
                                                            clear c54
                                                            have H' := Aside0.mk H
                                                            clear H
                                                            go_wp2
                                                            repeat (go_quiet (fail); try go_wp2)
                                                            go_roundg k5
                                                            case measure => have := HK1.out; have := HJ6.out; have := HJ39.out; have := HJ46.out; have := HK5.out; omega
                                                            case rel => exact ⟨(x6_5), (x7_46), (by first | rfl | (simp; done) | (simp [*]; done)), H', ⟨by have := HK1.out; have := HJ6.out; have := HJ39.out; have := HJ46.out; have := HK5.out; omega⟩, ⟨by (with_reducible repeat (first | apply Kd.R_alloc | apply Kd.R_drewN | apply Kd.R_drew)); exact HO_6.out⟩, ⟨by repeat (first | (with_reducible first | exact HB.out | apply below_alloc | apply pw_below_drewN | apply below_drew1) | exact HB.out)⟩⟩
                                        · rw [if_neg c39] at H
                                          exact absurd H (by simp)
                                      · rw [if_neg c38] at H
                                        exact absurd H (by simp)
                                    · rw [if_neg c36] at H
                                      exact absurd H (by simp)
                                  · rw [if_neg c35] at H
                                    exact absurd H (by simp)
                            · rw [if_neg c18] at H
                              exact absurd H (by simp)
                          · rw [if_neg c17] at H
                            exact absurd H (by simp)
                        · rw [if_neg c16] at H
                          exact absurd H (by simp)
                      · rw [if_neg c15] at H
                        exact absurd H (by simp)
            · rw [if_neg c6] at H
              exact absurd H (by simp)
          · rw [if_neg c5] at H
            exact absurd H (by simp)

end Go.Proofs.Ytjgbimlogenodaa.P
