/- Walks: each Go function that is told here comes to what the plain function beside it says, wherever that one answers. Written by a program of this session (wip/tools/pr.sh), after the manner of print.sh. -/
import Derived.Test.YtoliinokdbppoaaDoorPx0
import Derived.Test.YtoliinokdbppoaaDoorPx1
import Derived.Test.YtoliinokdbppoaaDoorPx3
import Derived.Test.YtoliinokdbppoaaDoorPx5
namespace Go.Proofs.YtoliinokdbppoaaDoor.P
open Go.RowKit Go.Proofs.YtoliinokdbppoaaDoorW.PrintWords Go.Proofs.YtoliinokdbppoaaDoorW.PrintLast Go.Proofs.YtoliinokdbppoaaDoorW.PrintMore
attribute [local go_sem] max2_int min2_int max_two min_two max_three min_three max_four min_four   -- for this text's walks alone
set_option linter.unusedVariables false
set_option linter.unusedSimpArgs false

/-! ### dragnetlaw01_CrcBack: function 9 -/
mutual
def dragnetlaw01_CrcBack.l0 : Nat → List (List Int) → Int → List Int → List Int → Int → Option (Bool)
  | 0, _, _, _, _, _ => none
  | k + 1, x0, x1, x5, x6, x7 => if x7 < (x0.length : Int) then (if 0 ≤ x7 then (if ((rd_L1 x0 x7).length : Int) > 4096 then (some true) else ((crc_Wrap.f (rd_L1 x0 x7)).bind fun bt323 => ((crc_Unwrap.f bt323.1).bind fun bt327 => (if bt323.2 = 0 then (if bt327.2 = 0 then ((dragnetref01_Same.f bt327.1 (rd_L1 x0 x7)).bind fun t332 => (if t332 = true then (if x5.length + bt323.1.length < 140737488355328 then ((some (x5 ++ bt323.1 : List Int)).bind fun y333 => (if x6.length < 17592186044416 then (dragnetlaw01_CrcBack.l0 k x0 x1 y333 (x6 ++ [(y333.length : Int)]) (wrap64 (x7 + 1))) else (none))) else (none)) else (some false))) else (some false)) else (some false))))) else (none)) else ((crc_Split.f k x5).bind fun bt339 => (if bt339.2.1 = (x5.length : Int) then (if bt339.2.2 = 0 then ((dragnetref01_Lists.f k bt339.1 x0).bind fun t344 => (dragnetlaw01_CrcBack.j1 k x0 x1 x5 x6 (!t344))) else (dragnetlaw01_CrcBack.j1 k x0 x1 x5 x6 true)) else (dragnetlaw01_CrcBack.j1 k x0 x1 x5 x6 true)))
def dragnetlaw01_CrcBack.j1 : Nat → List (List Int) → Int → List Int → List Int → Bool → Option (Bool)
  | 0, _, _, _, _, _ => none
  | k + 1, x0, x1, x5, x6, x90 => if x90 = true then (some false) else (if (wrap64 ((x5.length : Int) + 1)) = 0 then (none) else (dragnetlaw01_CrcBack.l1 k x0 x5 x6 (Int.tmod (wrap64 (x1)) (wrap64 ((x5.length : Int) + 1))) 0 0))
def dragnetlaw01_CrcBack.l1 : Nat → List (List Int) → List Int → List Int → Int → Int → Int → Option (Bool)
  | 0, _, _, _, _, _, _ => none
  | k + 1, x0, x5, x6, x15, x16, x17 => if x16 < (x6.length : Int) then (if 0 ≤ x16 then (if (rd x6 x16) ≤ x15 then (dragnetlaw01_CrcBack.l1 k x0 x5 x6 x15 (wrap64 (x16 + 1)) (rd x6 x16)) else (if 0 ≤ x15 then (if x15 ≤ (x5.length : Int) then ((crc_Split.f k (x5.take (x15 : Int).toNat)).bind fun bt351 => (if x16 ≤ (x0.length : Int) then ((dragnetref01_Lists.f k bt351.1 (x0.take (x16 : Int).toNat)).bind fun t360 => (if t360 = true then (if bt351.2.1 = x17 then (if bt351.2.2 = 0 then (if x17 = x15 then (some true) else (some false)) else (if x17 = x15 then (some false) else (some (bt351.2.2 == 3)))) else (some false)) else (some false))) else (none))) else (none)) else (none))) else (none)) else (if 0 ≤ x15 then (if x15 ≤ (x5.length : Int) then ((crc_Split.f k (x5.take (x15 : Int).toNat)).bind fun bt365 => (if 0 ≤ x16 then (if x16 ≤ (x0.length : Int) then ((dragnetref01_Lists.f k bt365.1 (x0.take (x16 : Int).toNat)).bind fun t374 => (if t374 = true then (if bt365.2.1 = x17 then (if bt365.2.2 = 0 then (if x17 = x15 then (some true) else (some false)) else (if x17 = x15 then (some false) else (some (bt365.2.2 == 3)))) else (some false)) else (some false))) else (none)) else (none))) else (none)) else (none))
end
def dragnetlaw01_CrcBack.f (k : Nat) (l0 : List (List Int)) (a1 : Int) : Option (Bool) := (dragnetlaw01_alive.f).bind fun t320 => (if t320 = true then (if (l0.length : Int) > 30 then (some true) else (dragnetlaw01_CrcBack.l0 k l0 a1 ([] : List Int) ([] : List Int) 0)) else (some false))
theorem dragnetlaw01_CrcBack.mono_l : ∀ k, (∀ y0 y1 y2 y3 y4, LeO (dragnetlaw01_CrcBack.l0 k y0 y1 y2 y3 y4) (dragnetlaw01_CrcBack.l0 (k + 1) y0 y1 y2 y3 y4)) ∧ (∀ y0 y1 y2 y3 y4, LeO (dragnetlaw01_CrcBack.j1 k y0 y1 y2 y3 y4) (dragnetlaw01_CrcBack.j1 (k + 1) y0 y1 y2 y3 y4)) ∧ (∀ y0 y1 y2 y3 y4 y5, LeO (dragnetlaw01_CrcBack.l1 k y0 y1 y2 y3 y4 y5) (dragnetlaw01_CrcBack.l1 (k + 1) y0 y1 y2 y3 y4 y5))
  | 0 => ⟨fun _ _ _ _ _ r h => by simp [dragnetlaw01_CrcBack.l0] at h, fun _ _ _ _ _ r h => by simp [dragnetlaw01_CrcBack.j1] at h, fun _ _ _ _ _ _ r h => by simp [dragnetlaw01_CrcBack.l1] at h⟩
  | k + 1 => by
    obtain ⟨ih0, ih1, ih2⟩ := dragnetlaw01_CrcBack.mono_l k
    refine ⟨?_, ?_, ?_⟩
    · intro y0 y1 y2 y3 y4
      unfold dragnetlaw01_CrcBack.l0
      repeat' first
      | (with_reducible exact ih0 _ _ _ _ _)
      | (with_reducible exact ih1 _ _ _ _ _)
      | (with_reducible exact ih2 _ _ _ _ _ _)
      | (with_reducible exact crc_Split.mono _ _)
      | (with_reducible exact dragnetref01_Lists.mono _ _ _)
      | (with_reducible exact LeO.refl _)
      | (with_reducible exact LeO.none _)
      | (with_reducible refine LeO.ite ?_ ?_)
      | (with_reducible refine LeO.bind ?_ (fun _ => ?_))
      | exact ih0 _ _ _ _ _
      | exact ih1 _ _ _ _ _
      | exact ih2 _ _ _ _ _ _
      | exact crc_Split.mono _ _
      | exact dragnetref01_Lists.mono _ _ _
      | exact LeO.none _
      | refine LeO.ite ?_ ?_
      | refine LeO.bind ?_ (fun _ => ?_)
    · intro y0 y1 y2 y3 y4
      unfold dragnetlaw01_CrcBack.j1
      repeat' first
      | (with_reducible exact ih0 _ _ _ _ _)
      | (with_reducible exact ih1 _ _ _ _ _)
      | (with_reducible exact ih2 _ _ _ _ _ _)
      | (with_reducible exact crc_Split.mono _ _)
      | (with_reducible exact dragnetref01_Lists.mono _ _ _)
      | (with_reducible exact LeO.refl _)
      | (with_reducible exact LeO.none _)
      | (with_reducible refine LeO.ite ?_ ?_)
      | (with_reducible refine LeO.bind ?_ (fun _ => ?_))
      | exact ih0 _ _ _ _ _
      | exact ih1 _ _ _ _ _
      | exact ih2 _ _ _ _ _ _
      | exact crc_Split.mono _ _
      | exact dragnetref01_Lists.mono _ _ _
      | exact LeO.none _
      | refine LeO.ite ?_ ?_
      | refine LeO.bind ?_ (fun _ => ?_)
    · intro y0 y1 y2 y3 y4 y5
      unfold dragnetlaw01_CrcBack.l1
      repeat' first
      | (with_reducible exact ih0 _ _ _ _ _)
      | (with_reducible exact ih1 _ _ _ _ _)
      | (with_reducible exact ih2 _ _ _ _ _ _)
      | (with_reducible exact crc_Split.mono _ _)
      | (with_reducible exact dragnetref01_Lists.mono _ _ _)
      | (with_reducible exact LeO.refl _)
      | (with_reducible exact LeO.none _)
      | (with_reducible refine LeO.ite ?_ ?_)
      | (with_reducible refine LeO.bind ?_ (fun _ => ?_))
      | exact ih0 _ _ _ _ _
      | exact ih1 _ _ _ _ _
      | exact ih2 _ _ _ _ _ _
      | exact crc_Split.mono _ _
      | exact dragnetref01_Lists.mono _ _ _
      | exact LeO.none _
      | refine LeO.ite ?_ ?_
      | refine LeO.bind ?_ (fun _ => ?_)
theorem dragnetlaw01_CrcBack.mono : ∀ a0 a1 k, LeO (dragnetlaw01_CrcBack.f k a0 a1) (dragnetlaw01_CrcBack.f (k + 1) a0 a1) := by
  intro a0 a1 k
  obtain ⟨ih0, ih1, ih2⟩ := dragnetlaw01_CrcBack.mono_l k
  unfold dragnetlaw01_CrcBack.f
  repeat' first
      | (with_reducible exact ih0 _ _ _ _ _)
      | (with_reducible exact ih1 _ _ _ _ _)
      | (with_reducible exact ih2 _ _ _ _ _ _)
      | (with_reducible exact crc_Split.mono _ _)
      | (with_reducible exact dragnetref01_Lists.mono _ _ _)
      | (with_reducible exact LeO.refl _)
      | (with_reducible exact LeO.none _)
      | (with_reducible refine LeO.ite ?_ ?_)
      | (with_reducible refine LeO.bind ?_ (fun _ => ?_))
      | exact ih0 _ _ _ _ _
      | exact ih1 _ _ _ _ _
      | exact ih2 _ _ _ _ _ _
      | exact crc_Split.mono _ _
      | exact dragnetref01_Lists.mono _ _ _
      | exact LeO.none _
      | refine LeO.ite ?_ ?_
      | refine LeO.bind ?_ (fun _ => ?_)
set_option maxHeartbeats 8000000 in
set_option maxRecDepth 100000 in
theorem dragnetlaw01_CrcBack.calls (k : Nat) (A0 : Option Addr) (c0 : Nat) (l0 : List (List Int)) (a1 : Int) (r : Bool) (w : World) (hr0 : Kd.C (Kd.slice 5 (Kd.int .u8)) w A0 l0.length l0) (hc0 : l0.length ≤ c0) (hG : GT w) (h : dragnetlaw01_CrcBack.f k l0 a1 = some r) :
    Calls Tryd.prog 9 #[.slice A0 l0.length c0, .int .u16 a1] w fun e w' => e = .returned (.bool r) ∧ Below w.heap.size w w' := by
  have HR0 := Aside0.mk hr0
  have HC0 := Aside0.mk hc0
  clear hr0 hc0
  have HB := Aside0.mk (Below.refl w.heap.size w)
  have HG := Aside0.mk hG
  clear hG
  have H : ((dragnetlaw01_alive.f).bind fun t320 => (if t320 = true then (if (l0.length : Int) > 30 then (some true) else (dragnetlaw01_CrcBack.l0 k l0 a1 ([] : List Int) ([] : List Int) 0)) else (some false))) = some r := h
  clear h
  replace H := Option.bind_eq_some_iff.mp H
  obtain ⟨t320, A30, H⟩ := H
  replace H : (if t320 = true then (if (l0.length : Int) > 30 then (some true) else (dragnetlaw01_CrcBack.l0 k l0 a1 ([] : List Int) ([] : List Int) 0)) else (some false)) = some r := H
  have A3 := Aside0.mk A30
  clear A30
  by_cases c4 : t320 = true
  · subst c4
    have H1 : (if (l0.length : Int) > 30 then (some true) else (dragnetlaw01_CrcBack.l0 k l0 a1 ([] : List Int) ([] : List Int) 0)) = some r := by rw [if_pos rfl] at H; exact H
    clear H
    have H := H1
    clear H1
    by_cases c5 : (l0.length : Int) > 30
    · rw [if_pos c5] at H
      have c5b0 : decide (30 < (l0.length : Int)) = true := decide_eq_true c5
      have c5b1 : decide (30 < l0.length) = true := decide_eq_true (by omega)
      clear c5
      obtain rfl := Option.some.inj H
      go_enter Tryd.func9, Tryd.ntmps9
      go_wp2_with (first | ((with_reducible refine gate_callee (f := 10) rfl ?_); refine goesL_ (some 18) rfl rfl Tryd.func10 (by kernel_rfl) rfl #[] rfl (by (try simp only [List.map_toArray, List.map_cons, List.map_nil]); first | done | rfl | (simp only [List.length_drop, List.length_take]; rfl)) ?_; (with_reducible refine (dragnetlaw01_alive.calls  true _ ?side1 A3.out).mono ?_); (case side1 => exact GT.below HG.out (by repeat (first | (with_reducible first | exact HB.out | apply below_alloc | apply pw_below_drewN | apply below_drew1) | exact HB.out))); rintro e w6 ⟨rfl, hb⟩; refine ⟨_, rfl, ?_⟩; have n0_ := Aside0.mk (below_step (by repeat (first | (with_reducible first | exact HB.out | apply below_alloc | apply pw_below_drewN | apply below_drew1) | exact HB.out)) hb); clear HB; have HB := n0_; clear n0_; (try clear hb); (try clear hb2); (try clear hk); (try clear hi)))
      go_ret
      exact ⟨by first | rfl | (simp [errW_none, errW_some] <;> rfl) | (simp [*, errW_none, errW_some] <;> rfl), by repeat (first | (with_reducible first | exact HB.out | apply below_alloc | apply pw_below_drewN | apply below_drew1) | exact HB.out)⟩
    · rw [if_neg c5] at H
      have c5b0 : decide (30 < (l0.length : Int)) = false := decide_eq_false c5
      have c5b1 : decide (30 < l0.length) = false := decide_eq_false (by omega)
      clear c5
      have H' := Aside0.mk H
      clear H
      go_enter Tryd.func9, Tryd.ntmps9
      go_wp2_with (first | ((with_reducible refine gate_callee (f := 10) rfl ?_); refine goesL_ (some 18) rfl rfl Tryd.func10 (by kernel_rfl) rfl #[] rfl (by (try simp only [List.map_toArray, List.map_cons, List.map_nil]); first | done | rfl | (simp only [List.length_drop, List.length_take]; rfl)) ?_; (with_reducible refine (dragnetlaw01_alive.calls  true _ ?side1 A3.out).mono ?_); (case side1 => exact GT.below HG.out (by repeat (first | (with_reducible first | exact HB.out | apply below_alloc | apply pw_below_drewN | apply below_drew1) | exact HB.out))); rintro e w7 ⟨rfl, hb⟩; refine ⟨_, rfl, ?_⟩; have n0_ := Aside0.mk (below_step (by repeat (first | (with_reducible first | exact HB.out | apply below_alloc | apply pw_below_drewN | apply below_drew1) | exact HB.out)) hb); clear HB; have HB := n0_; clear n0_; (try clear hb); (try clear hb2); (try clear hk); (try clear hi)))
      go_loopg [5, 6, 7] k (fun kq v5 v6 v7 w' => ∃ (x5_1 : List Int) (x6_1 : List Int) (x7_1 : Int), v7 = .int .i64 x7_1 ∧ Aside0 (dragnetlaw01_CrcBack.l0 kq l0 a1 x5_1 x6_1 x7_1 = some r) ∧ Aside0 (kq ≤ k) ∧ Aside0 (Kd.R (Kd.int .u8) 5 w' w.heap.size (fun _ => True) v5 x5_1) ∧ Aside0 (Kd.R (Kd.int .i64) 3 w' w.heap.size (fun _ => True) v6 x6_1) ∧ Aside0 (Below w.heap.size w w'))
      case atStart => exact ⟨(([] : List Int)), (([] : List Int)), (0), (by first | rfl | (simp; done) | (simp [*]; done)), H', ⟨Nat.le_refl _⟩, ⟨by first | exact Kd.R_nil _ _ _ _ _ | exact Kd.N_nil _ _ _ _ _ | exact Kd.V_nil _ _ _ _ _ | exact Kd.Q_nil _ _ _ _ _ | exact Kd.S_nil _ _ _ _ _⟩, ⟨by first | exact Kd.R_nil _ _ _ _ _ | exact Kd.N_nil _ _ _ _ _ | exact Kd.V_nil _ _ _ _ _ | exact Kd.Q_nil _ _ _ _ _ | exact Kd.S_nil _ _ _ _ _⟩, ⟨by repeat (first | (with_reducible first | exact HB.out | apply below_alloc | apply pw_below_drewN | apply below_drew1) | exact HB.out)⟩⟩
      case round =>
        clear H'
        try clear c1
        try clear p2
        try clear c4
        try clear c5
        try clear c5b0
        try clear c5b1
        obtain ⟨x5_1, x6_1, x7_1, rfl, HA, HK1, HO_5, HO_6, HB⟩ := hrel
        cases gk with
        | zero => exact absurd HA.out (by simp [dragnetlaw01_CrcBack.l0])
        | succ k1 =>
          have H := HA.out
          clear HA
          simp only [dragnetlaw01_CrcBack.l0] at H
          by_cases c8 : x7_1 < (l0.length : Int)
          · rw [if_pos c8] at H
            have c8b0 : decide (x7_1 < (l0.length : Int)) = true := decide_eq_true c8
            clear c8
            by_cases c9 : 0 ≤ x7_1
            · rw [if_pos c9] at H
              have c9b0 : decide (0 ≤ x7_1) = true := decide_eq_true c9
              clear c9
              by_cases c10 : ((rd_L1 l0 x7_1).length : Int) > 4096
              · rw [if_pos c10] at H
                have c10b0 : decide (4096 < ((rd_L1 l0 x7_1).length : Int)) = true := decide_eq_true c10
                have c10b1 : decide (4096 < (rd_L1 l0 x7_1).length) = true := decide_eq_true (by omega)
                clear c10
                obtain rfl := Option.some.inj H
                have p321 : 0 ≤ (x7_1 : Int) := of_decide_eq_true (by first | (with_reducible assumption) | assumption)
                have q321 : x7_1 < (l0.length : Int) := of_decide_eq_true (by first | (with_reducible assumption) | assumption)
                obtain ⟨ad321, A321_0, c321_0, e321, hx321_0, hl321_0, hi321_0⟩ := at_L1 HR0.out x7_1 p321 q321
                cases e321
                replace hx321_0 := (HB.out.cell (World.block_lt_of_cell? w _ hx321_0)).trans hx321_0
                have HR321_0 := Aside0.mk hi321_0
                have HC321_0 := Aside0.mk hl321_0
                clear hi321_0 hl321_0
                replace p321 := eq_true p321
                replace q321 := eq_true q321
                go_wp2
                go_ret
                exact ⟨by first | rfl | (simp [errW_none, errW_some] <;> rfl) | (simp [*, errW_none, errW_some] <;> rfl), by repeat (first | (with_reducible first | exact HB.out | apply below_alloc | apply pw_below_drewN | apply below_drew1) | exact HB.out)⟩
              · rw [if_neg c10] at H
                have c10b0 : decide (4096 < ((rd_L1 l0 x7_1).length : Int)) = false := decide_eq_false c10
                have c10b1 : decide (4096 < (rd_L1 l0 x7_1).length) = false := decide_eq_false (by omega)
                clear c10
                replace H := Option.bind_eq_some_iff.mp H
                obtain ⟨⟨t323, t324⟩, A110, H⟩ := H
                replace H : ((crc_Unwrap.f t323).bind fun bt327 => (if t324 = 0 then (if bt327.2 = 0 then ((dragnetref01_Same.f bt327.1 (rd_L1 l0 x7_1)).bind fun t332 => (if t332 = true then (if x5_1.length + t323.length < 140737488355328 then ((some (x5_1 ++ t323 : List Int)).bind fun y333 => (if x6_1.length < 17592186044416 then (dragnetlaw01_CrcBack.l0 k1 l0 a1 y333 (x6_1 ++ [(y333.length : Int)]) (wrap64 (x7_1 + 1))) else (none))) else (none)) else (some false))) else (some false)) else (some false))) = some r := H
                have A11 := Aside0.mk A110
                clear A110
                replace H := Option.bind_eq_some_iff.mp H
                obtain ⟨⟨t327, t328⟩, A120, H⟩ := H
                replace H : (if t324 = 0 then (if t328 = 0 then ((dragnetref01_Same.f t327 (rd_L1 l0 x7_1)).bind fun t332 => (if t332 = true then (if x5_1.length + t323.length < 140737488355328 then ((some (x5_1 ++ t323 : List Int)).bind fun y333 => (if x6_1.length < 17592186044416 then (dragnetlaw01_CrcBack.l0 k1 l0 a1 y333 (x6_1 ++ [(y333.length : Int)]) (wrap64 (x7_1 + 1))) else (none))) else (none)) else (some false))) else (some false)) else (some false)) = some r := H
                have A12 := Aside0.mk A120
                clear A120
                by_cases c13 : t324 = 0
                · rw [if_pos c13] at H
                  have c13b0 : (t324 == 0) = true := beq_iff_eq.mpr c13
                  have c13b1 : (t324 != 0) = false := bne_eq_false_iff_eq.mpr c13
                  clear c13
                  by_cases c14 : t328 = 0
                  · rw [if_pos c14] at H
                    have c14b0 : (t328 == 0) = true := beq_iff_eq.mpr c14
                    have c14b1 : (t328 != 0) = false := bne_eq_false_iff_eq.mpr c14
                    clear c14
                    replace H := Option.bind_eq_some_iff.mp H
                    obtain ⟨t332, A150, H⟩ := H
                    replace H : (if t332 = true then (if x5_1.length + t323.length < 140737488355328 then ((some (x5_1 ++ t323 : List Int)).bind fun y333 => (if x6_1.length < 17592186044416 then (dragnetlaw01_CrcBack.l0 k1 l0 a1 y333 (x6_1 ++ [(y333.length : Int)]) (wrap64 (x7_1 + 1))) else (none))) else (none)) else (some false)) = some r := H
                    have A15 := Aside0.mk A150
                    clear A150
                    by_cases c16 : t332 = true
                    · subst c16
                      have H1 : (if x5_1.length + t323.length < 140737488355328 then ((some (x5_1 ++ t323 : List Int)).bind fun y333 => (if x6_1.length < 17592186044416 then (dragnetlaw01_CrcBack.l0 k1 l0 a1 y333 (x6_1 ++ [(y333.length : Int)]) (wrap64 (x7_1 + 1))) else (none))) else (none)) = some r := by rw [if_pos rfl] at H; exact H
                      clear H
                      have H := H1
                      clear H1
                      by_cases c17 : x5_1.length + t323.length < 140737488355328
                      · rw [if_pos c17] at H
                        have LMc17 := Aside0.mk c17
                        clear c17
                        obtain ⟨y333, hy333⟩ : ∃ y_ : List Int, y_ = (x5_1 ++ t323) := ⟨_, rfl⟩
                        replace H : (if x6_1.length < 17592186044416 then (dragnetlaw01_CrcBack.l0 k1 l0 a1 y333 (x6_1 ++ [(y333.length : Int)]) (wrap64 (x7_1 + 1))) else (none)) = some r := by first | (rw [hy333]; with_reducible exact H) | (have H2_ := (Option.bind_some _ _).symm.trans H; rw [hy333]; with_reducible exact H2_) | (have H2_ := (Option.bind_some _ _).symm.trans H; with_reducible exact H2_) | with_reducible exact H | (rw [hy333]; exact H) | exact H
                        have Ny333 := Aside0.mk hy333
                        clear hy333
                        by_cases c18 : x6_1.length < 17592186044416
                        · rw [if_pos c18] at H
                          have LMc18 := Aside0.mk c18
                          clear c18
                          obtain ⟨y336, hy336⟩ : ∃ y_ : List Int, y_ = (x6_1 ++ [(y333.length : Int)]) := ⟨_, rfl⟩
                          replace H : (dragnetlaw01_CrcBack.l0 k1 l0 a1 y333 y336 (wrap64 (x7_1 + 1))) = some r := by first | (rw [hy336]; with_reducible exact H) | (have H2_ := (Option.bind_some _ _).symm.trans H; rw [hy336]; with_reducible exact H2_) | (have H2_ := (Option.bind_some _ _).symm.trans H; with_reducible exact H2_) | with_reducible exact H | (rw [hy336]; exact H) | exact H
                          have Ny336 := Aside0.mk hy336
                          clear hy336
                          have H' := Aside0.mk H
                          clear H
                          have p321 : 0 ≤ (x7_1 : Int) := of_decide_eq_true (by first | (with_reducible assumption) | assumption)
                          have q321 : x7_1 < (l0.length : Int) := of_decide_eq_true (by first | (with_reducible assumption) | assumption)
                          obtain ⟨ad321, A321_0, c321_0, e321, hx321_0, hl321_0, hi321_0⟩ := at_L1 HR0.out x7_1 p321 q321
                          cases e321
                          replace hx321_0 := (HB.out.cell (World.block_lt_of_cell? w _ hx321_0)).trans hx321_0
                          have HR321_0 := Aside0.mk hi321_0
                          have HC321_0 := Aside0.mk hl321_0
                          clear hi321_0 hl321_0
                          replace p321 := eq_true p321
                          replace q321 := eq_true q321
                          have p322 : 0 ≤ (x7_1 : Int) := of_decide_eq_true (by first | (with_reducible assumption) | assumption)
                          have q322 : x7_1 < (l0.length : Int) := of_decide_eq_true (by first | (with_reducible assumption) | assumption)
                          obtain ⟨ad322, A322_0, c322_0, e322, hx322_0, hl322_0, hi322_0⟩ := at_L1 HR0.out x7_1 p322 q322
                          obtain rfl : ad321 = ad322 := (by injection e322)
                          replace hx322_0 := (HB.out.cell (World.block_lt_of_cell? w _ hx322_0)).trans hx322_0
                          have HR322_0 := Aside0.mk hi322_0
                          have HC322_0 := Aside0.mk hl322_0
                          clear hi322_0 hl322_0
                          replace p322 := eq_true p322
                          replace q322 := eq_true q322
                          have ea_ := Option.some.inj (hx321_0.symm.trans hx322_0)
                          injection ea_ with ea_ en_ ec_
                          subst ea_
                          subst ec_
                          clear en_
                          go_wp2_with (first | ((with_reducible refine gate_callee (f := 15) rfl ?_); refine goesL_ (some 40) rfl rfl Tryd.func15 (by kernel_rfl) rfl #[.slice A321_0 (rd_L1 l0 x7_1).length c321_0] rfl (by (try simp only [List.map_toArray, List.map_cons, List.map_nil]); first | done | rfl | (simp only [List.length_drop, List.length_take]; rfl)) ?_; (with_reducible refine (crc_Wrap.calls _ _ (rd_L1 l0 x7_1) t323 t324 _ ?side1 ?side2 ?side3 A11.out).mono ?_); (case side1 => repeat (first | exact (Kd.C_below HR322_0.out HB.out) | (with_reducible refine Kd.C_alloc ?_ _) | (with_reducible refine Kd.C_drewN ?_ _) | (with_reducible refine Kd.C_drew ?_))); (case side2 => exact HC322_0.out); (case side3 => exact GT.below HG.out (by repeat (first | (with_reducible first | exact HB.out | apply below_alloc | apply pw_below_drewN | apply below_drew1) | exact HB.out))); rintro e w19 ⟨v325, rfl, ho0, hb⟩; refine ⟨_, rfl, ?_⟩; have n0_ := Aside0.mk (Kd.R_elder' (by (with_reducible repeat (first | apply Kd.R_alloc | apply Kd.R_drewN | apply Kd.R_drew)); exact HO_5.out) (Kd.R_base ho0) hb); have n1_ := Aside0.mk (Kd.R_below (by (with_reducible repeat (first | apply Kd.R_alloc | apply Kd.R_drewN | apply Kd.R_drew)); exact HO_6.out) hb); have n2_ := Aside0.mk (Kd.R_lower (Kd.R_new' ho0 (Kd.R_lt (by (with_reducible repeat (first | apply Kd.R_alloc | apply Kd.R_drewN | apply Kd.R_drew)); exact HO_5.out))) (below_size (by repeat (first | (with_reducible first | exact HB.out | apply below_alloc | apply pw_below_drewN | apply below_drew1) | exact HB.out)))); have n3_ := Aside0.mk (below_step (by repeat (first | (with_reducible first | exact HB.out | apply below_alloc | apply pw_below_drewN | apply below_drew1) | exact HB.out)) hb); clear HO_5; clear HO_6; clear HB; have HO_5 := n0_; have HO_6 := n1_; have HO326 := n2_; have HB := n3_; clear n0_ n1_ n2_ n3_; (try clear hb); (try clear hb2); (try clear hk); (try clear hi); (try clear ho0); obtain ⟨Ao20, co20, eo20⟩ := Kd.R_slice HO326.out; subst eo20) | ((with_reducible refine gate_callee (f := 20) rfl ?_); refine goesL_ (some 45) rfl rfl Tryd.func20 (by kernel_rfl) rfl #[.slice Ao20 t323.length co20] rfl (by (try simp only [List.map_toArray, List.map_cons, List.map_nil]); first | done | rfl | (simp only [List.length_drop, List.length_take]; rfl)) ?_; (with_reducible refine (crc_Unwrap.calls _ _ t323 t327 t328 _ ?side1 ?side2 ?side3 A12.out).mono ?_); (case side1 => repeat (first | exact (Kd.R_reads' HO326.out).2.2 | (with_reducible refine Kd.C_alloc ?_ _) | (with_reducible refine Kd.C_drewN ?_ _) | (with_reducible refine Kd.C_drew ?_))); (case side2 => exact (Kd.R_reads' HO326.out).2.1); (case side3 => exact GT.below HG.out (by repeat (first | (with_reducible first | exact HB.out | apply below_alloc | apply pw_below_drewN | apply below_drew1) | exact HB.out))); rintro e w21 ⟨v329, rfl, ho0, hb⟩; refine ⟨_, rfl, ?_⟩; have n0_ := Aside0.mk (Kd.R_elder' (by (with_reducible repeat (first | apply Kd.R_alloc | apply Kd.R_drewN | apply Kd.R_drew)); exact HO_5.out) (Kd.R_base ho0) hb); have n1_ := Aside0.mk (Kd.R_below (by (with_reducible repeat (first | apply Kd.R_alloc | apply Kd.R_drewN | apply Kd.R_drew)); exact HO_6.out) hb); have n2_ := Aside0.mk (Kd.R_elder' (by (with_reducible repeat (first | apply Kd.R_alloc | apply Kd.R_drewN | apply Kd.R_drew)); exact HO326.out) (Kd.R_base ho0) hb); have n3_ := Aside0.mk (Kd.R_lower (Kd.R_new' (Kd.R_new' ho0 (Kd.R_lt (by (with_reducible repeat (first | apply Kd.R_alloc | apply Kd.R_drewN | apply Kd.R_drew)); exact HO_5.out))) (Kd.R_lt (by (with_reducible repeat (first | apply Kd.R_alloc | apply Kd.R_drewN | apply Kd.R_drew)); exact HO326.out))) (below_size (by repeat (first | (with_reducible first | exact HB.out | apply below_alloc | apply pw_below_drewN | apply below_drew1) | exact HB.out)))); have n4_ := Aside0.mk (below_step (by repeat (first | (with_reducible first | exact HB.out | apply below_alloc | apply pw_below_drewN | apply below_drew1) | exact HB.out)) hb); clear HO_5; clear HO_6; clear HO326; clear HB; have HO_5 := n0_; have HO_6 := n1_; have HO326 := n2_; have HO330 := n3_; have HB := n4_; clear n0_ n1_ n2_ n3_ n4_; (try clear hb); (try clear hb2); (try clear hk); (try clear hi); (try clear ho0); have p331 : 0 ≤ (x7_1 : Int) := of_decide_eq_true (by first | (with_reducible assumption) | assumption); have q331 : x7_1 < (l0.length : Int) := of_decide_eq_true (by first | (with_reducible assumption) | assumption); obtain ⟨ad331, A331_0, c331_0, e331, hx331_0, hl331_0, hi331_0⟩ := at_L1 HR0.out x7_1 p331 q331; obtain rfl : ad321 = ad331 := (by injection e331); replace hx331_0 := (HB.out.cell (World.block_lt_of_cell? w _ hx331_0)).trans hx331_0; have HR331_0 := Aside0.mk hi331_0; have HC331_0 := Aside0.mk hl331_0; clear hi331_0 hl331_0; replace p331 := eq_true p331; replace q331 := eq_true q331; obtain ⟨Ao22, co22, eo22⟩ := Kd.R_slice HO330.out; subst eo22) | (go_at_call 17; (with_reducible refine (dragnetref01_Same.calls _ _ t327 _ _ (rd_L1 l0 x7_1) true _ ?side1 ?side2 ?side3 ?side4 A15.out).mono ?_); (case side1 => repeat (first | exact (Kd.R_reads' HO330.out).2.2 | (with_reducible refine Kd.C_alloc ?_ _) | (with_reducible refine Kd.C_drewN ?_ _) | (with_reducible refine Kd.C_drew ?_))); (case side2 => exact (Kd.R_reads' HO330.out).2.1); (case side3 => repeat (first | exact (Kd.C_below HR331_0.out HB.out) | (with_reducible refine Kd.C_alloc ?_ _) | (with_reducible refine Kd.C_drewN ?_ _) | (with_reducible refine Kd.C_drew ?_))); (case side4 => exact HC331_0.out); rintro e w' ⟨rfl, ⟨nd, rfl⟩⟩) | ((with_reducible refine gate_builtin (b := .append) (xs := #[.tmp 63, .tmp 64]) rfl ?_); at_builtin; refine Kd.R_append_rows (Kd.int .u8) (w0 := w) w.heap.size rfl (.tmp 63) (.tmp 64) 22 5 (.int .u8 0) 1 rfl Tryd.underlying22 info5 rfl (by decide) (by omega) u5 x5_1 t323 _ _ _ (fun k_ => some k_ ≠ (.slice Ao20 t323.length co20 : Value).ownBlock ∧ some k_ ≠ (.slice Ao22 t327.length co22 : Value).ownBlock) (fun _ => False) rfl rfl ?aO ?aR (fun _ _ h => h) (fun _ h => h.elim) ?aF ?aB ?aS ?aL ?_; (case aR => repeat (first | exact (Kd.R_reads' HO326.out).2.2 | (with_reducible refine Kd.C_alloc ?_ _) | (with_reducible refine Kd.C_drewN ?_ _) | (with_reducible refine Kd.C_drew ?_))); (case aB => exact (by repeat (first | (with_reducible first | exact HB.out | apply below_alloc | apply pw_below_drewN | apply below_drew1) | exact HB.out))); (case aF => exact (fun k_ hk => ⟨Kd.fresh' (Kd.R_lt (by (with_reducible repeat (first | apply Kd.R_alloc | apply Kd.R_drewN | apply Kd.R_drew)); exact HO326.out)) k_ hk, Kd.fresh' (Kd.R_lt (by (with_reducible repeat (first | apply Kd.R_alloc | apply Kd.R_drewN | apply Kd.R_drew)); exact HO330.out)) k_ hk⟩)); (case aO => exact (by (with_reducible repeat (first | apply Kd.R_alloc | apply Kd.R_drewN | apply Kd.R_drew)); exact Kd.R_mono HO_5.out (fun _ hk => ⟨hk.1.2, hk.2⟩))); (case aS => exact (below_size (by repeat (first | (with_reducible first | exact HB.out | apply below_alloc | apply pw_below_drewN | apply below_drew1) | exact HB.out)))); (case aL => have := LMc17.out; omega); intro v334 w23 ho hb hg hat; rw [← Ny333.out] at ho; have n0_ := Aside0.mk (Kd.R_over' (by (with_reducible repeat (first | apply Kd.R_alloc | apply Kd.R_drewN | apply Kd.R_drew)); exact HO_6.out) (Kd.R_typed (by (with_reducible repeat (first | apply Kd.R_alloc | apply Kd.R_drewN | apply Kd.R_drew)); exact HO_5.out)) (by decide) hg); have n1_ := Aside0.mk (Kd.R_after (ok := (fun k_ => some k_ ≠ (.slice Ao22 t327.length co22 : Value).ownBlock)) (by (with_reducible repeat (first | apply Kd.R_alloc | apply Kd.R_drewN | apply Kd.R_drew)); exact Kd.R_mono HO326.out (fun _ hk => ⟨hk.2, hk.1.2⟩)) hg hat); have n2_ := Aside0.mk (Kd.R_after (ok := (fun k_ => some k_ ≠ (.slice Ao20 t323.length co20 : Value).ownBlock)) (by (with_reducible repeat (first | apply Kd.R_alloc | apply Kd.R_drewN | apply Kd.R_drew)); exact Kd.R_mono HO330.out (fun _ hk => ⟨hk.2, hk.1.2⟩)) hg hat); have n3_ := Aside0.mk (hb); have n4_ := Aside0.mk (ho); clear HO_6; clear HO326; clear HO330; clear HB; clear HO_5; have HO_6 := n0_; have HO326 := n1_; have HO330 := n2_; have HB := n3_; have HO335 := n4_; clear n0_ n1_ n2_ n3_ n4_; clear ho hb hg hat; obtain ⟨Ao24, co24, eo24⟩ := Kd.R_slice HO335.out; subst eo24) | ((with_reducible refine gate_builtin (b := .append) (xs := #[.tmp 66, .tmp 69]) rfl ?_); at_builtin; refine Kd.R_append (Kd.int .i64) (w0 := w) w.heap.size rfl (.tmp 66) (.tmp 69) 42 3 (.int .i64 0) 8 rfl Tryd.underlying42 info3 rfl (by decide) (by omega) u6 x6_1 (y333.length : Int) [.int .i64 (y333.length : Int)] (fun _ => True) (fun _ => False) rfl rfl ?aP (fun _ hk => hk.elim) ?aF ?aO ?aB ?aS ?aL ?_; (case aP => exact rfl); (case aB => exact (by repeat (first | (with_reducible first | exact HB.out | apply below_alloc | apply pw_below_drewN | apply below_drew1) | exact HB.out))); (case aF => exact (fun _ _ => trivial)); (case aO => exact (by (with_reducible repeat (first | apply Kd.R_alloc | apply Kd.R_drewN | apply Kd.R_drew)); exact HO_6.out)); (case aS => exact (below_size (by repeat (first | (with_reducible first | exact HB.out | apply below_alloc | apply pw_below_drewN | apply below_drew1) | exact HB.out)))); (case aL => have := LMc18.out; omega); intro v337 w25 ho hb hg hat; rw [← Ny336.out] at ho; have n0_ := Aside0.mk (Kd.R_over' (by (with_reducible repeat (first | apply Kd.R_alloc | apply Kd.R_drewN | apply Kd.R_drew)); exact HO326.out) (Kd.R_typed (by (with_reducible repeat (first | apply Kd.R_alloc | apply Kd.R_drewN | apply Kd.R_drew)); exact HO_6.out)) (by decide) hg); have n1_ := Aside0.mk (Kd.R_over' (by (with_reducible repeat (first | apply Kd.R_alloc | apply Kd.R_drewN | apply Kd.R_drew)); exact HO330.out) (Kd.R_typed (by (with_reducible repeat (first | apply Kd.R_alloc | apply Kd.R_drewN | apply Kd.R_drew)); exact HO_6.out)) (by decide) hg); have n2_ := Aside0.mk (Kd.R_over' (by (with_reducible repeat (first | apply Kd.R_alloc | apply Kd.R_drewN | apply Kd.R_drew)); exact HO335.out) (Kd.R_typed (by (with_reducible repeat (first | apply Kd.R_alloc | apply Kd.R_drewN | apply Kd.R_drew)); exact HO_6.out)) (by decide) hg); have n3_ := Aside0.mk (hb); have n4_ := Aside0.mk (ho); clear HO326; clear HO330; clear HO335; clear HB; clear HO_6; have HO326 := n0_; have HO330 := n1_; have HO335 := n2_; have HB := n3_; have HO338 := n4_; clear n0_ n1_ n2_ n3_ n4_; clear ho hb hg hat))
                          go_roundg k1
                          case measure => have := HK1.out; omega
                          case rel => exact ⟨(y333), (y336), (wrap64 (x7_1 + 1)), (by first | rfl | (simp; done) | (simp [*]; done)), H', ⟨by have := HK1.out; omega⟩, ⟨by (with_reducible repeat (first | apply Kd.R_alloc | apply Kd.R_drewN | apply Kd.R_drew)); exact Kd.R_mono HO335.out (fun _ hk => trivial)⟩, ⟨by (with_reducible repeat (first | apply Kd.R_alloc | apply Kd.R_drewN | apply Kd.R_drew)); exact HO338.out⟩, ⟨by repeat (first | (with_reducible first | exact HB.out | apply below_alloc | apply pw_below_drewN | apply below_drew1) | exact HB.out)⟩⟩
                        · rw [if_neg c18] at H
                          exact absurd H (by simp)
                      · rw [if_neg c17] at H
                        exact absurd H (by simp)
                    · replace c16 := Bool.eq_false_iff.mpr c16
                      subst c16
                      have H1 : (some false) = some r := by rw [if_neg (show ¬ (false = true) by decide)] at H; exact H
                      clear H
                      have H := H1
                      clear H1
                      obtain rfl := Option.some.inj H
                      have p321 : 0 ≤ (x7_1 : Int) := of_decide_eq_true (by first | (with_reducible assumption) | assumption)
                      have q321 : x7_1 < (l0.length : Int) := of_decide_eq_true (by first | (with_reducible assumption) | assumption)
                      obtain ⟨ad321, A321_0, c321_0, e321, hx321_0, hl321_0, hi321_0⟩ := at_L1 HR0.out x7_1 p321 q321
                      cases e321
                      replace hx321_0 := (HB.out.cell (World.block_lt_of_cell? w _ hx321_0)).trans hx321_0
                      have HR321_0 := Aside0.mk hi321_0
                      have HC321_0 := Aside0.mk hl321_0
                      clear hi321_0 hl321_0
                      replace p321 := eq_true p321
                      replace q321 := eq_true q321
                      have p322 : 0 ≤ (x7_1 : Int) := of_decide_eq_true (by first | (with_reducible assumption) | assumption)
                      have q322 : x7_1 < (l0.length : Int) := of_decide_eq_true (by first | (with_reducible assumption) | assumption)
                      obtain ⟨ad322, A322_0, c322_0, e322, hx322_0, hl322_0, hi322_0⟩ := at_L1 HR0.out x7_1 p322 q322
                      obtain rfl : ad321 = ad322 := (by injection e322)
                      replace hx322_0 := (HB.out.cell (World.block_lt_of_cell? w _ hx322_0)).trans hx322_0
                      have HR322_0 := Aside0.mk hi322_0
                      have HC322_0 := Aside0.mk hl322_0
                      clear hi322_0 hl322_0
                      replace p322 := eq_true p322
                      replace q322 := eq_true q322
                      have ea_ := Option.some.inj (hx321_0.symm.trans hx322_0)
                      injection ea_ with ea_ en_ ec_
                      subst ea_
                      subst ec_
                      clear en_
                      go_wp2_with (first | ((with_reducible refine gate_callee (f := 15) rfl ?_); refine goesL_ (some 40) rfl rfl Tryd.func15 (by kernel_rfl) rfl #[.slice A321_0 (rd_L1 l0 x7_1).length c321_0] rfl (by (try simp only [List.map_toArray, List.map_cons, List.map_nil]); first | done | rfl | (simp only [List.length_drop, List.length_take]; rfl)) ?_; (with_reducible refine (crc_Wrap.calls _ _ (rd_L1 l0 x7_1) t323 t324 _ ?side1 ?side2 ?side3 A11.out).mono ?_); (case side1 => repeat (first | exact (Kd.C_below HR322_0.out HB.out) | (with_reducible refine Kd.C_alloc ?_ _) | (with_reducible refine Kd.C_drewN ?_ _) | (with_reducible refine Kd.C_drew ?_))); (case side2 => exact HC322_0.out); (case side3 => exact GT.below HG.out (by repeat (first | (with_reducible first | exact HB.out | apply below_alloc | apply pw_below_drewN | apply below_drew1) | exact HB.out))); rintro e w26 ⟨v325, rfl, ho0, hb⟩; refine ⟨_, rfl, ?_⟩; have n0_ := Aside0.mk (Kd.R_elder' (by (with_reducible repeat (first | apply Kd.R_alloc | apply Kd.R_drewN | apply Kd.R_drew)); exact HO_5.out) (Kd.R_base ho0) hb); have n1_ := Aside0.mk (Kd.R_below (by (with_reducible repeat (first | apply Kd.R_alloc | apply Kd.R_drewN | apply Kd.R_drew)); exact HO_6.out) hb); have n2_ := Aside0.mk (Kd.R_lower (Kd.R_new' ho0 (Kd.R_lt (by (with_reducible repeat (first | apply Kd.R_alloc | apply Kd.R_drewN | apply Kd.R_drew)); exact HO_5.out))) (below_size (by repeat (first | (with_reducible first | exact HB.out | apply below_alloc | apply pw_below_drewN | apply below_drew1) | exact HB.out)))); have n3_ := Aside0.mk (below_step (by repeat (first | (with_reducible first | exact HB.out | apply below_alloc | apply pw_below_drewN | apply below_drew1) | exact HB.out)) hb); clear HO_5; clear HO_6; clear HB; have HO_5 := n0_; have HO_6 := n1_; have HO326 := n2_; have HB := n3_; clear n0_ n1_ n2_ n3_; (try clear hb); (try clear hb2); (try clear hk); (try clear hi); (try clear ho0); obtain ⟨Ao27, co27, eo27⟩ := Kd.R_slice HO326.out; subst eo27) | ((with_reducible refine gate_callee (f := 20) rfl ?_); refine goesL_ (some 45) rfl rfl Tryd.func20 (by kernel_rfl) rfl #[.slice Ao27 t323.length co27] rfl (by (try simp only [List.map_toArray, List.map_cons, List.map_nil]); first | done | rfl | (simp only [List.length_drop, List.length_take]; rfl)) ?_; (with_reducible refine (crc_Unwrap.calls _ _ t323 t327 t328 _ ?side1 ?side2 ?side3 A12.out).mono ?_); (case side1 => repeat (first | exact (Kd.R_reads' HO326.out).2.2 | (with_reducible refine Kd.C_alloc ?_ _) | (with_reducible refine Kd.C_drewN ?_ _) | (with_reducible refine Kd.C_drew ?_))); (case side2 => exact (Kd.R_reads' HO326.out).2.1); (case side3 => exact GT.below HG.out (by repeat (first | (with_reducible first | exact HB.out | apply below_alloc | apply pw_below_drewN | apply below_drew1) | exact HB.out))); rintro e w28 ⟨v329, rfl, ho0, hb⟩; refine ⟨_, rfl, ?_⟩; have n0_ := Aside0.mk (Kd.R_elder' (by (with_reducible repeat (first | apply Kd.R_alloc | apply Kd.R_drewN | apply Kd.R_drew)); exact HO_5.out) (Kd.R_base ho0) hb); have n1_ := Aside0.mk (Kd.R_below (by (with_reducible repeat (first | apply Kd.R_alloc | apply Kd.R_drewN | apply Kd.R_drew)); exact HO_6.out) hb); have n2_ := Aside0.mk (Kd.R_elder' (by (with_reducible repeat (first | apply Kd.R_alloc | apply Kd.R_drewN | apply Kd.R_drew)); exact HO326.out) (Kd.R_base ho0) hb); have n3_ := Aside0.mk (Kd.R_lower (Kd.R_new' (Kd.R_new' ho0 (Kd.R_lt (by (with_reducible repeat (first | apply Kd.R_alloc | apply Kd.R_drewN | apply Kd.R_drew)); exact HO_5.out))) (Kd.R_lt (by (with_reducible repeat (first | apply Kd.R_alloc | apply Kd.R_drewN | apply Kd.R_drew)); exact HO326.out))) (below_size (by repeat (first | (with_reducible first | exact HB.out | apply below_alloc | apply pw_below_drewN | apply below_drew1) | exact HB.out)))); have n4_ := Aside0.mk (below_step (by repeat (first | (with_reducible first | exact HB.out | apply below_alloc | apply pw_below_drewN | apply below_drew1) | exact HB.out)) hb); clear HO_5; clear HO_6; clear HO326; clear HB; have HO_5 := n0_; have HO_6 := n1_; have HO326 := n2_; have HO330 := n3_; have HB := n4_; clear n0_ n1_ n2_ n3_ n4_; (try clear hb); (try clear hb2); (try clear hk); (try clear hi); (try clear ho0); have p331 : 0 ≤ (x7_1 : Int) := of_decide_eq_true (by first | (with_reducible assumption) | assumption); have q331 : x7_1 < (l0.length : Int) := of_decide_eq_true (by first | (with_reducible assumption) | assumption); obtain ⟨ad331, A331_0, c331_0, e331, hx331_0, hl331_0, hi331_0⟩ := at_L1 HR0.out x7_1 p331 q331; obtain rfl : ad321 = ad331 := (by injection e331); replace hx331_0 := (HB.out.cell (World.block_lt_of_cell? w _ hx331_0)).trans hx331_0; have HR331_0 := Aside0.mk hi331_0; have HC331_0 := Aside0.mk hl331_0; clear hi331_0 hl331_0; replace p331 := eq_true p331; replace q331 := eq_true q331; obtain ⟨Ao29, co29, eo29⟩ := Kd.R_slice HO330.out; subst eo29) | (go_at_call 17; (with_reducible refine (dragnetref01_Same.calls _ _ t327 _ _ (rd_L1 l0 x7_1) false _ ?side1 ?side2 ?side3 ?side4 A15.out).mono ?_); (case side1 => repeat (first | exact (Kd.R_reads' HO330.out).2.2 | (with_reducible refine Kd.C_alloc ?_ _) | (with_reducible refine Kd.C_drewN ?_ _) | (with_reducible refine Kd.C_drew ?_))); (case side2 => exact (Kd.R_reads' HO330.out).2.1); (case side3 => repeat (first | exact (Kd.C_below HR331_0.out HB.out) | (with_reducible refine Kd.C_alloc ?_ _) | (with_reducible refine Kd.C_drewN ?_ _) | (with_reducible refine Kd.C_drew ?_))); (case side4 => exact HC331_0.out); rintro e w' ⟨rfl, ⟨nd, rfl⟩⟩))
                      go_ret
                      exact ⟨by first | rfl | (simp [errW_none, errW_some] <;> rfl) | (simp [*, errW_none, errW_some] <;> rfl), by repeat (first | (with_reducible first | exact HB.out | apply below_alloc | apply pw_below_drewN | apply below_drew1) | exact HB.out)⟩
                  · rw [if_neg c14] at H
                    have c14b0 : (t328 == 0) = false := beq_eq_false_iff_ne.mpr c14
                    have c14b1 : (t328 != 0) = true := bne_iff_ne.mpr c14
                    obtain rfl := Option.some.inj H
                    have p321 : 0 ≤ (x7_1 : Int) := of_decide_eq_true (by first | (with_reducible assumption) | assumption)
                    have q321 : x7_1 < (l0.length : Int) := of_decide_eq_true (by first | (with_reducible assumption) | assumption)
                    obtain ⟨ad321, A321_0, c321_0, e321, hx321_0, hl321_0, hi321_0⟩ := at_L1 HR0.out x7_1 p321 q321
                    cases e321
                    replace hx321_0 := (HB.out.cell (World.block_lt_of_cell? w _ hx321_0)).trans hx321_0
                    have HR321_0 := Aside0.mk hi321_0
                    have HC321_0 := Aside0.mk hl321_0
                    clear hi321_0 hl321_0
                    replace p321 := eq_true p321
                    replace q321 := eq_true q321
                    have p322 : 0 ≤ (x7_1 : Int) := of_decide_eq_true (by first | (with_reducible assumption) | assumption)
                    have q322 : x7_1 < (l0.length : Int) := of_decide_eq_true (by first | (with_reducible assumption) | assumption)
                    obtain ⟨ad322, A322_0, c322_0, e322, hx322_0, hl322_0, hi322_0⟩ := at_L1 HR0.out x7_1 p322 q322
                    obtain rfl : ad321 = ad322 := (by injection e322)
                    replace hx322_0 := (HB.out.cell (World.block_lt_of_cell? w _ hx322_0)).trans hx322_0
                    have HR322_0 := Aside0.mk hi322_0
                    have HC322_0 := Aside0.mk hl322_0
                    clear hi322_0 hl322_0
                    replace p322 := eq_true p322
                    replace q322 := eq_true q322
                    have ea_ := Option.some.inj (hx321_0.symm.trans hx322_0)
                    injection ea_ with ea_ en_ ec_
                    subst ea_
                    subst ec_
                    clear en_
                    go_wp2_with (first | ((with_reducible refine gate_callee (f := 15) rfl ?_); refine goesL_ (some 40) rfl rfl Tryd.func15 (by kernel_rfl) rfl #[.slice A321_0 (rd_L1 l0 x7_1).length c321_0] rfl (by (try simp only [List.map_toArray, List.map_cons, List.map_nil]); first | done | rfl | (simp only [List.length_drop, List.length_take]; rfl)) ?_; (with_reducible refine (crc_Wrap.calls _ _ (rd_L1 l0 x7_1) t323 t324 _ ?side1 ?side2 ?side3 A11.out).mono ?_); (case side1 => repeat (first | exact (Kd.C_below HR322_0.out HB.out) | (with_reducible refine Kd.C_alloc ?_ _) | (with_reducible refine Kd.C_drewN ?_ _) | (with_reducible refine Kd.C_drew ?_))); (case side2 => exact HC322_0.out); (case side3 => exact GT.below HG.out (by repeat (first | (with_reducible first | exact HB.out | apply below_alloc | apply pw_below_drewN | apply below_drew1) | exact HB.out))); rintro e w30 ⟨v325, rfl, ho0, hb⟩; refine ⟨_, rfl, ?_⟩; have n0_ := Aside0.mk (Kd.R_elder' (by (with_reducible repeat (first | apply Kd.R_alloc | apply Kd.R_drewN | apply Kd.R_drew)); exact HO_5.out) (Kd.R_base ho0) hb); have n1_ := Aside0.mk (Kd.R_below (by (with_reducible repeat (first | apply Kd.R_alloc | apply Kd.R_drewN | apply Kd.R_drew)); exact HO_6.out) hb); have n2_ := Aside0.mk (Kd.R_lower (Kd.R_new' ho0 (Kd.R_lt (by (with_reducible repeat (first | apply Kd.R_alloc | apply Kd.R_drewN | apply Kd.R_drew)); exact HO_5.out))) (below_size (by repeat (first | (with_reducible first | exact HB.out | apply below_alloc | apply pw_below_drewN | apply below_drew1) | exact HB.out)))); have n3_ := Aside0.mk (below_step (by repeat (first | (with_reducible first | exact HB.out | apply below_alloc | apply pw_below_drewN | apply below_drew1) | exact HB.out)) hb); clear HO_5; clear HO_6; clear HB; have HO_5 := n0_; have HO_6 := n1_; have HO326 := n2_; have HB := n3_; clear n0_ n1_ n2_ n3_; (try clear hb); (try clear hb2); (try clear hk); (try clear hi); (try clear ho0); obtain ⟨Ao31, co31, eo31⟩ := Kd.R_slice HO326.out; subst eo31) | ((with_reducible refine gate_callee (f := 20) rfl ?_); refine goesL_ (some 45) rfl rfl Tryd.func20 (by kernel_rfl) rfl #[.slice Ao31 t323.length co31] rfl (by (try simp only [List.map_toArray, List.map_cons, List.map_nil]); first | done | rfl | (simp only [List.length_drop, List.length_take]; rfl)) ?_; (with_reducible refine (crc_Unwrap.calls _ _ t323 t327 t328 _ ?side1 ?side2 ?side3 A12.out).mono ?_); (case side1 => repeat (first | exact (Kd.R_reads' HO326.out).2.2 | (with_reducible refine Kd.C_alloc ?_ _) | (with_reducible refine Kd.C_drewN ?_ _) | (with_reducible refine Kd.C_drew ?_))); (case side2 => exact (Kd.R_reads' HO326.out).2.1); (case side3 => exact GT.below HG.out (by repeat (first | (with_reducible first | exact HB.out | apply below_alloc | apply pw_below_drewN | apply below_drew1) | exact HB.out))); rintro e w32 ⟨v329, rfl, ho0, hb⟩; refine ⟨_, rfl, ?_⟩; have n0_ := Aside0.mk (Kd.R_elder' (by (with_reducible repeat (first | apply Kd.R_alloc | apply Kd.R_drewN | apply Kd.R_drew)); exact HO_5.out) (Kd.R_base ho0) hb); have n1_ := Aside0.mk (Kd.R_below (by (with_reducible repeat (first | apply Kd.R_alloc | apply Kd.R_drewN | apply Kd.R_drew)); exact HO_6.out) hb); have n2_ := Aside0.mk (Kd.R_elder' (by (with_reducible repeat (first | apply Kd.R_alloc | apply Kd.R_drewN | apply Kd.R_drew)); exact HO326.out) (Kd.R_base ho0) hb); have n3_ := Aside0.mk (Kd.R_lower (Kd.R_new' (Kd.R_new' ho0 (Kd.R_lt (by (with_reducible repeat (first | apply Kd.R_alloc | apply Kd.R_drewN | apply Kd.R_drew)); exact HO_5.out))) (Kd.R_lt (by (with_reducible repeat (first | apply Kd.R_alloc | apply Kd.R_drewN | apply Kd.R_drew)); exact HO326.out))) (below_size (by repeat (first | (with_reducible first | exact HB.out | apply below_alloc | apply pw_below_drewN | apply below_drew1) | exact HB.out)))); have n4_ := Aside0.mk (below_step (by repeat (first | (with_reducible first | exact HB.out | apply below_alloc | apply pw_below_drewN | apply below_drew1) | exact HB.out)) hb); clear HO_5; clear HO_6; clear HO326; clear HB; have HO_5 := n0_; have HO_6 := n1_; have HO326 := n2_; have HO330 := n3_; have HB := n4_; clear n0_ n1_ n2_ n3_ n4_; (try clear hb); (try clear hb2); (try clear hk); (try clear hi); (try clear ho0)))
                    go_ret
                    exact ⟨by first | rfl | (simp [errW_none, errW_some] <;> rfl) | (simp [*, errW_none, errW_some] <;> rfl), by repeat (first | (with_reducible first | exact HB.out | apply below_alloc | apply pw_below_drewN | apply below_drew1) | exact HB.out)⟩
                · rw [if_neg c13] at H
                  have c13b0 : (t324 == 0) = false := beq_eq_false_iff_ne.mpr c13
                  have c13b1 : (t324 != 0) = true := bne_iff_ne.mpr c13
                  obtain rfl := Option.some.inj H
                  have p321 : 0 ≤ (x7_1 : Int) := of_decide_eq_true (by first | (with_reducible assumption) | assumption)
                  have q321 : x7_1 < (l0.length : Int) := of_decide_eq_true (by first | (with_reducible assumption) | assumption)
                  obtain ⟨ad321, A321_0, c321_0, e321, hx321_0, hl321_0, hi321_0⟩ := at_L1 HR0.out x7_1 p321 q321
                  cases e321
                  replace hx321_0 := (HB.out.cell (World.block_lt_of_cell? w _ hx321_0)).trans hx321_0
                  have HR321_0 := Aside0.mk hi321_0
                  have HC321_0 := Aside0.mk hl321_0
                  clear hi321_0 hl321_0
                  replace p321 := eq_true p321
                  replace q321 := eq_true q321
                  have p322 : 0 ≤ (x7_1 : Int) := of_decide_eq_true (by first | (with_reducible assumption) | assumption)
                  have q322 : x7_1 < (l0.length : Int) := of_decide_eq_true (by first | (with_reducible assumption) | assumption)
                  obtain ⟨ad322, A322_0, c322_0, e322, hx322_0, hl322_0, hi322_0⟩ := at_L1 HR0.out x7_1 p322 q322
                  obtain rfl : ad321 = ad322 := (by injection e322)
                  replace hx322_0 := (HB.out.cell (World.block_lt_of_cell? w _ hx322_0)).trans hx322_0
                  have HR322_0 := Aside0.mk hi322_0
                  have HC322_0 := Aside0.mk hl322_0
                  clear hi322_0 hl322_0
                  replace p322 := eq_true p322
                  replace q322 := eq_true q322
                  have ea_ := Option.some.inj (hx321_0.symm.trans hx322_0)
                  injection ea_ with ea_ en_ ec_
                  subst ea_
                  subst ec_
                  clear en_
                  go_wp2_with (first | ((with_reducible refine gate_callee (f := 15) rfl ?_); refine goesL_ (some 40) rfl rfl Tryd.func15 (by kernel_rfl) rfl #[.slice A321_0 (rd_L1 l0 x7_1).length c321_0] rfl (by (try simp only [List.map_toArray, List.map_cons, List.map_nil]); first | done | rfl | (simp only [List.length_drop, List.length_take]; rfl)) ?_; (with_reducible refine (crc_Wrap.calls _ _ (rd_L1 l0 x7_1) t323 t324 _ ?side1 ?side2 ?side3 A11.out).mono ?_); (case side1 => repeat (first | exact (Kd.C_below HR322_0.out HB.out) | (with_reducible refine Kd.C_alloc ?_ _) | (with_reducible refine Kd.C_drewN ?_ _) | (with_reducible refine Kd.C_drew ?_))); (case side2 => exact HC322_0.out); (case side3 => exact GT.below HG.out (by repeat (first | (with_reducible first | exact HB.out | apply below_alloc | apply pw_below_drewN | apply below_drew1) | exact HB.out))); rintro e w33 ⟨v325, rfl, ho0, hb⟩; refine ⟨_, rfl, ?_⟩; have n0_ := Aside0.mk (Kd.R_elder' (by (with_reducible repeat (first | apply Kd.R_alloc | apply Kd.R_drewN | apply Kd.R_drew)); exact HO_5.out) (Kd.R_base ho0) hb); have n1_ := Aside0.mk (Kd.R_below (by (with_reducible repeat (first | apply Kd.R_alloc | apply Kd.R_drewN | apply Kd.R_drew)); exact HO_6.out) hb); have n2_ := Aside0.mk (Kd.R_lower (Kd.R_new' ho0 (Kd.R_lt (by (with_reducible repeat (first | apply Kd.R_alloc | apply Kd.R_drewN | apply Kd.R_drew)); exact HO_5.out))) (below_size (by repeat (first | (with_reducible first | exact HB.out | apply below_alloc | apply pw_below_drewN | apply below_drew1) | exact HB.out)))); have n3_ := Aside0.mk (below_step (by repeat (first | (with_reducible first | exact HB.out | apply below_alloc | apply pw_below_drewN | apply below_drew1) | exact HB.out)) hb); clear HO_5; clear HO_6; clear HB; have HO_5 := n0_; have HO_6 := n1_; have HO326 := n2_; have HB := n3_; clear n0_ n1_ n2_ n3_; (try clear hb); (try clear hb2); (try clear hk); (try clear hi); (try clear ho0); obtain ⟨Ao34, co34, eo34⟩ := Kd.R_slice HO326.out; subst eo34) | ((with_reducible refine gate_callee (f := 20) rfl ?_); refine goesL_ (some 45) rfl rfl Tryd.func20 (by kernel_rfl) rfl #[.slice Ao34 t323.length co34] rfl (by (try simp only [List.map_toArray, List.map_cons, List.map_nil]); first | done | rfl | (simp only [List.length_drop, List.length_take]; rfl)) ?_; (with_reducible refine (crc_Unwrap.calls _ _ t323 t327 t328 _ ?side1 ?side2 ?side3 A12.out).mono ?_); (case side1 => repeat (first | exact (Kd.R_reads' HO326.out).2.2 | (with_reducible refine Kd.C_alloc ?_ _) | (with_reducible refine Kd.C_drewN ?_ _) | (with_reducible refine Kd.C_drew ?_))); (case side2 => exact (Kd.R_reads' HO326.out).2.1); (case side3 => exact GT.below HG.out (by repeat (first | (with_reducible first | exact HB.out | apply below_alloc | apply pw_below_drewN | apply below_drew1) | exact HB.out))); rintro e w35 ⟨v329, rfl, ho0, hb⟩; refine ⟨_, rfl, ?_⟩; have n0_ := Aside0.mk (Kd.R_elder' (by (with_reducible repeat (first | apply Kd.R_alloc | apply Kd.R_drewN | apply Kd.R_drew)); exact HO_5.out) (Kd.R_base ho0) hb); have n1_ := Aside0.mk (Kd.R_below (by (with_reducible repeat (first | apply Kd.R_alloc | apply Kd.R_drewN | apply Kd.R_drew)); exact HO_6.out) hb); have n2_ := Aside0.mk (Kd.R_elder' (by (with_reducible repeat (first | apply Kd.R_alloc | apply Kd.R_drewN | apply Kd.R_drew)); exact HO326.out) (Kd.R_base ho0) hb); have n3_ := Aside0.mk (Kd.R_lower (Kd.R_new' (Kd.R_new' ho0 (Kd.R_lt (by (with_reducible repeat (first | apply Kd.R_alloc | apply Kd.R_drewN | apply Kd.R_drew)); exact HO_5.out))) (Kd.R_lt (by (with_reducible repeat (first | apply Kd.R_alloc | apply Kd.R_drewN | apply Kd.R_drew)); exact HO326.out))) (below_size (by repeat (first | (with_reducible first | exact HB.out | apply below_alloc | apply pw_below_drewN | apply below_drew1) | exact HB.out)))); have n4_ := Aside0.mk (below_step (by repeat (first | (with_reducible first | exact HB.out | apply below_alloc | apply pw_below_drewN | apply below_drew1) | exact HB.out)) hb); clear HO_5; clear HO_6; clear HO326; clear HB; have HO_5 := n0_; have HO_6 := n1_; have HO326 := n2_; have HO330 := n3_; have HB := n4_; clear n0_ n1_ n2_ n3_ n4_; (try clear hb); (try clear hb2); (try clear hk); (try clear hi); (try clear ho0)))
                  go_ret
                  exact ⟨by first | rfl | (simp [errW_none, errW_some] <;> rfl) | (simp [*, errW_none, errW_some] <;> rfl), by repeat (first | (with_reducible first | exact HB.out | apply below_alloc | apply pw_below_drewN | apply below_drew1) | exact HB.out)⟩
            · rw [if_neg c9] at H
              exact absurd H (by simp)
          · rw [if_neg c8] at H
            have c8b0 : decide (x7_1 < (l0.length : Int)) = false := decide_eq_false c8
            clear c8
            replace H := Option.bind_eq_some_iff.mp H
            obtain ⟨⟨t339, t340, t341⟩, A360, H⟩ := H
            replace H : (if t340 = (x5_1.length : Int) then (if t341 = 0 then ((dragnetref01_Lists.f k1 t339 l0).bind fun t344 => (dragnetlaw01_CrcBack.j1 k1 l0 a1 x5_1 x6_1 (!t344))) else (dragnetlaw01_CrcBack.j1 k1 l0 a1 x5_1 x6_1 true)) else (dragnetlaw01_CrcBack.j1 k1 l0 a1 x5_1 x6_1 true)) = some r := H
            have A36 := Aside0.mk A360
            clear A360
            have HC37 := Aside0.mk H
            clear H
            obtain ⟨Ao38, co38, eo38⟩ := Kd.R_slice HO_5.out
            subst eo38
            go_upto_region 19 with (first | ((with_reducible refine gate_callee (f := 22) rfl ?_); refine goesL_ (some 73) rfl rfl Tryd.func22 (by kernel_rfl) rfl #[.slice Ao38 x5_1.length co38] rfl (by (try simp only [List.map_toArray, List.map_cons, List.map_nil]); first | done | rfl | (simp only [List.length_drop, List.length_take]; rfl)) ?_; (with_reducible refine (crc_Split.calls k1 _ _ x5_1 t339 t340 t341 _ ?side1 ?side2 ?side3 A36.out).mono ?_); (case side1 => repeat (first | exact (Kd.R_reads' HO_5.out).2.2 | (with_reducible refine Kd.C_alloc ?_ _) | (with_reducible refine Kd.C_drewN ?_ _) | (with_reducible refine Kd.C_drew ?_))); (case side2 => exact (Kd.R_reads' HO_5.out).2.1); (case side3 => exact GT.below HG.out (by repeat (first | (with_reducible first | exact HB.out | apply below_alloc | apply pw_below_drewN | apply below_drew1) | exact HB.out))); rintro e w39 ⟨v342, rfl, ho0, hb⟩; refine ⟨_, rfl, ?_⟩; have n0_ := Aside0.mk (Kd.R_below (by (with_reducible repeat (first | apply Kd.R_alloc | apply Kd.R_drewN | apply Kd.R_drew)); exact HO_5.out) hb); have n1_ := Aside0.mk (Kd.R_below (by (with_reducible repeat (first | apply Kd.R_alloc | apply Kd.R_drewN | apply Kd.R_drew)); exact HO_6.out) hb); have n2_ := Aside0.mk (Kd.S_lower (Kd.S_new' ho0 (Kd.R_lt (by (with_reducible repeat (first | apply Kd.R_alloc | apply Kd.R_drewN | apply Kd.R_drew)); exact HO_5.out))) (below_size (by repeat (first | (with_reducible first | exact HB.out | apply below_alloc | apply pw_below_drewN | apply below_drew1) | exact HB.out)))); have n3_ := Aside0.mk (below_step (by repeat (first | (with_reducible first | exact HB.out | apply below_alloc | apply pw_below_drewN | apply below_drew1) | exact HB.out)) hb); clear HO_5; clear HO_6; clear HB; have HO_5 := n0_; have HO_6 := n1_; have HO343 := n2_; have HB := n3_; clear n0_ n1_ n2_ n3_; (try clear hb); (try clear hb2); (try clear hk); (try clear hi); (try clear ho0)))
            (try simp only [Act.put, List.setIfInBounds_toArray, List.set_cons_zero, List.set_cons_succ])
            go_cut [90] (fun v90 wc => ∃ (kq : Nat) (x90_36 : Bool), v90 = .bool x90_36 ∧ Aside0 (dragnetlaw01_CrcBack.j1 kq l0 a1 x5_1 x6_1 x90_36 = some r) ∧ Aside0 (kq ≤ k1) ∧ Aside0 (Kd.R (Kd.int .u8) 5 wc w.heap.size (fun _ => True) (.slice Ao38 x5_1.length co38) x5_1) ∧ Aside0 (Kd.R (Kd.int .i64) 3 wc w.heap.size (fun _ => True) u6 x6_1) ∧ Aside0 (Below w.heap.size w wc))
            case first =>
              have H := HC37.out
              clear HC37
              by_cases c40 : t340 = (x5_1.length : Int)
              · rw [if_pos c40] at H
                have c40b0 : (t340 == (x5_1.length : Int)) = true := beq_iff_eq.mpr c40
                have c40b1 : (t340 != (x5_1.length : Int)) = false := bne_eq_false_iff_eq.mpr c40
                clear c40
                (first | rw [c40b0] | (simp only [i64_w, i32_w]; rw [c40b0]) | skip)
                by_cases c41 : t341 = 0
                · rw [if_pos c41] at H
                  have c41b0 : (t341 == 0) = true := beq_iff_eq.mpr c41
                  have c41b1 : (t341 != 0) = false := bne_eq_false_iff_eq.mpr c41
                  clear c41
                  replace H := Option.bind_eq_some_iff.mp H
                  obtain ⟨t344, A420, H⟩ := H
                  replace H : (dragnetlaw01_CrcBack.j1 k1 l0 a1 x5_1 x6_1 (!t344)) = some r := H
                  have A42 := Aside0.mk A420
                  clear A420
                  have H' := Aside0.mk H
                  clear H
                  obtain ⟨Ao43, co43, eo43⟩ := Kd.S_slice HO343.out
                  subst eo43
                  go_wp2_with (first | (go_at_call 24; (with_reducible refine (dragnetref01_Lists.calls k1 _ _ t339 _ _ l0 t344 _ ?side1 ?side2 ?side3 ?side4 A42.out).mono ?_); (case side1 => repeat (first | exact (Kd.S_reads' HO343.out).2.2 | (with_reducible refine Kd.C_alloc ?_ _) | (with_reducible refine Kd.C_drewN ?_ _) | (with_reducible refine Kd.C_drew ?_))); (case side2 => exact (Kd.S_reads' HO343.out).2.1); (case side3 => repeat (first | exact (Kd.C_below HR0.out HB.out) | (with_reducible refine Kd.C_alloc ?_ _) | (with_reducible refine Kd.C_drewN ?_ _) | (with_reducible refine Kd.C_drew ?_))); (case side4 => exact HC0.out); rintro e w44 ⟨rfl, hb⟩; have n0_ := Aside0.mk (Kd.R_below (by (with_reducible repeat (first | apply Kd.R_alloc | apply Kd.R_drewN | apply Kd.R_drew)); exact HO_5.out) hb); have n1_ := Aside0.mk (Kd.R_below (by (with_reducible repeat (first | apply Kd.R_alloc | apply Kd.R_drewN | apply Kd.R_drew)); exact HO_6.out) hb); have n2_ := Aside0.mk (Kd.S_below (by (with_reducible repeat (first | apply Kd.S_alloc | apply Kd.S_drewN | apply Kd.S_drew)); exact HO343.out) hb); have n3_ := Aside0.mk (below_step (by repeat (first | (with_reducible first | exact HB.out | apply below_alloc | apply pw_below_drewN | apply below_drew1) | exact HB.out)) hb); clear HO_5; clear HO_6; clear HO343; clear HB; have HO_5 := n0_; have HO_6 := n1_; have HO343 := n2_; have HB := n3_; clear n0_ n1_ n2_ n3_; (try clear hb); (try clear hb2); (try clear hk); (try clear hi)))
                  go_meet
                  case rel => exact ⟨_, (!t344), (by first | rfl | (simp; done) | (simp [*]; done)), H', ⟨by have := HK1.out; first | omega | exact Nat.le_refl _⟩, ⟨by (with_reducible repeat (first | apply Kd.R_alloc | apply Kd.R_drewN | apply Kd.R_drew)); exact HO_5.out⟩, ⟨by (with_reducible repeat (first | apply Kd.R_alloc | apply Kd.R_drewN | apply Kd.R_drew)); exact HO_6.out⟩, ⟨by repeat (first | (with_reducible first | exact HB.out | apply below_alloc | apply pw_below_drewN | apply below_drew1) | exact HB.out)⟩⟩
                · rw [if_neg c41] at H
                  have c41b0 : (t341 == 0) = false := beq_eq_false_iff_ne.mpr c41
                  have c41b1 : (t341 != 0) = true := bne_iff_ne.mpr c41
                  have H' := Aside0.mk H
                  clear H
                  go_wp2
                  go_meet
                  case rel => exact ⟨_, (true), (by first | rfl | (simp; done) | (simp [*]; done)), H', ⟨by have := HK1.out; first | omega | exact Nat.le_refl _⟩, ⟨by (with_reducible repeat (first | apply Kd.R_alloc | apply Kd.R_drewN | apply Kd.R_drew)); exact HO_5.out⟩, ⟨by (with_reducible repeat (first | apply Kd.R_alloc | apply Kd.R_drewN | apply Kd.R_drew)); exact HO_6.out⟩, ⟨by repeat (first | (with_reducible first | exact HB.out | apply below_alloc | apply pw_below_drewN | apply below_drew1) | exact HB.out)⟩⟩
              · rw [if_neg c40] at H
                have c40b0 : (t340 == (x5_1.length : Int)) = false := beq_eq_false_iff_ne.mpr c40
                have c40b1 : (t340 != (x5_1.length : Int)) = true := bne_iff_ne.mpr c40
                (first | rw [c40b0] | (simp only [i64_w, i32_w]; rw [c40b0]) | skip)
                have H' := Aside0.mk H
                clear H
                go_wp2
                go_meet
                case rel => exact ⟨_, (true), (by first | rfl | (simp; done) | (simp [*]; done)), H', ⟨by have := HK1.out; first | omega | exact Nat.le_refl _⟩, ⟨by (with_reducible repeat (first | apply Kd.R_alloc | apply Kd.R_drewN | apply Kd.R_drew)); exact HO_5.out⟩, ⟨by (with_reducible repeat (first | apply Kd.R_alloc | apply Kd.R_drewN | apply Kd.R_drew)); exact HO_6.out⟩, ⟨by repeat (first | (with_reducible first | exact HB.out | apply below_alloc | apply pw_below_drewN | apply below_drew1) | exact HB.out)⟩⟩
            case rest =>
              clear HC37
              try clear c1
              try clear c2
              try clear p2
              try clear c3
              try clear p3
              try clear q3
              try clear hx3
              try clear c4
              try clear c5
              try clear c5b0
              try clear c5b1
              try clear p6
              try clear c8
              try clear c8b0
              try clear c9
              try clear c9b0
              try clear c10
              try clear c10b0
              try clear c10b1
              try clear c13
              try clear c13b0
              try clear c13b1
              try clear c14
              try clear c14b0
              try clear c14b1
              try clear c15
              try clear c16
              try clear c17
              try clear c18
              try clear c20
              try clear c22
              try clear c32
              try clear p32
              try clear q32
              try clear hx32
              try clear c33
              try clear p33
              try clear q33
              try clear hx33
              try clear c40
              try clear c40b0
              try clear c40b1
              try clear c41
              try clear c41b0
              try clear c41b1
              try clear hx321_0
              try clear hx322_0
              try clear hx331_0
              try clear p2
              try clear p321
              try clear p322
              try clear p331
              try clear q321
              try clear q322
              try clear q331
              obtain ⟨kq, x90_36, rfl, HA, HJ36, HO_5, HO_6, HB⟩ := hcut
              cases kq with
              | zero => exact absurd HA.out (by simp [dragnetlaw01_CrcBack.j1])
              | succ kj36 =>
                have H := HA.out
                clear HA
                simp only [dragnetlaw01_CrcBack.j1] at H
                by_cases c45 : x90_36 = true
                · subst c45
                  have H1 : (some false) = some r := by rw [if_pos rfl] at H; exact H
                  clear H
                  have H := H1
                  clear H1
                  obtain rfl := Option.some.inj H
                  go_wp2
                  go_ret
                  exact ⟨by first | rfl | (simp [errW_none, errW_some] <;> rfl) | (simp [*, errW_none, errW_some] <;> rfl), by repeat (first | (with_reducible first | exact HB.out | apply below_alloc | apply pw_below_drewN | apply below_drew1) | exact HB.out)⟩
                · replace c45 := Bool.eq_false_iff.mpr c45
                  subst c45
                  have H1 : (if (wrap64 ((x5_1.length : Int) + 1)) = 0 then (none) else (dragnetlaw01_CrcBack.l1 kj36 l0 x5_1 x6_1 (Int.tmod (wrap64 (a1)) (wrap64 ((x5_1.length : Int) + 1))) 0 0)) = some r := by rw [if_neg (show ¬ (false = true) by decide)] at H; exact H
                  clear H
                  have H := H1
                  clear H1
                  by_cases c46 : (wrap64 ((x5_1.length : Int) + 1)) = 0
                  · rw [if_pos c46] at H
                    exact absurd H (by simp)
                  · rw [if_neg c46] at H
                    have c46b0 : ((wrap64 ((x5_1.length : Int) + 1)) == 0) = false := beq_eq_false_iff_ne.mpr c46
                    have c46b1 : ((wrap64 ((x5_1.length : Int) + 1)) != 0) = true := bne_iff_ne.mpr c46
                    have H' := Aside0.mk H
                    clear H
                    go_wp2
                    go_loopg [16, 17] kj36 (fun kq v16 v17 w' => ∃ (x16_3 : Int) (x17_3 : Int), v16 = .int .i64 x16_3 ∧ v17 = .int .i64 x17_3 ∧ Aside0 (dragnetlaw01_CrcBack.l1 kq l0 x5_1 x6_1 (Int.tmod (wrap64 (a1)) (wrap64 ((x5_1.length : Int) + 1))) x16_3 x17_3 = some r) ∧ Aside0 (kq ≤ kj36) ∧ Aside0 (Kd.R (Kd.int .u8) 5 w' w.heap.size (fun _ => True) (.slice Ao38 x5_1.length co38) x5_1) ∧ Aside0 (Kd.R (Kd.int .i64) 3 w' w.heap.size (fun _ => True) u6 x6_1) ∧ Aside0 (Below w.heap.size w w'))
                    case atStart => exact ⟨(0), (0), (by first | rfl | (simp; done) | (simp [*]; done)), (by first | rfl | (simp; done) | (simp [*]; done)), H', ⟨Nat.le_refl _⟩, ⟨by (with_reducible repeat (first | apply Kd.R_alloc | apply Kd.R_drewN | apply Kd.R_drew)); exact HO_5.out⟩, ⟨by (with_reducible repeat (first | apply Kd.R_alloc | apply Kd.R_drewN | apply Kd.R_drew)); exact HO_6.out⟩, ⟨by repeat (first | (with_reducible first | exact HB.out | apply below_alloc | apply pw_below_drewN | apply below_drew1) | exact HB.out)⟩⟩
                    case round =>
                      clear H'
                      try clear c1
                      try clear c2
                      try clear p2
                      try clear c3
                      try clear p3
                      try clear q3
                      try clear hx3
                      try clear c4
                      try clear c5
                      try clear c5b0
                      try clear c5b1
                      try clear p6
                      try clear c8
                      try clear c8b0
                      try clear c9
                      try clear c9b0
                      try clear c10
                      try clear c10b0
                      try clear c10b1
                      try clear c13
                      try clear c13b0
                      try clear c13b1
                      try clear c14
                      try clear c14b0
                      try clear c14b1
                      try clear c15
                      try clear c16
                      try clear c17
                      try clear c18
                      try clear c20
                      try clear c22
                      try clear c32
                      try clear p32
                      try clear q32
                      try clear hx32
                      try clear c33
                      try clear p33
                      try clear q33
                      try clear hx33
                      try clear c40
                      try clear c40b0
                      try clear c40b1
                      try clear c41
                      try clear c41b0
                      try clear c41b1
                      try clear c45
                      try clear c46
                      try clear c46b0
                      try clear c46b1
                      try clear hx321_0
                      try clear hx322_0
                      try clear hx331_0
                      try clear p2
                      try clear p3
                      try clear p32
                      try clear p321
                      try clear p322
                      try clear p33
                      try clear p331
                      try clear p6
                      try clear q3
                      try clear q32
                      try clear q321
                      try clear q322
                      try clear q33
                      try clear q331
                      obtain ⟨x16_3, x17_3, rfl, rfl, HA, HK3, HO_5, HO_6, HB⟩ := hrel
                      cases gk with
                      | zero => exact absurd HA.out (by simp [dragnetlaw01_CrcBack.l1])
                      | succ k3 =>
                        have H := HA.out
                        clear HA
                        simp only [dragnetlaw01_CrcBack.l1] at H
                        by_cases c47 : x16_3 < (x6_1.length : Int)
                        · rw [if_pos c47] at H
                          have c47b0 : decide (x16_3 < (x6_1.length : Int)) = true := decide_eq_true c47
                          clear c47
                          by_cases c48 : 0 ≤ x16_3
                          · rw [if_pos c48] at H
                            have c48b0 : decide (0 ≤ x16_3) = true := decide_eq_true c48
                            clear c48
                            by_cases c49 : (rd x6_1 x16_3) ≤ (Int.tmod (wrap64 (a1)) (wrap64 ((x5_1.length : Int) + 1)))
                            · rw [if_pos c49] at H
                              have c49b0 : decide ((rd x6_1 x16_3) ≤ (Int.tmod (wrap64 (a1)) (wrap64 ((x5_1.length : Int) + 1)))) = true := decide_eq_true c49
                              clear c49
                              have H' := Aside0.mk H
                              clear H
                              obtain ⟨Ao50, co50, eo50⟩ := Kd.R_slice HO_6.out
                              subst eo50
                              have p345 : 0 ≤ (x16_3 : Int) := of_decide_eq_true (by first | (with_reducible assumption) | assumption)
                              have q345 : x16_3 < (x6_1.length : Int) := of_decide_eq_true (by first | (with_reducible assumption) | assumption)
                              obtain ⟨ad345, e345, hx345_0⟩ := Kd.at_int (Kd.R_reads' HO_6.out).2.2 x16_3 p345 q345
                              cases e345
                              replace p345 := eq_true p345
                              replace q345 := eq_true q345
                              have p346 : 0 ≤ (x16_3 : Int) := of_decide_eq_true (by first | (with_reducible assumption) | assumption)
                              have q346 : x16_3 < (x6_1.length : Int) := of_decide_eq_true (by first | (with_reducible assumption) | assumption)
                              obtain ⟨ad346, e346, hx346_0⟩ := Kd.at_int (Kd.R_reads' HO_6.out).2.2 x16_3 p346 q346
                              obtain rfl : ad345 = ad346 := (by injection e346)
                              replace p346 := eq_true p346
                              replace q346 := eq_true q346
                              go_wp2
                              go_roundg k3
                              case measure => have := HK1.out; have := HJ36.out; have := HK3.out; omega
                              case rel => exact ⟨(wrap64 (x16_3 + 1)), (rd x6_1 x16_3), (by first | rfl | (simp; done) | (simp [*]; done)), (by first | rfl | (simp; done) | (simp [*]; done)), H', ⟨by have := HK1.out; have := HJ36.out; have := HK3.out; omega⟩, ⟨by (with_reducible repeat (first | apply Kd.R_alloc | apply Kd.R_drewN | apply Kd.R_drew)); exact HO_5.out⟩, ⟨by (with_reducible repeat (first | apply Kd.R_alloc | apply Kd.R_drewN | apply Kd.R_drew)); exact HO_6.out⟩, ⟨by repeat (first | (with_reducible first | exact HB.out | apply below_alloc | apply pw_below_drewN | apply below_drew1) | exact HB.out)⟩⟩
                            · rw [if_neg c49] at H
                              have c49b0 : decide ((rd x6_1 x16_3) ≤ (Int.tmod (wrap64 (a1)) (wrap64 ((x5_1.length : Int) + 1)))) = false := decide_eq_false c49
                              clear c49
                              obtain ⟨ji51, hji51⟩ : ∃ j_ : Int, (Int.tmod (wrap64 (a1)) (wrap64 ((x5_1.length : Int) + 1))) = j_ := ⟨_, rfl⟩
                              replace H : (if 0 ≤ (ji51) then (if (ji51) ≤ (x5_1.length : Int) then ((crc_Split.f k3 (x5_1.take ((ji51) : Int).toNat)).bind fun bt351 => (if x16_3 ≤ (l0.length : Int) then ((dragnetref01_Lists.f k3 bt351.1 (l0.take (x16_3 : Int).toNat)).bind fun t360 => (if t360 = true then (if bt351.2.1 = x17_3 then (if bt351.2.2 = 0 then (if x17_3 = (ji51) then (some true) else (some false)) else (if x17_3 = (ji51) then (some false) else (some (bt351.2.2 == 3)))) else (some false)) else (some false))) else (none))) else (none)) else (none)) = some r := by first | (rw [hji51] at H; exact H) | (simp only [hji51] at H ⊢; exact H)
                              (try rw [hji51] at c49b0)
                              by_cases c52 : 0 ≤ (ji51)
                              · rw [if_pos c52] at H
                                have c52b0 := eq_true c52
                                have c52b1 : decide (0 ≤ (ji51)) = true := decide_eq_true c52
                                clear c52
                                by_cases c53 : (ji51) ≤ (x5_1.length : Int)
                                · rw [if_pos c53] at H
                                  have c53b0 := eq_true c53
                                  have c53b1 : decide ((ji51) ≤ (x5_1.length : Int)) = true := decide_eq_true c53
                                  clear c53
                                  obtain ⟨y347, hy347⟩ : ∃ y_ : List Int, y_ = (x5_1.take ((ji51) : Int).toNat) := ⟨_, rfl⟩
                                  replace H : ((crc_Split.f k3 y347).bind fun bt351 => (if x16_3 ≤ (l0.length : Int) then ((dragnetref01_Lists.f k3 bt351.1 (l0.take (x16_3 : Int).toNat)).bind fun t360 => (if t360 = true then (if bt351.2.1 = x17_3 then (if bt351.2.2 = 0 then (if x17_3 = (ji51) then (some true) else (some false)) else (if x17_3 = (ji51) then (some false) else (some (bt351.2.2 == 3)))) else (some false)) else (some false))) else (none))) = some r := by first | (rw [hy347]; with_reducible exact H) | (have H2_ := (Option.bind_some _ _).symm.trans H; rw [hy347]; with_reducible exact H2_) | (have H2_ := (Option.bind_some _ _).symm.trans H; with_reducible exact H2_) | with_reducible exact H | (rw [hy347]; exact H) | exact H
                                  have Ny347 := Aside0.mk hy347
                                  clear hy347
                                  replace H := Option.bind_eq_some_iff.mp H
                                  obtain ⟨⟨t351, t352, t353⟩, A540, H⟩ := H
                                  replace H : (if x16_3 ≤ (l0.length : Int) then ((dragnetref01_Lists.f k3 t351 (l0.take (x16_3 : Int).toNat)).bind fun t360 => (if t360 = true then (if t352 = x17_3 then (if t353 = 0 then (if x17_3 = (ji51) then (some true) else (some false)) else (if x17_3 = (ji51) then (some false) else (some (t353 == 3)))) else (some false)) else (some false))) else (none)) = some r := H
                                  have A54 := Aside0.mk A540
                                  clear A540
                                  have c55b0 := eq_true (of_decide_eq_true (by first | (with_reducible assumption) | assumption) : 0 ≤ x16_3)
                                  by_cases c56 : x16_3 ≤ (l0.length : Int)
                                  · rw [if_pos c56] at H
                                    have c56b0 := eq_true c56
                                    have c56b1 : decide (x16_3 ≤ (l0.length : Int)) = true := decide_eq_true c56
                                    clear c56
                                    obtain ⟨y356, hy356⟩ : ∃ y_ : List (List Int), y_ = (l0.take (x16_3 : Int).toNat) := ⟨_, rfl⟩
                                    replace H : ((dragnetref01_Lists.f k3 t351 y356).bind fun t360 => (if t360 = true then (if t352 = x17_3 then (if t353 = 0 then (if x17_3 = (ji51) then (some true) else (some false)) else (if x17_3 = (ji51) then (some false) else (some (t353 == 3)))) else (some false)) else (some false))) = some r := by first | (rw [hy356]; with_reducible exact H) | (have H2_ := (Option.bind_some _ _).symm.trans H; rw [hy356]; with_reducible exact H2_) | (have H2_ := (Option.bind_some _ _).symm.trans H; with_reducible exact H2_) | with_reducible exact H | (rw [hy356]; exact H) | exact H
                                    have Ny356 := Aside0.mk hy356
                                    clear hy356
                                    replace H := Option.bind_eq_some_iff.mp H
                                    obtain ⟨t360, A570, H⟩ := H
                                    replace H : (if t360 = true then (if t352 = x17_3 then (if t353 = 0 then (if x17_3 = (ji51) then (some true) else (some false)) else (if x17_3 = (ji51) then (some false) else (some (t353 == 3)))) else (some false)) else (some false)) = some r := H
                                    have A57 := Aside0.mk A570
                                    clear A570
                                    by_cases c58 : t360 = true
                                    · subst c58
                                      have H1 : (if t352 = x17_3 then (if t353 = 0 then (if x17_3 = (ji51) then (some true) else (some false)) else (if x17_3 = (ji51) then (some false) else (some (t353 == 3)))) else (some false)) = some r := by rw [if_pos rfl] at H; exact H
                                      clear H
                                      have H := H1
                                      clear H1
                                      by_cases c59 : t352 = x17_3
                                      · rw [if_pos c59] at H
                                        have c59b0 : (t352 == x17_3) = true := beq_iff_eq.mpr c59
                                        have c59b1 : (t352 != x17_3) = false := bne_eq_false_iff_eq.mpr c59
                                        clear c59
                                        by_cases c60 : t353 = 0
                                        · rw [if_pos c60] at H
                                          have c60b0 : (t353 == 0) = true := beq_iff_eq.mpr c60
                                          have c60b1 : (t353 != 0) = false := bne_eq_false_iff_eq.mpr c60
                                          clear c60
                                          by_cases c61 : x17_3 = (ji51)
                                          · rw [if_pos c61] at H
                                            have c61b0 : (x17_3 == (ji51)) = true := beq_iff_eq.mpr c61
                                            have c61b1 : (x17_3 != (ji51)) = false := bne_eq_false_iff_eq.mpr c61
                                            clear c61
                                            obtain rfl := Option.some.inj H
                                            obtain ⟨Ao62, co62, eo62⟩ := Kd.R_slice HO_6.out
                                            subst eo62
                                            have p345 : 0 ≤ (x16_3 : Int) := of_decide_eq_true (by first | (with_reducible assumption) | assumption)
                                            have q345 : x16_3 < (x6_1.length : Int) := of_decide_eq_true (by first | (with_reducible assumption) | assumption)
                                            obtain ⟨ad345, e345, hx345_0⟩ := Kd.at_int (Kd.R_reads' HO_6.out).2.2 x16_3 p345 q345
                                            cases e345
                                            replace p345 := eq_true p345
                                            replace q345 := eq_true q345
                                            have q63 : ((ji51) : Int) ≤ ((x5_1.length : Int) : Int) := of_decide_eq_true (by first | (with_reducible assumption) | assumption)
                                            obtain ⟨i063, hi063, _, hsz63, _⟩ := info_parts info5
                                            have hroom63 : x5_1.length ≤ co38 := (Kd.R_reads' HO_5.out).2.1
                                            have hC63 : Kd.C (Kd.int .u8) _ Ao38 x5_1.length x5_1 := (Kd.R_reads' HO_5.out).2.2
                                            have hcut63 := cut_to (P := Tryd.prog) 22 5 .i64 Tryd.underlying22 hi063 Ao38 x5_1.length co38 (ji51) (of_decide_eq_true (by first | (with_reducible assumption) | assumption)) q63 hroom63
                                            have hr63 := Kd.C_take (m := ((ji51) : Int).toNat) hC63 (by omega)
                                            have hy63 : y347.length = ((ji51) : Int).toNat := (by rw [Ny347.out, List.length_take]; omega)
                                            rw [← Ny347.out] at hr63
                                            rw [← hy63] at hcut63
                                            have HR350 := Aside0.mk hr63
                                            have HC350 := Aside0.mk (show y347.length ≤ co38 from by omega)
                                            clear hr63 hC63 hroom63 hi063 hsz63
                                            have KY63 := Aside0.mk hy63
                                            clear hy63
                                            have KL63 := Aside0.mk (show ((ji51) : Int).toNat ≤ x5_1.length from by omega)
                                            replace q63 := eq_true q63
                                            go_wp2_with (first | ((with_reducible refine gate_callee (f := 22) rfl ?_); refine goesL_ (some 119) rfl rfl Tryd.func22 (by kernel_rfl) rfl #[.slice Ao38 y347.length co38] rfl (by (try simp only [List.map_toArray, List.map_cons, List.map_nil]); first | done | rfl | (simp only [List.length_drop, List.length_take]; rfl)) ?_; (with_reducible refine (crc_Split.calls k3 _ _ y347 t351 t352 t353 _ ?side1 ?side2 ?side3 A54.out).mono ?_); (case side1 => repeat (first | exact (by repeat (first | (with_reducible exact HR350.out) | (with_reducible refine Kd.C_alloc ?_ _) | (with_reducible refine Kd.C_drewN ?_ _) | (with_reducible refine Kd.C_drew ?_) | exact HR350.out)) | (with_reducible refine Kd.C_alloc ?_ _) | (with_reducible refine Kd.C_drewN ?_ _) | (with_reducible refine Kd.C_drew ?_))); (case side2 => exact HC350.out); (case side3 => exact GT.below HG.out (by repeat (first | (with_reducible first | exact HB.out | apply below_alloc | apply pw_below_drewN | apply below_drew1) | exact HB.out))); rintro e w64 ⟨v354, rfl, ho0, hb⟩; refine ⟨_, rfl, ?_⟩; have n0_ := Aside0.mk (Kd.R_below (by (with_reducible repeat (first | apply Kd.R_alloc | apply Kd.R_drewN | apply Kd.R_drew)); exact HO_5.out) hb); have n1_ := Aside0.mk (Kd.R_below (by (with_reducible repeat (first | apply Kd.R_alloc | apply Kd.R_drewN | apply Kd.R_drew)); exact HO_6.out) hb); have n2_ := Aside0.mk (Kd.S_lower (Kd.S_new' ho0 (Kd.R_lt (by (with_reducible repeat (first | apply Kd.R_alloc | apply Kd.R_drewN | apply Kd.R_drew)); exact HO_5.out))) (below_size (by repeat (first | (with_reducible first | exact HB.out | apply below_alloc | apply pw_below_drewN | apply below_drew1) | exact HB.out)))); have n3_ := Aside0.mk (Kd.C_below (by repeat (first | (with_reducible exact HR350.out) | (with_reducible refine Kd.C_alloc ?_ _) | (with_reducible refine Kd.C_drewN ?_ _) | (with_reducible refine Kd.C_drew ?_) | exact HR350.out)) hb); have n4_ := Aside0.mk (below_step (by repeat (first | (with_reducible first | exact HB.out | apply below_alloc | apply pw_below_drewN | apply below_drew1) | exact HB.out)) hb); clear HO_5; clear HO_6; clear HR350; clear HB; have HO_5 := n0_; have HO_6 := n1_; have HO355 := n2_; have HR350 := n3_; have HB := n4_; clear n0_ n1_ n2_ n3_ n4_; (try clear hb); (try clear hb2); (try clear hk); (try clear hi); (try clear ho0); have q65 : (x16_3 : Int) ≤ ((l0.length : Int) : Int) := of_decide_eq_true (by first | (with_reducible assumption) | assumption); obtain ⟨i065, hi065, _, hsz65, _⟩ := info_parts info22; have hroom65 : l0.length ≤ c0 := HC0.out; have hC65 : Kd.C (Kd.slice 5 (Kd.int .u8)) _ A0 l0.length l0 := HR0.out; have hcut65 := cut_to (P := Tryd.prog) 37 22 .i64 Tryd.underlying37 hi065 A0 l0.length c0 x16_3 (of_decide_eq_true (by first | (with_reducible assumption) | assumption)) q65 hroom65; have hr65 := Kd.C_take (m := (x16_3 : Int).toNat) hC65 (by omega); have hy65 : y356.length = (x16_3 : Int).toNat := (by rw [Ny356.out, List.length_take]; omega); rw [← Ny356.out] at hr65; rw [← hy65] at hcut65; have HR359 := Aside0.mk hr65; have HC359 := Aside0.mk (show y356.length ≤ c0 from by omega); clear hr65 hC65 hroom65 hi065 hsz65; have KY65 := Aside0.mk hy65; clear hy65; replace q65 := eq_true q65; obtain ⟨Ao66, co66, eo66⟩ := Kd.S_slice HO355.out; subst eo66) | ((with_reducible refine gate_callee (f := 24) rfl ?_); refine goesL_ (some 127) rfl rfl Tryd.func24 (by kernel_rfl) rfl #[.slice Ao66 t351.length co66, .slice A0 y356.length c0] rfl (by (try simp only [List.map_toArray, List.map_cons, List.map_nil]); first | done | rfl | (simp only [List.length_drop, List.length_take]; rfl)) ?_; (with_reducible refine (dragnetref01_Lists.calls k3 _ _ t351 _ _ y356 true _ ?side1 ?side2 ?side3 ?side4 A57.out).mono ?_); (case side1 => repeat (first | exact (Kd.S_reads' HO355.out).2.2 | (with_reducible refine Kd.C_alloc ?_ _) | (with_reducible refine Kd.C_drewN ?_ _) | (with_reducible refine Kd.C_drew ?_))); (case side2 => exact (Kd.S_reads' HO355.out).2.1); (case side3 => repeat (first | exact (Kd.C_below HR359.out HB.out) | (with_reducible refine Kd.C_alloc ?_ _) | (with_reducible refine Kd.C_drewN ?_ _) | (with_reducible refine Kd.C_drew ?_))); (case side4 => exact HC359.out); rintro e w67 ⟨rfl, hb⟩; refine ⟨_, rfl, ?_⟩; have n0_ := Aside0.mk (Kd.R_below (by (with_reducible repeat (first | apply Kd.R_alloc | apply Kd.R_drewN | apply Kd.R_drew)); exact HO_5.out) hb); have n1_ := Aside0.mk (Kd.R_below (by (with_reducible repeat (first | apply Kd.R_alloc | apply Kd.R_drewN | apply Kd.R_drew)); exact HO_6.out) hb); have n2_ := Aside0.mk (Kd.S_below (by (with_reducible repeat (first | apply Kd.S_alloc | apply Kd.S_drewN | apply Kd.S_drew)); exact HO355.out) hb); have n3_ := Aside0.mk (Kd.C_below (by repeat (first | (with_reducible exact HR350.out) | (with_reducible refine Kd.C_alloc ?_ _) | (with_reducible refine Kd.C_drewN ?_ _) | (with_reducible refine Kd.C_drew ?_) | exact HR350.out)) hb); have n4_ := Aside0.mk (below_step (by repeat (first | (with_reducible first | exact HB.out | apply below_alloc | apply pw_below_drewN | apply below_drew1) | exact HB.out)) hb); clear HO_5; clear HO_6; clear HO355; clear HR350; clear HB; have HO_5 := n0_; have HO_6 := n1_; have HO355 := n2_; have HR350 := n3_; have HB := n4_; clear n0_ n1_ n2_ n3_ n4_; (try clear hb); (try clear hb2); (try clear hk); (try clear hi)))
                                            go_ret
                                            exact ⟨by first | rfl | (simp [errW_none, errW_some] <;> rfl) | (simp only [← hji51]; first | rfl | (simp [errW_none, errW_some] <;> rfl)) | (simp [*, errW_none, errW_some] <;> rfl), by repeat (first | (with_reducible first | exact HB.out | apply below_alloc | apply pw_below_drewN | apply below_drew1) | exact HB.out)⟩
                                          · rw [if_neg c61] at H
                                            have c61b0 : (x17_3 == (ji51)) = false := beq_eq_false_iff_ne.mpr c61
                                            have c61b1 : (x17_3 != (ji51)) = true := bne_iff_ne.mpr c61
                                            obtain rfl := Option.some.inj H
                                            obtain ⟨Ao68, co68, eo68⟩ := Kd.R_slice HO_6.out
                                            subst eo68
                                            have p345 : 0 ≤ (x16_3 : Int) := of_decide_eq_true (by first | (with_reducible assumption) | assumption)
                                            have q345 : x16_3 < (x6_1.length : Int) := of_decide_eq_true (by first | (with_reducible assumption) | assumption)
                                            obtain ⟨ad345, e345, hx345_0⟩ := Kd.at_int (Kd.R_reads' HO_6.out).2.2 x16_3 p345 q345
                                            cases e345
                                            replace p345 := eq_true p345
                                            replace q345 := eq_true q345
                                            have q69 : ((ji51) : Int) ≤ ((x5_1.length : Int) : Int) := of_decide_eq_true (by first | (with_reducible assumption) | assumption)
                                            obtain ⟨i069, hi069, _, hsz69, _⟩ := info_parts info5
                                            have hroom69 : x5_1.length ≤ co38 := (Kd.R_reads' HO_5.out).2.1
                                            have hC69 : Kd.C (Kd.int .u8) _ Ao38 x5_1.length x5_1 := (Kd.R_reads' HO_5.out).2.2
                                            have hcut69 := cut_to (P := Tryd.prog) 22 5 .i64 Tryd.underlying22 hi069 Ao38 x5_1.length co38 (ji51) (of_decide_eq_true (by first | (with_reducible assumption) | assumption)) q69 hroom69
                                            have hr69 := Kd.C_take (m := ((ji51) : Int).toNat) hC69 (by omega)
                                            have hy69 : y347.length = ((ji51) : Int).toNat := (by rw [Ny347.out, List.length_take]; omega)
                                            rw [← Ny347.out] at hr69
                                            rw [← hy69] at hcut69
                                            have HR350 := Aside0.mk hr69
                                            have HC350 := Aside0.mk (show y347.length ≤ co38 from by omega)
                                            clear hr69 hC69 hroom69 hi069 hsz69
                                            have KY69 := Aside0.mk hy69
                                            clear hy69
                                            have KL69 := Aside0.mk (show ((ji51) : Int).toNat ≤ x5_1.length from by omega)
                                            replace q69 := eq_true q69
                                            go_wp2_with (first | ((with_reducible refine gate_callee (f := 22) rfl ?_); refine goesL_ (some 119) rfl rfl Tryd.func22 (by kernel_rfl) rfl #[.slice Ao38 y347.length co38] rfl (by (try simp only [List.map_toArray, List.map_cons, List.map_nil]); first | done | rfl | (simp only [List.length_drop, List.length_take]; rfl)) ?_; (with_reducible refine (crc_Split.calls k3 _ _ y347 t351 t352 t353 _ ?side1 ?side2 ?side3 A54.out).mono ?_); (case side1 => repeat (first | exact (by repeat (first | (with_reducible exact HR350.out) | (with_reducible refine Kd.C_alloc ?_ _) | (with_reducible refine Kd.C_drewN ?_ _) | (with_reducible refine Kd.C_drew ?_) | exact HR350.out)) | (with_reducible refine Kd.C_alloc ?_ _) | (with_reducible refine Kd.C_drewN ?_ _) | (with_reducible refine Kd.C_drew ?_))); (case side2 => exact HC350.out); (case side3 => exact GT.below HG.out (by repeat (first | (with_reducible first | exact HB.out | apply below_alloc | apply pw_below_drewN | apply below_drew1) | exact HB.out))); rintro e w70 ⟨v354, rfl, ho0, hb⟩; refine ⟨_, rfl, ?_⟩; have n0_ := Aside0.mk (Kd.R_below (by (with_reducible repeat (first | apply Kd.R_alloc | apply Kd.R_drewN | apply Kd.R_drew)); exact HO_5.out) hb); have n1_ := Aside0.mk (Kd.R_below (by (with_reducible repeat (first | apply Kd.R_alloc | apply Kd.R_drewN | apply Kd.R_drew)); exact HO_6.out) hb); have n2_ := Aside0.mk (Kd.S_lower (Kd.S_new' ho0 (Kd.R_lt (by (with_reducible repeat (first | apply Kd.R_alloc | apply Kd.R_drewN | apply Kd.R_drew)); exact HO_5.out))) (below_size (by repeat (first | (with_reducible first | exact HB.out | apply below_alloc | apply pw_below_drewN | apply below_drew1) | exact HB.out)))); have n3_ := Aside0.mk (Kd.C_below (by repeat (first | (with_reducible exact HR350.out) | (with_reducible refine Kd.C_alloc ?_ _) | (with_reducible refine Kd.C_drewN ?_ _) | (with_reducible refine Kd.C_drew ?_) | exact HR350.out)) hb); have n4_ := Aside0.mk (below_step (by repeat (first | (with_reducible first | exact HB.out | apply below_alloc | apply pw_below_drewN | apply below_drew1) | exact HB.out)) hb); clear HO_5; clear HO_6; clear HR350; clear HB; have HO_5 := n0_; have HO_6 := n1_; have HO355 := n2_; have HR350 := n3_; have HB := n4_; clear n0_ n1_ n2_ n3_ n4_; (try clear hb); (try clear hb2); (try clear hk); (try clear hi); (try clear ho0); have q71 : (x16_3 : Int) ≤ ((l0.length : Int) : Int) := of_decide_eq_true (by first | (with_reducible assumption) | assumption); obtain ⟨i071, hi071, _, hsz71, _⟩ := info_parts info22; have hroom71 : l0.length ≤ c0 := HC0.out; have hC71 : Kd.C (Kd.slice 5 (Kd.int .u8)) _ A0 l0.length l0 := HR0.out; have hcut71 := cut_to (P := Tryd.prog) 37 22 .i64 Tryd.underlying37 hi071 A0 l0.length c0 x16_3 (of_decide_eq_true (by first | (with_reducible assumption) | assumption)) q71 hroom71; have hr71 := Kd.C_take (m := (x16_3 : Int).toNat) hC71 (by omega); have hy71 : y356.length = (x16_3 : Int).toNat := (by rw [Ny356.out, List.length_take]; omega); rw [← Ny356.out] at hr71; rw [← hy71] at hcut71; have HR359 := Aside0.mk hr71; have HC359 := Aside0.mk (show y356.length ≤ c0 from by omega); clear hr71 hC71 hroom71 hi071 hsz71; have KY71 := Aside0.mk hy71; clear hy71; replace q71 := eq_true q71; obtain ⟨Ao72, co72, eo72⟩ := Kd.S_slice HO355.out; subst eo72) | ((with_reducible refine gate_callee (f := 24) rfl ?_); refine goesL_ (some 127) rfl rfl Tryd.func24 (by kernel_rfl) rfl #[.slice Ao72 t351.length co72, .slice A0 y356.length c0] rfl (by (try simp only [List.map_toArray, List.map_cons, List.map_nil]); first | done | rfl | (simp only [List.length_drop, List.length_take]; rfl)) ?_; (with_reducible refine (dragnetref01_Lists.calls k3 _ _ t351 _ _ y356 true _ ?side1 ?side2 ?side3 ?side4 A57.out).mono ?_); (case side1 => repeat (first | exact (Kd.S_reads' HO355.out).2.2 | (with_reducible refine Kd.C_alloc ?_ _) | (with_reducible refine Kd.C_drewN ?_ _) | (with_reducible refine Kd.C_drew ?_))); (case side2 => exact (Kd.S_reads' HO355.out).2.1); (case side3 => repeat (first | exact (Kd.C_below HR359.out HB.out) | (with_reducible refine Kd.C_alloc ?_ _) | (with_reducible refine Kd.C_drewN ?_ _) | (with_reducible refine Kd.C_drew ?_))); (case side4 => exact HC359.out); rintro e w73 ⟨rfl, hb⟩; refine ⟨_, rfl, ?_⟩; have n0_ := Aside0.mk (Kd.R_below (by (with_reducible repeat (first | apply Kd.R_alloc | apply Kd.R_drewN | apply Kd.R_drew)); exact HO_5.out) hb); have n1_ := Aside0.mk (Kd.R_below (by (with_reducible repeat (first | apply Kd.R_alloc | apply Kd.R_drewN | apply Kd.R_drew)); exact HO_6.out) hb); have n2_ := Aside0.mk (Kd.S_below (by (with_reducible repeat (first | apply Kd.S_alloc | apply Kd.S_drewN | apply Kd.S_drew)); exact HO355.out) hb); have n3_ := Aside0.mk (Kd.C_below (by repeat (first | (with_reducible exact HR350.out) | (with_reducible refine Kd.C_alloc ?_ _) | (with_reducible refine Kd.C_drewN ?_ _) | (with_reducible refine Kd.C_drew ?_) | exact HR350.out)) hb); have n4_ := Aside0.mk (below_step (by repeat (first | (with_reducible first | exact HB.out | apply below_alloc | apply pw_below_drewN | apply below_drew1) | exact HB.out)) hb); clear HO_5; clear HO_6; clear HO355; clear HR350; clear HB; have HO_5 := n0_; have HO_6 := n1_; have HO355 := n2_; have HR350 := n3_; have HB := n4_; clear n0_ n1_ n2_ n3_ n4_; (try clear hb); (try clear hb2); (try clear hk); (try clear hi)))
                                            go_ret
                                            exact ⟨by first | rfl | (simp [errW_none, errW_some] <;> rfl) | (simp only [← hji51]; first | rfl | (simp [errW_none, errW_some] <;> rfl)) | (simp [*, errW_none, errW_some] <;> rfl), by repeat (first | (with_reducible first | exact HB.out | apply below_alloc | apply pw_below_drewN | apply below_drew1) | exact HB.out)⟩
                                        · rw [if_neg c60] at H
                                          have c60b0 : (t353 == 0) = false := beq_eq_false_iff_ne.mpr c60
                                          have c60b1 : (t353 != 0) = true := bne_iff_ne.mpr c60
                                          by_cases c74 : x17_3 = (ji51)
                                          · rw [if_pos c74] at H
                                            have c74b0 : (x17_3 == (ji51)) = true := beq_iff_eq.mpr c74
                                            have c74b1 : (x17_3 != (ji51)) = false := bne_eq_false_iff_eq.mpr c74
                                            clear c74
                                            obtain rfl := Option.some.inj H
                                            obtain ⟨Ao75, co75, eo75⟩ := Kd.R_slice HO_6.out
                                            subst eo75
                                            have p345 : 0 ≤ (x16_3 : Int) := of_decide_eq_true (by first | (with_reducible assumption) | assumption)
                                            have q345 : x16_3 < (x6_1.length : Int) := of_decide_eq_true (by first | (with_reducible assumption) | assumption)
                                            obtain ⟨ad345, e345, hx345_0⟩ := Kd.at_int (Kd.R_reads' HO_6.out).2.2 x16_3 p345 q345
                                            cases e345
                                            replace p345 := eq_true p345
                                            replace q345 := eq_true q345
                                            have q76 : ((ji51) : Int) ≤ ((x5_1.length : Int) : Int) := of_decide_eq_true (by first | (with_reducible assumption) | assumption)
                                            obtain ⟨i076, hi076, _, hsz76, _⟩ := info_parts info5
                                            have hroom76 : x5_1.length ≤ co38 := (Kd.R_reads' HO_5.out).2.1
                                            have hC76 : Kd.C (Kd.int .u8) _ Ao38 x5_1.length x5_1 := (Kd.R_reads' HO_5.out).2.2
                                            have hcut76 := cut_to (P := Tryd.prog) 22 5 .i64 Tryd.underlying22 hi076 Ao38 x5_1.length co38 (ji51) (of_decide_eq_true (by first | (with_reducible assumption) | assumption)) q76 hroom76
                                            have hr76 := Kd.C_take (m := ((ji51) : Int).toNat) hC76 (by omega)
                                            have hy76 : y347.length = ((ji51) : Int).toNat := (by rw [Ny347.out, List.length_take]; omega)
                                            rw [← Ny347.out] at hr76
                                            rw [← hy76] at hcut76
                                            have HR350 := Aside0.mk hr76
                                            have HC350 := Aside0.mk (show y347.length ≤ co38 from by omega)
                                            clear hr76 hC76 hroom76 hi076 hsz76
                                            have KY76 := Aside0.mk hy76
                                            clear hy76
                                            have KL76 := Aside0.mk (show ((ji51) : Int).toNat ≤ x5_1.length from by omega)
                                            replace q76 := eq_true q76
                                            go_wp2_with (first | ((with_reducible refine gate_callee (f := 22) rfl ?_); refine goesL_ (some 119) rfl rfl Tryd.func22 (by kernel_rfl) rfl #[.slice Ao38 y347.length co38] rfl (by (try simp only [List.map_toArray, List.map_cons, List.map_nil]); first | done | rfl | (simp only [List.length_drop, List.length_take]; rfl)) ?_; (with_reducible refine (crc_Split.calls k3 _ _ y347 t351 t352 t353 _ ?side1 ?side2 ?side3 A54.out).mono ?_); (case side1 => repeat (first | exact (by repeat (first | (with_reducible exact HR350.out) | (with_reducible refine Kd.C_alloc ?_ _) | (with_reducible refine Kd.C_drewN ?_ _) | (with_reducible refine Kd.C_drew ?_) | exact HR350.out)) | (with_reducible refine Kd.C_alloc ?_ _) | (with_reducible refine Kd.C_drewN ?_ _) | (with_reducible refine Kd.C_drew ?_))); (case side2 => exact HC350.out); (case side3 => exact GT.below HG.out (by repeat (first | (with_reducible first | exact HB.out | apply below_alloc | apply pw_below_drewN | apply below_drew1) | exact HB.out))); rintro e w77 ⟨v354, rfl, ho0, hb⟩; refine ⟨_, rfl, ?_⟩; have n0_ := Aside0.mk (Kd.R_below (by (with_reducible repeat (first | apply Kd.R_alloc | apply Kd.R_drewN | apply Kd.R_drew)); exact HO_5.out) hb); have n1_ := Aside0.mk (Kd.R_below (by (with_reducible repeat (first | apply Kd.R_alloc | apply Kd.R_drewN | apply Kd.R_drew)); exact HO_6.out) hb); have n2_ := Aside0.mk (Kd.S_lower (Kd.S_new' ho0 (Kd.R_lt (by (with_reducible repeat (first | apply Kd.R_alloc | apply Kd.R_drewN | apply Kd.R_drew)); exact HO_5.out))) (below_size (by repeat (first | (with_reducible first | exact HB.out | apply below_alloc | apply pw_below_drewN | apply below_drew1) | exact HB.out)))); have n3_ := Aside0.mk (Kd.C_below (by repeat (first | (with_reducible exact HR350.out) | (with_reducible refine Kd.C_alloc ?_ _) | (with_reducible refine Kd.C_drewN ?_ _) | (with_reducible refine Kd.C_drew ?_) | exact HR350.out)) hb); have n4_ := Aside0.mk (below_step (by repeat (first | (with_reducible first | exact HB.out | apply below_alloc | apply pw_below_drewN | apply below_drew1) | exact HB.out)) hb); clear HO_5; clear HO_6; clear HR350; clear HB; have HO_5 := n0_; have HO_6 := n1_; have HO355 := n2_; have HR350 := n3_; have HB := n4_; clear n0_ n1_ n2_ n3_ n4_; (try clear hb); (try clear hb2); (try clear hk); (try clear hi); (try clear ho0); have q78 : (x16_3 : Int) ≤ ((l0.length : Int) : Int) := of_decide_eq_true (by first | (with_reducible assumption) | assumption); obtain ⟨i078, hi078, _, hsz78, _⟩ := info_parts info22; have hroom78 : l0.length ≤ c0 := HC0.out; have hC78 : Kd.C (Kd.slice 5 (Kd.int .u8)) _ A0 l0.length l0 := HR0.out; have hcut78 := cut_to (P := Tryd.prog) 37 22 .i64 Tryd.underlying37 hi078 A0 l0.length c0 x16_3 (of_decide_eq_true (by first | (with_reducible assumption) | assumption)) q78 hroom78; have hr78 := Kd.C_take (m := (x16_3 : Int).toNat) hC78 (by omega); have hy78 : y356.length = (x16_3 : Int).toNat := (by rw [Ny356.out, List.length_take]; omega); rw [← Ny356.out] at hr78; rw [← hy78] at hcut78; have HR359 := Aside0.mk hr78; have HC359 := Aside0.mk (show y356.length ≤ c0 from by omega); clear hr78 hC78 hroom78 hi078 hsz78; have KY78 := Aside0.mk hy78; clear hy78; replace q78 := eq_true q78; obtain ⟨Ao79, co79, eo79⟩ := Kd.S_slice HO355.out; subst eo79) | ((with_reducible refine gate_callee (f := 24) rfl ?_); refine goesL_ (some 127) rfl rfl Tryd.func24 (by kernel_rfl) rfl #[.slice Ao79 t351.length co79, .slice A0 y356.length c0] rfl (by (try simp only [List.map_toArray, List.map_cons, List.map_nil]); first | done | rfl | (simp only [List.length_drop, List.length_take]; rfl)) ?_; (with_reducible refine (dragnetref01_Lists.calls k3 _ _ t351 _ _ y356 true _ ?side1 ?side2 ?side3 ?side4 A57.out).mono ?_); (case side1 => repeat (first | exact (Kd.S_reads' HO355.out).2.2 | (with_reducible refine Kd.C_alloc ?_ _) | (with_reducible refine Kd.C_drewN ?_ _) | (with_reducible refine Kd.C_drew ?_))); (case side2 => exact (Kd.S_reads' HO355.out).2.1); (case side3 => repeat (first | exact (Kd.C_below HR359.out HB.out) | (with_reducible refine Kd.C_alloc ?_ _) | (with_reducible refine Kd.C_drewN ?_ _) | (with_reducible refine Kd.C_drew ?_))); (case side4 => exact HC359.out); rintro e w80 ⟨rfl, hb⟩; refine ⟨_, rfl, ?_⟩; have n0_ := Aside0.mk (Kd.R_below (by (with_reducible repeat (first | apply Kd.R_alloc | apply Kd.R_drewN | apply Kd.R_drew)); exact HO_5.out) hb); have n1_ := Aside0.mk (Kd.R_below (by (with_reducible repeat (first | apply Kd.R_alloc | apply Kd.R_drewN | apply Kd.R_drew)); exact HO_6.out) hb); have n2_ := Aside0.mk (Kd.S_below (by (with_reducible repeat (first | apply Kd.S_alloc | apply Kd.S_drewN | apply Kd.S_drew)); exact HO355.out) hb); have n3_ := Aside0.mk (Kd.C_below (by repeat (first | (with_reducible exact HR350.out) | (with_reducible refine Kd.C_alloc ?_ _) | (with_reducible refine Kd.C_drewN ?_ _) | (with_reducible refine Kd.C_drew ?_) | exact HR350.out)) hb); have n4_ := Aside0.mk (below_step (by repeat (first | (with_reducible first | exact HB.out | apply below_alloc | apply pw_below_drewN | apply below_drew1) | exact HB.out)) hb); clear HO_5; clear HO_6; clear HO355; clear HR350; clear HB; have HO_5 := n0_; have HO_6 := n1_; have HO355 := n2_; have HR350 := n3_; have HB := n4_; clear n0_ n1_ n2_ n3_ n4_; (try clear hb); (try clear hb2); (try clear hk); (try clear hi)))
                                            go_ret
                                            exact ⟨by first | rfl | (simp [errW_none, errW_some] <;> rfl) | (simp only [← hji51]; first | rfl | (simp [errW_none, errW_some] <;> rfl)) | (simp [*, errW_none, errW_some] <;> rfl), by repeat (first | (with_reducible first | exact HB.out | apply below_alloc | apply pw_below_drewN | apply below_drew1) | exact HB.out)⟩
                                          · rw [if_neg c74] at H
                                            have c74b0 : (x17_3 == (ji51)) = false := beq_eq_false_iff_ne.mpr c74
                                            have c74b1 : (x17_3 != (ji51)) = true := bne_iff_ne.mpr c74
                                            obtain rfl := Option.some.inj H
                                            obtain ⟨Ao81, co81, eo81⟩ := Kd.R_slice HO_6.out
                                            subst eo81
                                            have p345 : 0 ≤ (x16_3 : Int) := of_decide_eq_true (by first | (with_reducible assumption) | assumption)
                                            have q345 : x16_3 < (x6_1.length : Int) := of_decide_eq_true (by first | (with_reducible assumption) | assumption)
                                            obtain ⟨ad345, e345, hx345_0⟩ := Kd.at_int (Kd.R_reads' HO_6.out).2.2 x16_3 p345 q345
                                            cases e345
                                            replace p345 := eq_true p345
                                            replace q345 := eq_true q345
                                            have q82 : ((ji51) : Int) ≤ ((x5_1.length : Int) : Int) := of_decide_eq_true (by first | (with_reducible assumption) | assumption)
                                            obtain ⟨i082, hi082, _, hsz82, _⟩ := info_parts info5
                                            have hroom82 : x5_1.length ≤ co38 := (Kd.R_reads' HO_5.out).2.1
                                            have hC82 : Kd.C (Kd.int .u8) _ Ao38 x5_1.length x5_1 := (Kd.R_reads' HO_5.out).2.2
                                            have hcut82 := cut_to (P := Tryd.prog) 22 5 .i64 Tryd.underlying22 hi082 Ao38 x5_1.length co38 (ji51) (of_decide_eq_true (by first | (with_reducible assumption) | assumption)) q82 hroom82
                                            have hr82 := Kd.C_take (m := ((ji51) : Int).toNat) hC82 (by omega)
                                            have hy82 : y347.length = ((ji51) : Int).toNat := (by rw [Ny347.out, List.length_take]; omega)
                                            rw [← Ny347.out] at hr82
                                            rw [← hy82] at hcut82
                                            have HR350 := Aside0.mk hr82
                                            have HC350 := Aside0.mk (show y347.length ≤ co38 from by omega)
                                            clear hr82 hC82 hroom82 hi082 hsz82
                                            have KY82 := Aside0.mk hy82
                                            clear hy82
                                            have KL82 := Aside0.mk (show ((ji51) : Int).toNat ≤ x5_1.length from by omega)
                                            replace q82 := eq_true q82
                                            go_wp2_with (first | ((with_reducible refine gate_callee (f := 22) rfl ?_); refine goesL_ (some 119) rfl rfl Tryd.func22 (by kernel_rfl) rfl #[.slice Ao38 y347.length co38] rfl (by (try simp only [List.map_toArray, List.map_cons, List.map_nil]); first | done | rfl | (simp only [List.length_drop, List.length_take]; rfl)) ?_; (with_reducible refine (crc_Split.calls k3 _ _ y347 t351 t352 t353 _ ?side1 ?side2 ?side3 A54.out).mono ?_); (case side1 => repeat (first | exact (by repeat (first | (with_reducible exact HR350.out) | (with_reducible refine Kd.C_alloc ?_ _) | (with_reducible refine Kd.C_drewN ?_ _) | (with_reducible refine Kd.C_drew ?_) | exact HR350.out)) | (with_reducible refine Kd.C_alloc ?_ _) | (with_reducible refine Kd.C_drewN ?_ _) | (with_reducible refine Kd.C_drew ?_))); (case side2 => exact HC350.out); (case side3 => exact GT.below HG.out (by repeat (first | (with_reducible first | exact HB.out | apply below_alloc | apply pw_below_drewN | apply below_drew1) | exact HB.out))); rintro e w83 ⟨v354, rfl, ho0, hb⟩; refine ⟨_, rfl, ?_⟩; have n0_ := Aside0.mk (Kd.R_below (by (with_reducible repeat (first | apply Kd.R_alloc | apply Kd.R_drewN | apply Kd.R_drew)); exact HO_5.out) hb); have n1_ := Aside0.mk (Kd.R_below (by (with_reducible repeat (first | apply Kd.R_alloc | apply Kd.R_drewN | apply Kd.R_drew)); exact HO_6.out) hb); have n2_ := Aside0.mk (Kd.S_lower (Kd.S_new' ho0 (Kd.R_lt (by (with_reducible repeat (first | apply Kd.R_alloc | apply Kd.R_drewN | apply Kd.R_drew)); exact HO_5.out))) (below_size (by repeat (first | (with_reducible first | exact HB.out | apply below_alloc | apply pw_below_drewN | apply below_drew1) | exact HB.out)))); have n3_ := Aside0.mk (Kd.C_below (by repeat (first | (with_reducible exact HR350.out) | (with_reducible refine Kd.C_alloc ?_ _) | (with_reducible refine Kd.C_drewN ?_ _) | (with_reducible refine Kd.C_drew ?_) | exact HR350.out)) hb); have n4_ := Aside0.mk (below_step (by repeat (first | (with_reducible first | exact HB.out | apply below_alloc | apply pw_below_drewN | apply below_drew1) | exact HB.out)) hb); clear HO_5; clear HO_6; clear HR350; clear HB; have HO_5 := n0_; have HO_6 := n1_; have HO355 := n2_; have HR350 := n3_; have HB := n4_; clear n0_ n1_ n2_ n3_ n4_; (try clear hb); (try clear hb2); (try clear hk); (try clear hi); (try clear ho0); have q84 : (x16_3 : Int) ≤ ((l0.length : Int) : Int) := of_decide_eq_true (by first | (with_reducible assumption) | assumption); obtain ⟨i084, hi084, _, hsz84, _⟩ := info_parts info22; have hroom84 : l0.length ≤ c0 := HC0.out; have hC84 : Kd.C (Kd.slice 5 (Kd.int .u8)) _ A0 l0.length l0 := HR0.out; have hcut84 := cut_to (P := Tryd.prog) 37 22 .i64 Tryd.underlying37 hi084 A0 l0.length c0 x16_3 (of_decide_eq_true (by first | (with_reducible assumption) | assumption)) q84 hroom84; have hr84 := Kd.C_take (m := (x16_3 : Int).toNat) hC84 (by omega); have hy84 : y356.length = (x16_3 : Int).toNat := (by rw [Ny356.out, List.length_take]; omega); rw [← Ny356.out] at hr84; rw [← hy84] at hcut84; have HR359 := Aside0.mk hr84; have HC359 := Aside0.mk (show y356.length ≤ c0 from by omega); clear hr84 hC84 hroom84 hi084 hsz84; have KY84 := Aside0.mk hy84; clear hy84; replace q84 := eq_true q84; obtain ⟨Ao85, co85, eo85⟩ := Kd.S_slice HO355.out; subst eo85) | ((with_reducible refine gate_callee (f := 24) rfl ?_); refine goesL_ (some 127) rfl rfl Tryd.func24 (by kernel_rfl) rfl #[.slice Ao85 t351.length co85, .slice A0 y356.length c0] rfl (by (try simp only [List.map_toArray, List.map_cons, List.map_nil]); first | done | rfl | (simp only [List.length_drop, List.length_take]; rfl)) ?_; (with_reducible refine (dragnetref01_Lists.calls k3 _ _ t351 _ _ y356 true _ ?side1 ?side2 ?side3 ?side4 A57.out).mono ?_); (case side1 => repeat (first | exact (Kd.S_reads' HO355.out).2.2 | (with_reducible refine Kd.C_alloc ?_ _) | (with_reducible refine Kd.C_drewN ?_ _) | (with_reducible refine Kd.C_drew ?_))); (case side2 => exact (Kd.S_reads' HO355.out).2.1); (case side3 => repeat (first | exact (Kd.C_below HR359.out HB.out) | (with_reducible refine Kd.C_alloc ?_ _) | (with_reducible refine Kd.C_drewN ?_ _) | (with_reducible refine Kd.C_drew ?_))); (case side4 => exact HC359.out); rintro e w86 ⟨rfl, hb⟩; refine ⟨_, rfl, ?_⟩; have n0_ := Aside0.mk (Kd.R_below (by (with_reducible repeat (first | apply Kd.R_alloc | apply Kd.R_drewN | apply Kd.R_drew)); exact HO_5.out) hb); have n1_ := Aside0.mk (Kd.R_below (by (with_reducible repeat (first | apply Kd.R_alloc | apply Kd.R_drewN | apply Kd.R_drew)); exact HO_6.out) hb); have n2_ := Aside0.mk (Kd.S_below (by (with_reducible repeat (first | apply Kd.S_alloc | apply Kd.S_drewN | apply Kd.S_drew)); exact HO355.out) hb); have n3_ := Aside0.mk (Kd.C_below (by repeat (first | (with_reducible exact HR350.out) | (with_reducible refine Kd.C_alloc ?_ _) | (with_reducible refine Kd.C_drewN ?_ _) | (with_reducible refine Kd.C_drew ?_) | exact HR350.out)) hb); have n4_ := Aside0.mk (below_step (by repeat (first | (with_reducible first | exact HB.out | apply below_alloc | apply pw_below_drewN | apply below_drew1) | exact HB.out)) hb); clear HO_5; clear HO_6; clear HO355; clear HR350; clear HB; have HO_5 := n0_; have HO_6 := n1_; have HO355 := n2_; have HR350 := n3_; have HB := n4_; clear n0_ n1_ n2_ n3_ n4_; (try clear hb); (try clear hb2); (try clear hk); (try clear hi)))
                                            go_ret
                                            exact ⟨by first | rfl | (simp [errW_none, errW_some] <;> rfl) | (simp only [← hji51]; first | rfl | (simp [errW_none, errW_some] <;> rfl)) | (simp [*, errW_none, errW_some] <;> rfl), by repeat (first | (with_reducible first | exact HB.out | apply below_alloc | apply pw_below_drewN | apply below_drew1) | exact HB.out)⟩
                                      · rw [if_neg c59] at H
                                        have c59b0 : (t352 == x17_3) = false := beq_eq_false_iff_ne.mpr c59
                                        have c59b1 : (t352 != x17_3) = true := bne_iff_ne.mpr c59
                                        obtain rfl := Option.some.inj H
                                        obtain ⟨Ao87, co87, eo87⟩ := Kd.R_slice HO_6.out
                                        subst eo87
                                        have p345 : 0 ≤ (x16_3 : Int) := of_decide_eq_true (by first | (with_reducible assumption) | assumption)
                                        have q345 : x16_3 < (x6_1.length : Int) := of_decide_eq_true (by first | (with_reducible assumption) | assumption)
                                        obtain ⟨ad345, e345, hx345_0⟩ := Kd.at_int (Kd.R_reads' HO_6.out).2.2 x16_3 p345 q345
                                        cases e345
                                        replace p345 := eq_true p345
                                        replace q345 := eq_true q345
                                        have q88 : ((ji51) : Int) ≤ ((x5_1.length : Int) : Int) := of_decide_eq_true (by first | (with_reducible assumption) | assumption)
                                        obtain ⟨i088, hi088, _, hsz88, _⟩ := info_parts info5
                                        have hroom88 : x5_1.length ≤ co38 := (Kd.R_reads' HO_5.out).2.1
                                        have hC88 : Kd.C (Kd.int .u8) _ Ao38 x5_1.length x5_1 := (Kd.R_reads' HO_5.out).2.2
                                        have hcut88 := cut_to (P := Tryd.prog) 22 5 .i64 Tryd.underlying22 hi088 Ao38 x5_1.length co38 (ji51) (of_decide_eq_true (by first | (with_reducible assumption) | assumption)) q88 hroom88
                                        have hr88 := Kd.C_take (m := ((ji51) : Int).toNat) hC88 (by omega)
                                        have hy88 : y347.length = ((ji51) : Int).toNat := (by rw [Ny347.out, List.length_take]; omega)
                                        rw [← Ny347.out] at hr88
                                        rw [← hy88] at hcut88
                                        have HR350 := Aside0.mk hr88
                                        have HC350 := Aside0.mk (show y347.length ≤ co38 from by omega)
                                        clear hr88 hC88 hroom88 hi088 hsz88
                                        have KY88 := Aside0.mk hy88
                                        clear hy88
                                        have KL88 := Aside0.mk (show ((ji51) : Int).toNat ≤ x5_1.length from by omega)
                                        replace q88 := eq_true q88
                                        go_wp2_with (first | ((with_reducible refine gate_callee (f := 22) rfl ?_); refine goesL_ (some 119) rfl rfl Tryd.func22 (by kernel_rfl) rfl #[.slice Ao38 y347.length co38] rfl (by (try simp only [List.map_toArray, List.map_cons, List.map_nil]); first | done | rfl | (simp only [List.length_drop, List.length_take]; rfl)) ?_; (with_reducible refine (crc_Split.calls k3 _ _ y347 t351 t352 t353 _ ?side1 ?side2 ?side3 A54.out).mono ?_); (case side1 => repeat (first | exact (by repeat (first | (with_reducible exact HR350.out) | (with_reducible refine Kd.C_alloc ?_ _) | (with_reducible refine Kd.C_drewN ?_ _) | (with_reducible refine Kd.C_drew ?_) | exact HR350.out)) | (with_reducible refine Kd.C_alloc ?_ _) | (with_reducible refine Kd.C_drewN ?_ _) | (with_reducible refine Kd.C_drew ?_))); (case side2 => exact HC350.out); (case side3 => exact GT.below HG.out (by repeat (first | (with_reducible first | exact HB.out | apply below_alloc | apply pw_below_drewN | apply below_drew1) | exact HB.out))); rintro e w89 ⟨v354, rfl, ho0, hb⟩; refine ⟨_, rfl, ?_⟩; have n0_ := Aside0.mk (Kd.R_below (by (with_reducible repeat (first | apply Kd.R_alloc | apply Kd.R_drewN | apply Kd.R_drew)); exact HO_5.out) hb); have n1_ := Aside0.mk (Kd.R_below (by (with_reducible repeat (first | apply Kd.R_alloc | apply Kd.R_drewN | apply Kd.R_drew)); exact HO_6.out) hb); have n2_ := Aside0.mk (Kd.S_lower (Kd.S_new' ho0 (Kd.R_lt (by (with_reducible repeat (first | apply Kd.R_alloc | apply Kd.R_drewN | apply Kd.R_drew)); exact HO_5.out))) (below_size (by repeat (first | (with_reducible first | exact HB.out | apply below_alloc | apply pw_below_drewN | apply below_drew1) | exact HB.out)))); have n3_ := Aside0.mk (Kd.C_below (by repeat (first | (with_reducible exact HR350.out) | (with_reducible refine Kd.C_alloc ?_ _) | (with_reducible refine Kd.C_drewN ?_ _) | (with_reducible refine Kd.C_drew ?_) | exact HR350.out)) hb); have n4_ := Aside0.mk (below_step (by repeat (first | (with_reducible first | exact HB.out | apply below_alloc | apply pw_below_drewN | apply below_drew1) | exact HB.out)) hb); clear HO_5; clear HO_6; clear HR350; clear HB; have HO_5 := n0_; have HO_6 := n1_; have HO355 := n2_; have HR350 := n3_; have HB := n4_; clear n0_ n1_ n2_ n3_ n4_; (try clear hb); (try clear hb2); (try clear hk); (try clear hi); (try clear ho0); have q90 : (x16_3 : Int) ≤ ((l0.length : Int) : Int) := of_decide_eq_true (by first | (with_reducible assumption) | assumption); obtain ⟨i090, hi090, _, hsz90, _⟩ := info_parts info22; have hroom90 : l0.length ≤ c0 := HC0.out; have hC90 : Kd.C (Kd.slice 5 (Kd.int .u8)) _ A0 l0.length l0 := HR0.out; have hcut90 := cut_to (P := Tryd.prog) 37 22 .i64 Tryd.underlying37 hi090 A0 l0.length c0 x16_3 (of_decide_eq_true (by first | (with_reducible assumption) | assumption)) q90 hroom90; have hr90 := Kd.C_take (m := (x16_3 : Int).toNat) hC90 (by omega); have hy90 : y356.length = (x16_3 : Int).toNat := (by rw [Ny356.out, List.length_take]; omega); rw [← Ny356.out] at hr90; rw [← hy90] at hcut90; have HR359 := Aside0.mk hr90; have HC359 := Aside0.mk (show y356.length ≤ c0 from by omega); clear hr90 hC90 hroom90 hi090 hsz90; have KY90 := Aside0.mk hy90; clear hy90; replace q90 := eq_true q90; obtain ⟨Ao91, co91, eo91⟩ := Kd.S_slice HO355.out; subst eo91) | ((with_reducible refine gate_callee (f := 24) rfl ?_); refine goesL_ (some 127) rfl rfl Tryd.func24 (by kernel_rfl) rfl #[.slice Ao91 t351.length co91, .slice A0 y356.length c0] rfl (by (try simp only [List.map_toArray, List.map_cons, List.map_nil]); first | done | rfl | (simp only [List.length_drop, List.length_take]; rfl)) ?_; (with_reducible refine (dragnetref01_Lists.calls k3 _ _ t351 _ _ y356 true _ ?side1 ?side2 ?side3 ?side4 A57.out).mono ?_); (case side1 => repeat (first | exact (Kd.S_reads' HO355.out).2.2 | (with_reducible refine Kd.C_alloc ?_ _) | (with_reducible refine Kd.C_drewN ?_ _) | (with_reducible refine Kd.C_drew ?_))); (case side2 => exact (Kd.S_reads' HO355.out).2.1); (case side3 => repeat (first | exact (Kd.C_below HR359.out HB.out) | (with_reducible refine Kd.C_alloc ?_ _) | (with_reducible refine Kd.C_drewN ?_ _) | (with_reducible refine Kd.C_drew ?_))); (case side4 => exact HC359.out); rintro e w92 ⟨rfl, hb⟩; refine ⟨_, rfl, ?_⟩; have n0_ := Aside0.mk (Kd.R_below (by (with_reducible repeat (first | apply Kd.R_alloc | apply Kd.R_drewN | apply Kd.R_drew)); exact HO_5.out) hb); have n1_ := Aside0.mk (Kd.R_below (by (with_reducible repeat (first | apply Kd.R_alloc | apply Kd.R_drewN | apply Kd.R_drew)); exact HO_6.out) hb); have n2_ := Aside0.mk (Kd.S_below (by (with_reducible repeat (first | apply Kd.S_alloc | apply Kd.S_drewN | apply Kd.S_drew)); exact HO355.out) hb); have n3_ := Aside0.mk (Kd.C_below (by repeat (first | (with_reducible exact HR350.out) | (with_reducible refine Kd.C_alloc ?_ _) | (with_reducible refine Kd.C_drewN ?_ _) | (with_reducible refine Kd.C_drew ?_) | exact HR350.out)) hb); have n4_ := Aside0.mk (below_step (by repeat (first | (with_reducible first | exact HB.out | apply below_alloc | apply pw_below_drewN | apply below_drew1) | exact HB.out)) hb); clear HO_5; clear HO_6; clear HO355; clear HR350; clear HB; have HO_5 := n0_; have HO_6 := n1_; have HO355 := n2_; have HR350 := n3_; have HB := n4_; clear n0_ n1_ n2_ n3_ n4_; (try clear hb); (try clear hb2); (try clear hk); (try clear hi)))
                                        go_ret
                                        exact ⟨by first | rfl | (simp [errW_none, errW_some] <;> rfl) | (simp only [← hji51]; first | rfl | (simp [errW_none, errW_some] <;> rfl)) | (simp [*, errW_none, errW_some] <;> rfl), by repeat (first | (with_reducible first | exact HB.out | apply below_alloc | apply pw_below_drewN | apply below_drew1) | exact HB.out)⟩
                                    · replace c58 := Bool.eq_false_iff.mpr c58
                                      subst c58
                                      have H1 : (some false) = some r := by rw [if_neg (show ¬ (false = true) by decide)] at H; exact H
                                      clear H
                                      have H := H1
                                      clear H1
                                      obtain rfl := Option.some.inj H
                                      obtain ⟨Ao93, co93, eo93⟩ := Kd.R_slice HO_6.out
                                      subst eo93
                                      have p345 : 0 ≤ (x16_3 : Int) := of_decide_eq_true (by first | (with_reducible assumption) | assumption)
                                      have q345 : x16_3 < (x6_1.length : Int) := of_decide_eq_true (by first | (with_reducible assumption) | assumption)
                                      obtain ⟨ad345, e345, hx345_0⟩ := Kd.at_int (Kd.R_reads' HO_6.out).2.2 x16_3 p345 q345
                                      cases e345
                                      replace p345 := eq_true p345
                                      replace q345 := eq_true q345
                                      have q94 : ((ji51) : Int) ≤ ((x5_1.length : Int) : Int) := of_decide_eq_true (by first | (with_reducible assumption) | assumption)
                                      obtain ⟨i094, hi094, _, hsz94, _⟩ := info_parts info5
                                      have hroom94 : x5_1.length ≤ co38 := (Kd.R_reads' HO_5.out).2.1
                                      have hC94 : Kd.C (Kd.int .u8) _ Ao38 x5_1.length x5_1 := (Kd.R_reads' HO_5.out).2.2
                                      have hcut94 := cut_to (P := Tryd.prog) 22 5 .i64 Tryd.underlying22 hi094 Ao38 x5_1.length co38 (ji51) (of_decide_eq_true (by first | (with_reducible assumption) | assumption)) q94 hroom94
                                      have hr94 := Kd.C_take (m := ((ji51) : Int).toNat) hC94 (by omega)
                                      have hy94 : y347.length = ((ji51) : Int).toNat := (by rw [Ny347.out, List.length_take]; omega)
                                      rw [← Ny347.out] at hr94
                                      rw [← hy94] at hcut94
                                      have HR350 := Aside0.mk hr94
                                      have HC350 := Aside0.mk (show y347.length ≤ co38 from by omega)
                                      clear hr94 hC94 hroom94 hi094 hsz94
                                      have KY94 := Aside0.mk hy94
                                      clear hy94
                                      have KL94 := Aside0.mk (show ((ji51) : Int).toNat ≤ x5_1.length from by omega)
                                      replace q94 := eq_true q94
                                      go_wp2_with (first | ((with_reducible refine gate_callee (f := 22) rfl ?_); refine goesL_ (some 119) rfl rfl Tryd.func22 (by kernel_rfl) rfl #[.slice Ao38 y347.length co38] rfl (by (try simp only [List.map_toArray, List.map_cons, List.map_nil]); first | done | rfl | (simp only [List.length_drop, List.length_take]; rfl)) ?_; (with_reducible refine (crc_Split.calls k3 _ _ y347 t351 t352 t353 _ ?side1 ?side2 ?side3 A54.out).mono ?_); (case side1 => repeat (first | exact (by repeat (first | (with_reducible exact HR350.out) | (with_reducible refine Kd.C_alloc ?_ _) | (with_reducible refine Kd.C_drewN ?_ _) | (with_reducible refine Kd.C_drew ?_) | exact HR350.out)) | (with_reducible refine Kd.C_alloc ?_ _) | (with_reducible refine Kd.C_drewN ?_ _) | (with_reducible refine Kd.C_drew ?_))); (case side2 => exact HC350.out); (case side3 => exact GT.below HG.out (by repeat (first | (with_reducible first | exact HB.out | apply below_alloc | apply pw_below_drewN | apply below_drew1) | exact HB.out))); rintro e w95 ⟨v354, rfl, ho0, hb⟩; refine ⟨_, rfl, ?_⟩; have n0_ := Aside0.mk (Kd.R_below (by (with_reducible repeat (first | apply Kd.R_alloc | apply Kd.R_drewN | apply Kd.R_drew)); exact HO_5.out) hb); have n1_ := Aside0.mk (Kd.R_below (by (with_reducible repeat (first | apply Kd.R_alloc | apply Kd.R_drewN | apply Kd.R_drew)); exact HO_6.out) hb); have n2_ := Aside0.mk (Kd.S_lower (Kd.S_new' ho0 (Kd.R_lt (by (with_reducible repeat (first | apply Kd.R_alloc | apply Kd.R_drewN | apply Kd.R_drew)); exact HO_5.out))) (below_size (by repeat (first | (with_reducible first | exact HB.out | apply below_alloc | apply pw_below_drewN | apply below_drew1) | exact HB.out)))); have n3_ := Aside0.mk (Kd.C_below (by repeat (first | (with_reducible exact HR350.out) | (with_reducible refine Kd.C_alloc ?_ _) | (with_reducible refine Kd.C_drewN ?_ _) | (with_reducible refine Kd.C_drew ?_) | exact HR350.out)) hb); have n4_ := Aside0.mk (below_step (by repeat (first | (with_reducible first | exact HB.out | apply below_alloc | apply pw_below_drewN | apply below_drew1) | exact HB.out)) hb); clear HO_5; clear HO_6; clear HR350; clear HB; have HO_5 := n0_; have HO_6 := n1_; have HO355 := n2_; have HR350 := n3_; have HB := n4_; clear n0_ n1_ n2_ n3_ n4_; (try clear hb); (try clear hb2); (try clear hk); (try clear hi); (try clear ho0); have q96 : (x16_3 : Int) ≤ ((l0.length : Int) : Int) := of_decide_eq_true (by first | (with_reducible assumption) | assumption); obtain ⟨i096, hi096, _, hsz96, _⟩ := info_parts info22; have hroom96 : l0.length ≤ c0 := HC0.out; have hC96 : Kd.C (Kd.slice 5 (Kd.int .u8)) _ A0 l0.length l0 := HR0.out; have hcut96 := cut_to (P := Tryd.prog) 37 22 .i64 Tryd.underlying37 hi096 A0 l0.length c0 x16_3 (of_decide_eq_true (by first | (with_reducible assumption) | assumption)) q96 hroom96; have hr96 := Kd.C_take (m := (x16_3 : Int).toNat) hC96 (by omega); have hy96 : y356.length = (x16_3 : Int).toNat := (by rw [Ny356.out, List.length_take]; omega); rw [← Ny356.out] at hr96; rw [← hy96] at hcut96; have HR359 := Aside0.mk hr96; have HC359 := Aside0.mk (show y356.length ≤ c0 from by omega); clear hr96 hC96 hroom96 hi096 hsz96; have KY96 := Aside0.mk hy96; clear hy96; replace q96 := eq_true q96; obtain ⟨Ao97, co97, eo97⟩ := Kd.S_slice HO355.out; subst eo97) | ((with_reducible refine gate_callee (f := 24) rfl ?_); refine goesL_ (some 127) rfl rfl Tryd.func24 (by kernel_rfl) rfl #[.slice Ao97 t351.length co97, .slice A0 y356.length c0] rfl (by (try simp only [List.map_toArray, List.map_cons, List.map_nil]); first | done | rfl | (simp only [List.length_drop, List.length_take]; rfl)) ?_; (with_reducible refine (dragnetref01_Lists.calls k3 _ _ t351 _ _ y356 false _ ?side1 ?side2 ?side3 ?side4 A57.out).mono ?_); (case side1 => repeat (first | exact (Kd.S_reads' HO355.out).2.2 | (with_reducible refine Kd.C_alloc ?_ _) | (with_reducible refine Kd.C_drewN ?_ _) | (with_reducible refine Kd.C_drew ?_))); (case side2 => exact (Kd.S_reads' HO355.out).2.1); (case side3 => repeat (first | exact (Kd.C_below HR359.out HB.out) | (with_reducible refine Kd.C_alloc ?_ _) | (with_reducible refine Kd.C_drewN ?_ _) | (with_reducible refine Kd.C_drew ?_))); (case side4 => exact HC359.out); rintro e w98 ⟨rfl, hb⟩; refine ⟨_, rfl, ?_⟩; have n0_ := Aside0.mk (Kd.R_below (by (with_reducible repeat (first | apply Kd.R_alloc | apply Kd.R_drewN | apply Kd.R_drew)); exact HO_5.out) hb); have n1_ := Aside0.mk (Kd.R_below (by (with_reducible repeat (first | apply Kd.R_alloc | apply Kd.R_drewN | apply Kd.R_drew)); exact HO_6.out) hb); have n2_ := Aside0.mk (Kd.S_below (by (with_reducible repeat (first | apply Kd.S_alloc | apply Kd.S_drewN | apply Kd.S_drew)); exact HO355.out) hb); have n3_ := Aside0.mk (Kd.C_below (by repeat (first | (with_reducible exact HR350.out) | (with_reducible refine Kd.C_alloc ?_ _) | (with_reducible refine Kd.C_drewN ?_ _) | (with_reducible refine Kd.C_drew ?_) | exact HR350.out)) hb); have n4_ := Aside0.mk (below_step (by repeat (first | (with_reducible first | exact HB.out | apply below_alloc | apply pw_below_drewN | apply below_drew1) | exact HB.out)) hb); clear HO_5; clear HO_6; clear HO355; clear HR350; clear HB; have HO_5 := n0_; have HO_6 := n1_; have HO355 := n2_; have HR350 := n3_; have HB := n4_; clear n0_ n1_ n2_ n3_ n4_; (try clear hb); (try clear hb2); (try clear hk); (try clear hi)))
                                      go_ret
                                      exact ⟨by first | rfl | (simp [errW_none, errW_some] <;> rfl) | (simp only [← hji51]; first | rfl | (simp [errW_none, errW_some] <;> rfl)) | (simp [*, errW_none, errW_some] <;> rfl), by repeat (first | (with_reducible first | exact HB.out | apply below_alloc | apply pw_below_drewN | apply below_drew1) | exact HB.out)⟩
                                  · rw [if_neg c56] at H
                                    exact absurd H (by simp)
                                · rw [if_neg c53] at H
                                  exact absurd H (by simp)
                              · rw [if_neg c52] at H
                                exact absurd H (by simp)
                          · rw [if_neg c48] at H
                            exact absurd H (by simp)
                        · rw [if_neg c47] at H
                          have c47b0 : decide (x16_3 < (x6_1.length : Int)) = false := decide_eq_false c47
                          clear c47
                          obtain ⟨ji99, hji99⟩ : ∃ j_ : Int, (Int.tmod (wrap64 (a1)) (wrap64 ((x5_1.length : Int) + 1))) = j_ := ⟨_, rfl⟩
                          replace H : (if 0 ≤ (ji99) then (if (ji99) ≤ (x5_1.length : Int) then ((crc_Split.f k3 (x5_1.take ((ji99) : Int).toNat)).bind fun bt365 => (if 0 ≤ x16_3 then (if x16_3 ≤ (l0.length : Int) then ((dragnetref01_Lists.f k3 bt365.1 (l0.take (x16_3 : Int).toNat)).bind fun t374 => (if t374 = true then (if bt365.2.1 = x17_3 then (if bt365.2.2 = 0 then (if x17_3 = (ji99) then (some true) else (some false)) else (if x17_3 = (ji99) then (some false) else (some (bt365.2.2 == 3)))) else (some false)) else (some false))) else (none)) else (none))) else (none)) else (none)) = some r := by first | (rw [hji99] at H; exact H) | (simp only [hji99] at H ⊢; exact H)
                          by_cases c100 : 0 ≤ (ji99)
                          · rw [if_pos c100] at H
                            have c100b0 := eq_true c100
                            have c100b1 : decide (0 ≤ (ji99)) = true := decide_eq_true c100
                            clear c100
                            by_cases c101 : (ji99) ≤ (x5_1.length : Int)
                            · rw [if_pos c101] at H
                              have c101b0 := eq_true c101
                              have c101b1 : decide ((ji99) ≤ (x5_1.length : Int)) = true := decide_eq_true c101
                              clear c101
                              obtain ⟨y361, hy361⟩ : ∃ y_ : List Int, y_ = (x5_1.take ((ji99) : Int).toNat) := ⟨_, rfl⟩
                              replace H : ((crc_Split.f k3 y361).bind fun bt365 => (if 0 ≤ x16_3 then (if x16_3 ≤ (l0.length : Int) then ((dragnetref01_Lists.f k3 bt365.1 (l0.take (x16_3 : Int).toNat)).bind fun t374 => (if t374 = true then (if bt365.2.1 = x17_3 then (if bt365.2.2 = 0 then (if x17_3 = (ji99) then (some true) else (some false)) else (if x17_3 = (ji99) then (some false) else (some (bt365.2.2 == 3)))) else (some false)) else (some false))) else (none)) else (none))) = some r := by first | (rw [hy361]; with_reducible exact H) | (have H2_ := (Option.bind_some _ _).symm.trans H; rw [hy361]; with_reducible exact H2_) | (have H2_ := (Option.bind_some _ _).symm.trans H; with_reducible exact H2_) | with_reducible exact H | (rw [hy361]; exact H) | exact H
                              have Ny361 := Aside0.mk hy361
                              clear hy361
                              replace H := Option.bind_eq_some_iff.mp H
                              obtain ⟨⟨t365, t366, t367⟩, A1020, H⟩ := H
                              replace H : (if 0 ≤ x16_3 then (if x16_3 ≤ (l0.length : Int) then ((dragnetref01_Lists.f k3 t365 (l0.take (x16_3 : Int).toNat)).bind fun t374 => (if t374 = true then (if t366 = x17_3 then (if t367 = 0 then (if x17_3 = (ji99) then (some true) else (some false)) else (if x17_3 = (ji99) then (some false) else (some (t367 == 3)))) else (some false)) else (some false))) else (none)) else (none)) = some r := H
                              have A102 := Aside0.mk A1020
                              clear A1020
                              by_cases c103 : 0 ≤ x16_3
                              · rw [if_pos c103] at H
                                have c103b0 := eq_true c103
                                have c103b1 : decide (0 ≤ x16_3) = true := decide_eq_true c103
                                clear c103
                                by_cases c104 : x16_3 ≤ (l0.length : Int)
                                · rw [if_pos c104] at H
                                  have c104b0 := eq_true c104
                                  have c104b1 : decide (x16_3 ≤ (l0.length : Int)) = true := decide_eq_true c104
                                  clear c104
                                  obtain ⟨y370, hy370⟩ : ∃ y_ : List (List Int), y_ = (l0.take (x16_3 : Int).toNat) := ⟨_, rfl⟩
                                  replace H : ((dragnetref01_Lists.f k3 t365 y370).bind fun t374 => (if t374 = true then (if t366 = x17_3 then (if t367 = 0 then (if x17_3 = (ji99) then (some true) else (some false)) else (if x17_3 = (ji99) then (some false) else (some (t367 == 3)))) else (some false)) else (some false))) = some r := by first | (rw [hy370]; with_reducible exact H) | (have H2_ := (Option.bind_some _ _).symm.trans H; rw [hy370]; with_reducible exact H2_) | (have H2_ := (Option.bind_some _ _).symm.trans H; with_reducible exact H2_) | with_reducible exact H | (rw [hy370]; exact H) | exact H
                                  have Ny370 := Aside0.mk hy370
                                  clear hy370
                                  replace H := Option.bind_eq_some_iff.mp H
                                  obtain ⟨t374, A1050, H⟩ := H
                                  replace H : (if t374 = true then (if t366 = x17_3 then (if t367 = 0 then (if x17_3 = (ji99) then (some true) else (some false)) else (if x17_3 = (ji99) then (some false) else (some (t367 == 3)))) else (some false)) else (some false)) = some r := H
                                  have A105 := Aside0.mk A1050
                                  clear A1050
                                  by_cases c106 : t374 = true
                                  · subst c106
                                    have H1 : (if t366 = x17_3 then (if t367 = 0 then (if x17_3 = (ji99) then (some true) else (some false)) else (if x17_3 = (ji99) then (some false) else (some (t367 == 3)))) else (some false)) = some r := by rw [if_pos rfl] at H; exact H
                                    clear H
                                    have H := H1
                                    clear H1
                                    by_cases c107 : t366 = x17_3
                                    · rw [if_pos c107] at H
                                      have c107b0 : (t366 == x17_3) = true := beq_iff_eq.mpr c107
                                      have c107b1 : (t366 != x17_3) = false := bne_eq_false_iff_eq.mpr c107
                                      clear c107
                                      by_cases c108 : t367 = 0
                                      · rw [if_pos c108] at H
                                        have c108b0 : (t367 == 0) = true := beq_iff_eq.mpr c108
                                        have c108b1 : (t367 != 0) = false := bne_eq_false_iff_eq.mpr c108
                                        clear c108
                                        by_cases c109 : x17_3 = (ji99)
                                        · rw [if_pos c109] at H
                                          have c109b0 : (x17_3 == (ji99)) = true := beq_iff_eq.mpr c109
                                          have c109b1 : (x17_3 != (ji99)) = false := bne_eq_false_iff_eq.mpr c109
                                          clear c109
                                          obtain rfl := Option.some.inj H
                                          obtain ⟨Ao110, co110, eo110⟩ := Kd.R_slice HO_6.out
                                          subst eo110
                                          have q111 : ((ji99) : Int) ≤ ((x5_1.length : Int) : Int) := of_decide_eq_true (by first | (with_reducible assumption) | assumption)
                                          obtain ⟨i0111, hi0111, _, hsz111, _⟩ := info_parts info5
                                          have hroom111 : x5_1.length ≤ co38 := (Kd.R_reads' HO_5.out).2.1
                                          have hC111 : Kd.C (Kd.int .u8) _ Ao38 x5_1.length x5_1 := (Kd.R_reads' HO_5.out).2.2
                                          have hcut111 := cut_to (P := Tryd.prog) 22 5 .i64 Tryd.underlying22 hi0111 Ao38 x5_1.length co38 (ji99) (of_decide_eq_true (by first | (with_reducible assumption) | assumption)) q111 hroom111
                                          have hr111 := Kd.C_take (m := ((ji99) : Int).toNat) hC111 (by omega)
                                          have hy111 : y361.length = ((ji99) : Int).toNat := (by rw [Ny361.out, List.length_take]; omega)
                                          rw [← Ny361.out] at hr111
                                          rw [← hy111] at hcut111
                                          have HR364 := Aside0.mk hr111
                                          have HC364 := Aside0.mk (show y361.length ≤ co38 from by omega)
                                          clear hr111 hC111 hroom111 hi0111 hsz111
                                          have KY111 := Aside0.mk hy111
                                          clear hy111
                                          have KL111 := Aside0.mk (show ((ji99) : Int).toNat ≤ x5_1.length from by omega)
                                          replace q111 := eq_true q111
                                          go_wp2_with (first | ((with_reducible refine gate_callee (f := 22) rfl ?_); refine goesL_ (some 119) rfl rfl Tryd.func22 (by kernel_rfl) rfl #[.slice Ao38 y361.length co38] rfl (by (try simp only [List.map_toArray, List.map_cons, List.map_nil]); first | done | rfl | (simp only [List.length_drop, List.length_take]; rfl)) ?_; (with_reducible refine (crc_Split.calls k3 _ _ y361 t365 t366 t367 _ ?side1 ?side2 ?side3 A102.out).mono ?_); (case side1 => repeat (first | exact (by repeat (first | (with_reducible exact HR364.out) | (with_reducible refine Kd.C_alloc ?_ _) | (with_reducible refine Kd.C_drewN ?_ _) | (with_reducible refine Kd.C_drew ?_) | exact HR364.out)) | (with_reducible refine Kd.C_alloc ?_ _) | (with_reducible refine Kd.C_drewN ?_ _) | (with_reducible refine Kd.C_drew ?_))); (case side2 => exact HC364.out); (case side3 => exact GT.below HG.out (by repeat (first | (with_reducible first | exact HB.out | apply below_alloc | apply pw_below_drewN | apply below_drew1) | exact HB.out))); rintro e w112 ⟨v368, rfl, ho0, hb⟩; refine ⟨_, rfl, ?_⟩; have n0_ := Aside0.mk (Kd.R_below (by (with_reducible repeat (first | apply Kd.R_alloc | apply Kd.R_drewN | apply Kd.R_drew)); exact HO_5.out) hb); have n1_ := Aside0.mk (Kd.R_below (by (with_reducible repeat (first | apply Kd.R_alloc | apply Kd.R_drewN | apply Kd.R_drew)); exact HO_6.out) hb); have n2_ := Aside0.mk (Kd.S_lower (Kd.S_new' ho0 (Kd.R_lt (by (with_reducible repeat (first | apply Kd.R_alloc | apply Kd.R_drewN | apply Kd.R_drew)); exact HO_5.out))) (below_size (by repeat (first | (with_reducible first | exact HB.out | apply below_alloc | apply pw_below_drewN | apply below_drew1) | exact HB.out)))); have n3_ := Aside0.mk (Kd.C_below (by repeat (first | (with_reducible exact HR364.out) | (with_reducible refine Kd.C_alloc ?_ _) | (with_reducible refine Kd.C_drewN ?_ _) | (with_reducible refine Kd.C_drew ?_) | exact HR364.out)) hb); have n4_ := Aside0.mk (below_step (by repeat (first | (with_reducible first | exact HB.out | apply below_alloc | apply pw_below_drewN | apply below_drew1) | exact HB.out)) hb); clear HO_5; clear HO_6; clear HR364; clear HB; have HO_5 := n0_; have HO_6 := n1_; have HO369 := n2_; have HR364 := n3_; have HB := n4_; clear n0_ n1_ n2_ n3_ n4_; (try clear hb); (try clear hb2); (try clear hk); (try clear hi); (try clear ho0); have q113 : (x16_3 : Int) ≤ ((l0.length : Int) : Int) := of_decide_eq_true (by first | (with_reducible assumption) | assumption); obtain ⟨i0113, hi0113, _, hsz113, _⟩ := info_parts info22; have hroom113 : l0.length ≤ c0 := HC0.out; have hC113 : Kd.C (Kd.slice 5 (Kd.int .u8)) _ A0 l0.length l0 := HR0.out; have hcut113 := cut_to (P := Tryd.prog) 37 22 .i64 Tryd.underlying37 hi0113 A0 l0.length c0 x16_3 (of_decide_eq_true (by first | (with_reducible assumption) | assumption)) q113 hroom113; have hr113 := Kd.C_take (m := (x16_3 : Int).toNat) hC113 (by omega); have hy113 : y370.length = (x16_3 : Int).toNat := (by rw [Ny370.out, List.length_take]; omega); rw [← Ny370.out] at hr113; rw [← hy113] at hcut113; have HR373 := Aside0.mk hr113; have HC373 := Aside0.mk (show y370.length ≤ c0 from by omega); clear hr113 hC113 hroom113 hi0113 hsz113; have KY113 := Aside0.mk hy113; clear hy113; replace q113 := eq_true q113; obtain ⟨Ao114, co114, eo114⟩ := Kd.S_slice HO369.out; subst eo114) | ((with_reducible refine gate_callee (f := 24) rfl ?_); refine goesL_ (some 127) rfl rfl Tryd.func24 (by kernel_rfl) rfl #[.slice Ao114 t365.length co114, .slice A0 y370.length c0] rfl (by (try simp only [List.map_toArray, List.map_cons, List.map_nil]); first | done | rfl | (simp only [List.length_drop, List.length_take]; rfl)) ?_; (with_reducible refine (dragnetref01_Lists.calls k3 _ _ t365 _ _ y370 true _ ?side1 ?side2 ?side3 ?side4 A105.out).mono ?_); (case side1 => repeat (first | exact (Kd.S_reads' HO369.out).2.2 | (with_reducible refine Kd.C_alloc ?_ _) | (with_reducible refine Kd.C_drewN ?_ _) | (with_reducible refine Kd.C_drew ?_))); (case side2 => exact (Kd.S_reads' HO369.out).2.1); (case side3 => repeat (first | exact (Kd.C_below HR373.out HB.out) | (with_reducible refine Kd.C_alloc ?_ _) | (with_reducible refine Kd.C_drewN ?_ _) | (with_reducible refine Kd.C_drew ?_))); (case side4 => exact HC373.out); rintro e w115 ⟨rfl, hb⟩; refine ⟨_, rfl, ?_⟩; have n0_ := Aside0.mk (Kd.R_below (by (with_reducible repeat (first | apply Kd.R_alloc | apply Kd.R_drewN | apply Kd.R_drew)); exact HO_5.out) hb); have n1_ := Aside0.mk (Kd.R_below (by (with_reducible repeat (first | apply Kd.R_alloc | apply Kd.R_drewN | apply Kd.R_drew)); exact HO_6.out) hb); have n2_ := Aside0.mk (Kd.S_below (by (with_reducible repeat (first | apply Kd.S_alloc | apply Kd.S_drewN | apply Kd.S_drew)); exact HO369.out) hb); have n3_ := Aside0.mk (Kd.C_below (by repeat (first | (with_reducible exact HR364.out) | (with_reducible refine Kd.C_alloc ?_ _) | (with_reducible refine Kd.C_drewN ?_ _) | (with_reducible refine Kd.C_drew ?_) | exact HR364.out)) hb); have n4_ := Aside0.mk (below_step (by repeat (first | (with_reducible first | exact HB.out | apply below_alloc | apply pw_below_drewN | apply below_drew1) | exact HB.out)) hb); clear HO_5; clear HO_6; clear HO369; clear HR364; clear HB; have HO_5 := n0_; have HO_6 := n1_; have HO369 := n2_; have HR364 := n3_; have HB := n4_; clear n0_ n1_ n2_ n3_ n4_; (try clear hb); (try clear hb2); (try clear hk); (try clear hi)))
                                          go_ret
                                          exact ⟨by first | rfl | (simp [errW_none, errW_some] <;> rfl) | (simp only [← hji99]; first | rfl | (simp [errW_none, errW_some] <;> rfl)) | (simp [*, errW_none, errW_some] <;> rfl), by repeat (first | (with_reducible first | exact HB.out | apply below_alloc | apply pw_below_drewN | apply below_drew1) | exact HB.out)⟩
                                        · rw [if_neg c109] at H
                                          have c109b0 : (x17_3 == (ji99)) = false := beq_eq_false_iff_ne.mpr c109
                                          have c109b1 : (x17_3 != (ji99)) = true := bne_iff_ne.mpr c109
                                          obtain rfl := Option.some.inj H
                                          obtain ⟨Ao116, co116, eo116⟩ := Kd.R_slice HO_6.out
                                          subst eo116
                                          have q117 : ((ji99) : Int) ≤ ((x5_1.length : Int) : Int) := of_decide_eq_true (by first | (with_reducible assumption) | assumption)
                                          obtain ⟨i0117, hi0117, _, hsz117, _⟩ := info_parts info5
                                          have hroom117 : x5_1.length ≤ co38 := (Kd.R_reads' HO_5.out).2.1
                                          have hC117 : Kd.C (Kd.int .u8) _ Ao38 x5_1.length x5_1 := (Kd.R_reads' HO_5.out).2.2
                                          have hcut117 := cut_to (P := Tryd.prog) 22 5 .i64 Tryd.underlying22 hi0117 Ao38 x5_1.length co38 (ji99) (of_decide_eq_true (by first | (with_reducible assumption) | assumption)) q117 hroom117
                                          have hr117 := Kd.C_take (m := ((ji99) : Int).toNat) hC117 (by omega)
                                          have hy117 : y361.length = ((ji99) : Int).toNat := (by rw [Ny361.out, List.length_take]; omega)
                                          rw [← Ny361.out] at hr117
                                          rw [← hy117] at hcut117
                                          have HR364 := Aside0.mk hr117
                                          have HC364 := Aside0.mk (show y361.length ≤ co38 from by omega)
                                          clear hr117 hC117 hroom117 hi0117 hsz117
                                          have KY117 := Aside0.mk hy117
                                          clear hy117
                                          have KL117 := Aside0.mk (show ((ji99) : Int).toNat ≤ x5_1.length from by omega)
                                          replace q117 := eq_true q117
                                          go_wp2_with (first | ((with_reducible refine gate_callee (f := 22) rfl ?_); refine goesL_ (some 119) rfl rfl Tryd.func22 (by kernel_rfl) rfl #[.slice Ao38 y361.length co38] rfl (by (try simp only [List.map_toArray, List.map_cons, List.map_nil]); first | done | rfl | (simp only [List.length_drop, List.length_take]; rfl)) ?_; (with_reducible refine (crc_Split.calls k3 _ _ y361 t365 t366 t367 _ ?side1 ?side2 ?side3 A102.out).mono ?_); (case side1 => repeat (first | exact (by repeat (first | (with_reducible exact HR364.out) | (with_reducible refine Kd.C_alloc ?_ _) | (with_reducible refine Kd.C_drewN ?_ _) | (with_reducible refine Kd.C_drew ?_) | exact HR364.out)) | (with_reducible refine Kd.C_alloc ?_ _) | (with_reducible refine Kd.C_drewN ?_ _) | (with_reducible refine Kd.C_drew ?_))); (case side2 => exact HC364.out); (case side3 => exact GT.below HG.out (by repeat (first | (with_reducible first | exact HB.out | apply below_alloc | apply pw_below_drewN | apply below_drew1) | exact HB.out))); rintro e w118 ⟨v368, rfl, ho0, hb⟩; refine ⟨_, rfl, ?_⟩; have n0_ := Aside0.mk (Kd.R_below (by (with_reducible repeat (first | apply Kd.R_alloc | apply Kd.R_drewN | apply Kd.R_drew)); exact HO_5.out) hb); have n1_ := Aside0.mk (Kd.R_below (by (with_reducible repeat (first | apply Kd.R_alloc | apply Kd.R_drewN | apply Kd.R_drew)); exact HO_6.out) hb); have n2_ := Aside0.mk (Kd.S_lower (Kd.S_new' ho0 (Kd.R_lt (by (with_reducible repeat (first | apply Kd.R_alloc | apply Kd.R_drewN | apply Kd.R_drew)); exact HO_5.out))) (below_size (by repeat (first | (with_reducible first | exact HB.out | apply below_alloc | apply pw_below_drewN | apply below_drew1) | exact HB.out)))); have n3_ := Aside0.mk (Kd.C_below (by repeat (first | (with_reducible exact HR364.out) | (with_reducible refine Kd.C_alloc ?_ _) | (with_reducible refine Kd.C_drewN ?_ _) | (with_reducible refine Kd.C_drew ?_) | exact HR364.out)) hb); have n4_ := Aside0.mk (below_step (by repeat (first | (with_reducible first | exact HB.out | apply below_alloc | apply pw_below_drewN | apply below_drew1) | exact HB.out)) hb); clear HO_5; clear HO_6; clear HR364; clear HB; have HO_5 := n0_; have HO_6 := n1_; have HO369 := n2_; have HR364 := n3_; have HB := n4_; clear n0_ n1_ n2_ n3_ n4_; (try clear hb); (try clear hb2); (try clear hk); (try clear hi); (try clear ho0); have q119 : (x16_3 : Int) ≤ ((l0.length : Int) : Int) := of_decide_eq_true (by first | (with_reducible assumption) | assumption); obtain ⟨i0119, hi0119, _, hsz119, _⟩ := info_parts info22; have hroom119 : l0.length ≤ c0 := HC0.out; have hC119 : Kd.C (Kd.slice 5 (Kd.int .u8)) _ A0 l0.length l0 := HR0.out; have hcut119 := cut_to (P := Tryd.prog) 37 22 .i64 Tryd.underlying37 hi0119 A0 l0.length c0 x16_3 (of_decide_eq_true (by first | (with_reducible assumption) | assumption)) q119 hroom119; have hr119 := Kd.C_take (m := (x16_3 : Int).toNat) hC119 (by omega); have hy119 : y370.length = (x16_3 : Int).toNat := (by rw [Ny370.out, List.length_take]; omega); rw [← Ny370.out] at hr119; rw [← hy119] at hcut119; have HR373 := Aside0.mk hr119; have HC373 := Aside0.mk (show y370.length ≤ c0 from by omega); clear hr119 hC119 hroom119 hi0119 hsz119; have KY119 := Aside0.mk hy119; clear hy119; replace q119 := eq_true q119; obtain ⟨Ao120, co120, eo120⟩ := Kd.S_slice HO369.out; subst eo120) | ((with_reducible refine gate_callee (f := 24) rfl ?_); refine goesL_ (some 127) rfl rfl Tryd.func24 (by kernel_rfl) rfl #[.slice Ao120 t365.length co120, .slice A0 y370.length c0] rfl (by (try simp only [List.map_toArray, List.map_cons, List.map_nil]); first | done | rfl | (simp only [List.length_drop, List.length_take]; rfl)) ?_; (with_reducible refine (dragnetref01_Lists.calls k3 _ _ t365 _ _ y370 true _ ?side1 ?side2 ?side3 ?side4 A105.out).mono ?_); (case side1 => repeat (first | exact (Kd.S_reads' HO369.out).2.2 | (with_reducible refine Kd.C_alloc ?_ _) | (with_reducible refine Kd.C_drewN ?_ _) | (with_reducible refine Kd.C_drew ?_))); (case side2 => exact (Kd.S_reads' HO369.out).2.1); (case side3 => repeat (first | exact (Kd.C_below HR373.out HB.out) | (with_reducible refine Kd.C_alloc ?_ _) | (with_reducible refine Kd.C_drewN ?_ _) | (with_reducible refine Kd.C_drew ?_))); (case side4 => exact HC373.out); rintro e w121 ⟨rfl, hb⟩; refine ⟨_, rfl, ?_⟩; have n0_ := Aside0.mk (Kd.R_below (by (with_reducible repeat (first | apply Kd.R_alloc | apply Kd.R_drewN | apply Kd.R_drew)); exact HO_5.out) hb); have n1_ := Aside0.mk (Kd.R_below (by (with_reducible repeat (first | apply Kd.R_alloc | apply Kd.R_drewN | apply Kd.R_drew)); exact HO_6.out) hb); have n2_ := Aside0.mk (Kd.S_below (by (with_reducible repeat (first | apply Kd.S_alloc | apply Kd.S_drewN | apply Kd.S_drew)); exact HO369.out) hb); have n3_ := Aside0.mk (Kd.C_below (by repeat (first | (with_reducible exact HR364.out) | (with_reducible refine Kd.C_alloc ?_ _) | (with_reducible refine Kd.C_drewN ?_ _) | (with_reducible refine Kd.C_drew ?_) | exact HR364.out)) hb); have n4_ := Aside0.mk (below_step (by repeat (first | (with_reducible first | exact HB.out | apply below_alloc | apply pw_below_drewN | apply below_drew1) | exact HB.out)) hb); clear HO_5; clear HO_6; clear HO369; clear HR364; clear HB; have HO_5 := n0_; have HO_6 := n1_; have HO369 := n2_; have HR364 := n3_; have HB := n4_; clear n0_ n1_ n2_ n3_ n4_; (try clear hb); (try clear hb2); (try clear hk); (try clear hi)))
                                          go_ret
                                          exact ⟨by first | rfl | (simp [errW_none, errW_some] <;> rfl) | (simp only [← hji99]; first | rfl | (simp [errW_none, errW_some] <;> rfl)) | (simp [*, errW_none, errW_some] <;> rfl), by repeat (first | (with_reducible first | exact HB.out | apply below_alloc | apply pw_below_drewN | apply below_drew1) | exact HB.out)⟩
                                      · rw [if_neg c108] at H
                                        have c108b0 : (t367 == 0) = false := beq_eq_false_iff_ne.mpr c108
                                        have c108b1 : (t367 != 0) = true := bne_iff_ne.mpr c108
                                        by_cases c122 : x17_3 = (ji99)
                                        · rw [if_pos c122] at H
                                          have c122b0 : (x17_3 == (ji99)) = true := beq_iff_eq.mpr c122
                                          have c122b1 : (x17_3 != (ji99)) = false := bne_eq_false_iff_eq.mpr c122
                                          clear c122
                                          obtain rfl := Option.some.inj H
                                          obtain ⟨Ao123, co123, eo123⟩ := Kd.R_slice HO_6.out
                                          subst eo123
                                          have q124 : ((ji99) : Int) ≤ ((x5_1.length : Int) : Int) := of_decide_eq_true (by first | (with_reducible assumption) | assumption)
                                          obtain ⟨i0124, hi0124, _, hsz124, _⟩ := info_parts info5
                                          have hroom124 : x5_1.length ≤ co38 := (Kd.R_reads' HO_5.out).2.1
                                          have hC124 : Kd.C (Kd.int .u8) _ Ao38 x5_1.length x5_1 := (Kd.R_reads' HO_5.out).2.2
                                          have hcut124 := cut_to (P := Tryd.prog) 22 5 .i64 Tryd.underlying22 hi0124 Ao38 x5_1.length co38 (ji99) (of_decide_eq_true (by first | (with_reducible assumption) | assumption)) q124 hroom124
                                          have hr124 := Kd.C_take (m := ((ji99) : Int).toNat) hC124 (by omega)
                                          have hy124 : y361.length = ((ji99) : Int).toNat := (by rw [Ny361.out, List.length_take]; omega)
                                          rw [← Ny361.out] at hr124
                                          rw [← hy124] at hcut124
                                          have HR364 := Aside0.mk hr124
                                          have HC364 := Aside0.mk (show y361.length ≤ co38 from by omega)
                                          clear hr124 hC124 hroom124 hi0124 hsz124
                                          have KY124 := Aside0.mk hy124
                                          clear hy124
                                          have KL124 := Aside0.mk (show ((ji99) : Int).toNat ≤ x5_1.length from by omega)
                                          replace q124 := eq_true q124
                                          go_wp2_with (first | ((with_reducible refine gate_callee (f := 22) rfl ?_); refine goesL_ (some 119) rfl rfl Tryd.func22 (by kernel_rfl) rfl #[.slice Ao38 y361.length co38] rfl (by (try simp only [List.map_toArray, List.map_cons, List.map_nil]); first | done | rfl | (simp only [List.length_drop, List.length_take]; rfl)) ?_; (with_reducible refine (crc_Split.calls k3 _ _ y361 t365 t366 t367 _ ?side1 ?side2 ?side3 A102.out).mono ?_); (case side1 => repeat (first | exact (by repeat (first | (with_reducible exact HR364.out) | (with_reducible refine Kd.C_alloc ?_ _) | (with_reducible refine Kd.C_drewN ?_ _) | (with_reducible refine Kd.C_drew ?_) | exact HR364.out)) | (with_reducible refine Kd.C_alloc ?_ _) | (with_reducible refine Kd.C_drewN ?_ _) | (with_reducible refine Kd.C_drew ?_))); (case side2 => exact HC364.out); (case side3 => exact GT.below HG.out (by repeat (first | (with_reducible first | exact HB.out | apply below_alloc | apply pw_below_drewN | apply below_drew1) | exact HB.out))); rintro e w125 ⟨v368, rfl, ho0, hb⟩; refine ⟨_, rfl, ?_⟩; have n0_ := Aside0.mk (Kd.R_below (by (with_reducible repeat (first | apply Kd.R_alloc | apply Kd.R_drewN | apply Kd.R_drew)); exact HO_5.out) hb); have n1_ := Aside0.mk (Kd.R_below (by (with_reducible repeat (first | apply Kd.R_alloc | apply Kd.R_drewN | apply Kd.R_drew)); exact HO_6.out) hb); have n2_ := Aside0.mk (Kd.S_lower (Kd.S_new' ho0 (Kd.R_lt (by (with_reducible repeat (first | apply Kd.R_alloc | apply Kd.R_drewN | apply Kd.R_drew)); exact HO_5.out))) (below_size (by repeat (first | (with_reducible first | exact HB.out | apply below_alloc | apply pw_below_drewN | apply below_drew1) | exact HB.out)))); have n3_ := Aside0.mk (Kd.C_below (by repeat (first | (with_reducible exact HR364.out) | (with_reducible refine Kd.C_alloc ?_ _) | (with_reducible refine Kd.C_drewN ?_ _) | (with_reducible refine Kd.C_drew ?_) | exact HR364.out)) hb); have n4_ := Aside0.mk (below_step (by repeat (first | (with_reducible first | exact HB.out | apply below_alloc | apply pw_below_drewN | apply below_drew1) | exact HB.out)) hb); clear HO_5; clear HO_6; clear HR364; clear HB; have HO_5 := n0_; have HO_6 := n1_; have HO369 := n2_; have HR364 := n3_; have HB := n4_; clear n0_ n1_ n2_ n3_ n4_; (try clear hb); (try clear hb2); (try clear hk); (try clear hi); (try clear ho0); have q126 : (x16_3 : Int) ≤ ((l0.length : Int) : Int) := of_decide_eq_true (by first | (with_reducible assumption) | assumption); obtain ⟨i0126, hi0126, _, hsz126, _⟩ := info_parts info22; have hroom126 : l0.length ≤ c0 := HC0.out; have hC126 : Kd.C (Kd.slice 5 (Kd.int .u8)) _ A0 l0.length l0 := HR0.out; have hcut126 := cut_to (P := Tryd.prog) 37 22 .i64 Tryd.underlying37 hi0126 A0 l0.length c0 x16_3 (of_decide_eq_true (by first | (with_reducible assumption) | assumption)) q126 hroom126; have hr126 := Kd.C_take (m := (x16_3 : Int).toNat) hC126 (by omega); have hy126 : y370.length = (x16_3 : Int).toNat := (by rw [Ny370.out, List.length_take]; omega); rw [← Ny370.out] at hr126; rw [← hy126] at hcut126; have HR373 := Aside0.mk hr126; have HC373 := Aside0.mk (show y370.length ≤ c0 from by omega); clear hr126 hC126 hroom126 hi0126 hsz126; have KY126 := Aside0.mk hy126; clear hy126; replace q126 := eq_true q126; obtain ⟨Ao127, co127, eo127⟩ := Kd.S_slice HO369.out; subst eo127) | ((with_reducible refine gate_callee (f := 24) rfl ?_); refine goesL_ (some 127) rfl rfl Tryd.func24 (by kernel_rfl) rfl #[.slice Ao127 t365.length co127, .slice A0 y370.length c0] rfl (by (try simp only [List.map_toArray, List.map_cons, List.map_nil]); first | done | rfl | (simp only [List.length_drop, List.length_take]; rfl)) ?_; (with_reducible refine (dragnetref01_Lists.calls k3 _ _ t365 _ _ y370 true _ ?side1 ?side2 ?side3 ?side4 A105.out).mono ?_); (case side1 => repeat (first | exact (Kd.S_reads' HO369.out).2.2 | (with_reducible refine Kd.C_alloc ?_ _) | (with_reducible refine Kd.C_drewN ?_ _) | (with_reducible refine Kd.C_drew ?_))); (case side2 => exact (Kd.S_reads' HO369.out).2.1); (case side3 => repeat (first | exact (Kd.C_below HR373.out HB.out) | (with_reducible refine Kd.C_alloc ?_ _) | (with_reducible refine Kd.C_drewN ?_ _) | (with_reducible refine Kd.C_drew ?_))); (case side4 => exact HC373.out); rintro e w128 ⟨rfl, hb⟩; refine ⟨_, rfl, ?_⟩; have n0_ := Aside0.mk (Kd.R_below (by (with_reducible repeat (first | apply Kd.R_alloc | apply Kd.R_drewN | apply Kd.R_drew)); exact HO_5.out) hb); have n1_ := Aside0.mk (Kd.R_below (by (with_reducible repeat (first | apply Kd.R_alloc | apply Kd.R_drewN | apply Kd.R_drew)); exact HO_6.out) hb); have n2_ := Aside0.mk (Kd.S_below (by (with_reducible repeat (first | apply Kd.S_alloc | apply Kd.S_drewN | apply Kd.S_drew)); exact HO369.out) hb); have n3_ := Aside0.mk (Kd.C_below (by repeat (first | (with_reducible exact HR364.out) | (with_reducible refine Kd.C_alloc ?_ _) | (with_reducible refine Kd.C_drewN ?_ _) | (with_reducible refine Kd.C_drew ?_) | exact HR364.out)) hb); have n4_ := Aside0.mk (below_step (by repeat (first | (with_reducible first | exact HB.out | apply below_alloc | apply pw_below_drewN | apply below_drew1) | exact HB.out)) hb); clear HO_5; clear HO_6; clear HO369; clear HR364; clear HB; have HO_5 := n0_; have HO_6 := n1_; have HO369 := n2_; have HR364 := n3_; have HB := n4_; clear n0_ n1_ n2_ n3_ n4_; (try clear hb); (try clear hb2); (try clear hk); (try clear hi)))
                                          go_ret
                                          exact ⟨by first | rfl | (simp [errW_none, errW_some] <;> rfl) | (simp only [← hji99]; first | rfl | (simp [errW_none, errW_some] <;> rfl)) | (simp [*, errW_none, errW_some] <;> rfl), by repeat (first | (with_reducible first | exact HB.out | apply below_alloc | apply pw_below_drewN | apply below_drew1) | exact HB.out)⟩
                                        · rw [if_neg c122] at H
                                          have c122b0 : (x17_3 == (ji99)) = false := beq_eq_false_iff_ne.mpr c122
                                          have c122b1 : (x17_3 != (ji99)) = true := bne_iff_ne.mpr c122
                                          obtain rfl := Option.some.inj H
                                          obtain ⟨Ao129, co129, eo129⟩ := Kd.R_slice HO_6.out
                                          subst eo129
                                          have q130 : ((ji99) : Int) ≤ ((x5_1.length : Int) : Int) := of_decide_eq_true (by first | (with_reducible assumption) | assumption)
                                          obtain ⟨i0130, hi0130, _, hsz130, _⟩ := info_parts info5
                                          have hroom130 : x5_1.length ≤ co38 := (Kd.R_reads' HO_5.out).2.1
                                          have hC130 : Kd.C (Kd.int .u8) _ Ao38 x5_1.length x5_1 := (Kd.R_reads' HO_5.out).2.2
                                          have hcut130 := cut_to (P := Tryd.prog) 22 5 .i64 Tryd.underlying22 hi0130 Ao38 x5_1.length co38 (ji99) (of_decide_eq_true (by first | (with_reducible assumption) | assumption)) q130 hroom130
                                          have hr130 := Kd.C_take (m := ((ji99) : Int).toNat) hC130 (by omega)
                                          have hy130 : y361.length = ((ji99) : Int).toNat := (by rw [Ny361.out, List.length_take]; omega)
                                          rw [← Ny361.out] at hr130
                                          rw [← hy130] at hcut130
                                          have HR364 := Aside0.mk hr130
                                          have HC364 := Aside0.mk (show y361.length ≤ co38 from by omega)
                                          clear hr130 hC130 hroom130 hi0130 hsz130
                                          have KY130 := Aside0.mk hy130
                                          clear hy130
                                          have KL130 := Aside0.mk (show ((ji99) : Int).toNat ≤ x5_1.length from by omega)
                                          replace q130 := eq_true q130
                                          go_wp2_with (first | ((with_reducible refine gate_callee (f := 22) rfl ?_); refine goesL_ (some 119) rfl rfl Tryd.func22 (by kernel_rfl) rfl #[.slice Ao38 y361.length co38] rfl (by (try simp only [List.map_toArray, List.map_cons, List.map_nil]); first | done | rfl | (simp only [List.length_drop, List.length_take]; rfl)) ?_; (with_reducible refine (crc_Split.calls k3 _ _ y361 t365 t366 t367 _ ?side1 ?side2 ?side3 A102.out).mono ?_); (case side1 => repeat (first | exact (by repeat (first | (with_reducible exact HR364.out) | (with_reducible refine Kd.C_alloc ?_ _) | (with_reducible refine Kd.C_drewN ?_ _) | (with_reducible refine Kd.C_drew ?_) | exact HR364.out)) | (with_reducible refine Kd.C_alloc ?_ _) | (with_reducible refine Kd.C_drewN ?_ _) | (with_reducible refine Kd.C_drew ?_))); (case side2 => exact HC364.out); (case side3 => exact GT.below HG.out (by repeat (first | (with_reducible first | exact HB.out | apply below_alloc | apply pw_below_drewN | apply below_drew1) | exact HB.out))); rintro e w131 ⟨v368, rfl, ho0, hb⟩; refine ⟨_, rfl, ?_⟩; have n0_ := Aside0.mk (Kd.R_below (by (with_reducible repeat (first | apply Kd.R_alloc | apply Kd.R_drewN | apply Kd.R_drew)); exact HO_5.out) hb); have n1_ := Aside0.mk (Kd.R_below (by (with_reducible repeat (first | apply Kd.R_alloc | apply Kd.R_drewN | apply Kd.R_drew)); exact HO_6.out) hb); have n2_ := Aside0.mk (Kd.S_lower (Kd.S_new' ho0 (Kd.R_lt (by (with_reducible repeat (first | apply Kd.R_alloc | apply Kd.R_drewN | apply Kd.R_drew)); exact HO_5.out))) (below_size (by repeat (first | (with_reducible first | exact HB.out | apply below_alloc | apply pw_below_drewN | apply below_drew1) | exact HB.out)))); have n3_ := Aside0.mk (Kd.C_below (by repeat (first | (with_reducible exact HR364.out) | (with_reducible refine Kd.C_alloc ?_ _) | (with_reducible refine Kd.C_drewN ?_ _) | (with_reducible refine Kd.C_drew ?_) | exact HR364.out)) hb); have n4_ := Aside0.mk (below_step (by repeat (first | (with_reducible first | exact HB.out | apply below_alloc | apply pw_below_drewN | apply below_drew1) | exact HB.out)) hb); clear HO_5; clear HO_6; clear HR364; clear HB; have HO_5 := n0_; have HO_6 := n1_; have HO369 := n2_; have HR364 := n3_; have HB := n4_; clear n0_ n1_ n2_ n3_ n4_; (try clear hb); (try clear hb2); (try clear hk); (try clear hi); (try clear ho0); have q132 : (x16_3 : Int) ≤ ((l0.length : Int) : Int) := of_decide_eq_true (by first | (with_reducible assumption) | assumption); obtain ⟨i0132, hi0132, _, hsz132, _⟩ := info_parts info22; have hroom132 : l0.length ≤ c0 := HC0.out; have hC132 : Kd.C (Kd.slice 5 (Kd.int .u8)) _ A0 l0.length l0 := HR0.out; have hcut132 := cut_to (P := Tryd.prog) 37 22 .i64 Tryd.underlying37 hi0132 A0 l0.length c0 x16_3 (of_decide_eq_true (by first | (with_reducible assumption) | assumption)) q132 hroom132; have hr132 := Kd.C_take (m := (x16_3 : Int).toNat) hC132 (by omega); have hy132 : y370.length = (x16_3 : Int).toNat := (by rw [Ny370.out, List.length_take]; omega); rw [← Ny370.out] at hr132; rw [← hy132] at hcut132; have HR373 := Aside0.mk hr132; have HC373 := Aside0.mk (show y370.length ≤ c0 from by omega); clear hr132 hC132 hroom132 hi0132 hsz132; have KY132 := Aside0.mk hy132; clear hy132; replace q132 := eq_true q132; obtain ⟨Ao133, co133, eo133⟩ := Kd.S_slice HO369.out; subst eo133) | ((with_reducible refine gate_callee (f := 24) rfl ?_); refine goesL_ (some 127) rfl rfl Tryd.func24 (by kernel_rfl) rfl #[.slice Ao133 t365.length co133, .slice A0 y370.length c0] rfl (by (try simp only [List.map_toArray, List.map_cons, List.map_nil]); first | done | rfl | (simp only [List.length_drop, List.length_take]; rfl)) ?_; (with_reducible refine (dragnetref01_Lists.calls k3 _ _ t365 _ _ y370 true _ ?side1 ?side2 ?side3 ?side4 A105.out).mono ?_); (case side1 => repeat (first | exact (Kd.S_reads' HO369.out).2.2 | (with_reducible refine Kd.C_alloc ?_ _) | (with_reducible refine Kd.C_drewN ?_ _) | (with_reducible refine Kd.C_drew ?_))); (case side2 => exact (Kd.S_reads' HO369.out).2.1); (case side3 => repeat (first | exact (Kd.C_below HR373.out HB.out) | (with_reducible refine Kd.C_alloc ?_ _) | (with_reducible refine Kd.C_drewN ?_ _) | (with_reducible refine Kd.C_drew ?_))); (case side4 => exact HC373.out); rintro e w134 ⟨rfl, hb⟩; refine ⟨_, rfl, ?_⟩; have n0_ := Aside0.mk (Kd.R_below (by (with_reducible repeat (first | apply Kd.R_alloc | apply Kd.R_drewN | apply Kd.R_drew)); exact HO_5.out) hb); have n1_ := Aside0.mk (Kd.R_below (by (with_reducible repeat (first | apply Kd.R_alloc | apply Kd.R_drewN | apply Kd.R_drew)); exact HO_6.out) hb); have n2_ := Aside0.mk (Kd.S_below (by (with_reducible repeat (first | apply Kd.S_alloc | apply Kd.S_drewN | apply Kd.S_drew)); exact HO369.out) hb); have n3_ := Aside0.mk (Kd.C_below (by repeat (first | (with_reducible exact HR364.out) | (with_reducible refine Kd.C_alloc ?_ _) | (with_reducible refine Kd.C_drewN ?_ _) | (with_reducible refine Kd.C_drew ?_) | exact HR364.out)) hb); have n4_ := Aside0.mk (below_step (by repeat (first | (with_reducible first | exact HB.out | apply below_alloc | apply pw_below_drewN | apply below_drew1) | exact HB.out)) hb); clear HO_5; clear HO_6; clear HO369; clear HR364; clear HB; have HO_5 := n0_; have HO_6 := n1_; have HO369 := n2_; have HR364 := n3_; have HB := n4_; clear n0_ n1_ n2_ n3_ n4_; (try clear hb); (try clear hb2); (try clear hk); (try clear hi)))
                                          go_ret
                                          exact ⟨by first | rfl | (simp [errW_none, errW_some] <;> rfl) | (simp only [← hji99]; first | rfl | (simp [errW_none, errW_some] <;> rfl)) | (simp [*, errW_none, errW_some] <;> rfl), by repeat (first | (with_reducible first | exact HB.out | apply below_alloc | apply pw_below_drewN | apply below_drew1) | exact HB.out)⟩
                                    · rw [if_neg c107] at H
                                      have c107b0 : (t366 == x17_3) = false := beq_eq_false_iff_ne.mpr c107
                                      have c107b1 : (t366 != x17_3) = true := bne_iff_ne.mpr c107
                                      obtain rfl := Option.some.inj H
                                      obtain ⟨Ao135, co135, eo135⟩ := Kd.R_slice HO_6.out
                                      subst eo135
                                      have q136 : ((ji99) : Int) ≤ ((x5_1.length : Int) : Int) := of_decide_eq_true (by first | (with_reducible assumption) | assumption)
                                      obtain ⟨i0136, hi0136, _, hsz136, _⟩ := info_parts info5
                                      have hroom136 : x5_1.length ≤ co38 := (Kd.R_reads' HO_5.out).2.1
                                      have hC136 : Kd.C (Kd.int .u8) _ Ao38 x5_1.length x5_1 := (Kd.R_reads' HO_5.out).2.2
                                      have hcut136 := cut_to (P := Tryd.prog) 22 5 .i64 Tryd.underlying22 hi0136 Ao38 x5_1.length co38 (ji99) (of_decide_eq_true (by first | (with_reducible assumption) | assumption)) q136 hroom136
                                      have hr136 := Kd.C_take (m := ((ji99) : Int).toNat) hC136 (by omega)
                                      have hy136 : y361.length = ((ji99) : Int).toNat := (by rw [Ny361.out, List.length_take]; omega)
                                      rw [← Ny361.out] at hr136
                                      rw [← hy136] at hcut136
                                      have HR364 := Aside0.mk hr136
                                      have HC364 := Aside0.mk (show y361.length ≤ co38 from by omega)
                                      clear hr136 hC136 hroom136 hi0136 hsz136
                                      have KY136 := Aside0.mk hy136
                                      clear hy136
                                      have KL136 := Aside0.mk (show ((ji99) : Int).toNat ≤ x5_1.length from by omega)
                                      replace q136 := eq_true q136
                                      go_wp2_with (first | ((with_reducible refine gate_callee (f := 22) rfl ?_); refine goesL_ (some 119) rfl rfl Tryd.func22 (by kernel_rfl) rfl #[.slice Ao38 y361.length co38] rfl (by (try simp only [List.map_toArray, List.map_cons, List.map_nil]); first | done | rfl | (simp only [List.length_drop, List.length_take]; rfl)) ?_; (with_reducible refine (crc_Split.calls k3 _ _ y361 t365 t366 t367 _ ?side1 ?side2 ?side3 A102.out).mono ?_); (case side1 => repeat (first | exact (by repeat (first | (with_reducible exact HR364.out) | (with_reducible refine Kd.C_alloc ?_ _) | (with_reducible refine Kd.C_drewN ?_ _) | (with_reducible refine Kd.C_drew ?_) | exact HR364.out)) | (with_reducible refine Kd.C_alloc ?_ _) | (with_reducible refine Kd.C_drewN ?_ _) | (with_reducible refine Kd.C_drew ?_))); (case side2 => exact HC364.out); (case side3 => exact GT.below HG.out (by repeat (first | (with_reducible first | exact HB.out | apply below_alloc | apply pw_below_drewN | apply below_drew1) | exact HB.out))); rintro e w137 ⟨v368, rfl, ho0, hb⟩; refine ⟨_, rfl, ?_⟩; have n0_ := Aside0.mk (Kd.R_below (by (with_reducible repeat (first | apply Kd.R_alloc | apply Kd.R_drewN | apply Kd.R_drew)); exact HO_5.out) hb); have n1_ := Aside0.mk (Kd.R_below (by (with_reducible repeat (first | apply Kd.R_alloc | apply Kd.R_drewN | apply Kd.R_drew)); exact HO_6.out) hb); have n2_ := Aside0.mk (Kd.S_lower (Kd.S_new' ho0 (Kd.R_lt (by (with_reducible repeat (first | apply Kd.R_alloc | apply Kd.R_drewN | apply Kd.R_drew)); exact HO_5.out))) (below_size (by repeat (first | (with_reducible first | exact HB.out | apply below_alloc | apply pw_below_drewN | apply below_drew1) | exact HB.out)))); have n3_ := Aside0.mk (Kd.C_below (by repeat (first | (with_reducible exact HR364.out) | (with_reducible refine Kd.C_alloc ?_ _) | (with_reducible refine Kd.C_drewN ?_ _) | (with_reducible refine Kd.C_drew ?_) | exact HR364.out)) hb); have n4_ := Aside0.mk (below_step (by repeat (first | (with_reducible first | exact HB.out | apply below_alloc | apply pw_below_drewN | apply below_drew1) | exact HB.out)) hb); clear HO_5; clear HO_6; clear HR364; clear HB; have HO_5 := n0_; have HO_6 := n1_; have HO369 := n2_; have HR364 := n3_; have HB := n4_; clear n0_ n1_ n2_ n3_ n4_; (try clear hb); (try clear hb2); (try clear hk); (try clear hi); (try clear ho0); have q138 : (x16_3 : Int) ≤ ((l0.length : Int) : Int) := of_decide_eq_true (by first | (with_reducible assumption) | assumption); obtain ⟨i0138, hi0138, _, hsz138, _⟩ := info_parts info22; have hroom138 : l0.length ≤ c0 := HC0.out; have hC138 : Kd.C (Kd.slice 5 (Kd.int .u8)) _ A0 l0.length l0 := HR0.out; have hcut138 := cut_to (P := Tryd.prog) 37 22 .i64 Tryd.underlying37 hi0138 A0 l0.length c0 x16_3 (of_decide_eq_true (by first | (with_reducible assumption) | assumption)) q138 hroom138; have hr138 := Kd.C_take (m := (x16_3 : Int).toNat) hC138 (by omega); have hy138 : y370.length = (x16_3 : Int).toNat := (by rw [Ny370.out, List.length_take]; omega); rw [← Ny370.out] at hr138; rw [← hy138] at hcut138; have HR373 := Aside0.mk hr138; have HC373 := Aside0.mk (show y370.length ≤ c0 from by omega); clear hr138 hC138 hroom138 hi0138 hsz138; have KY138 := Aside0.mk hy138; clear hy138; replace q138 := eq_true q138; obtain ⟨Ao139, co139, eo139⟩ := Kd.S_slice HO369.out; subst eo139) | ((with_reducible refine gate_callee (f := 24) rfl ?_); refine goesL_ (some 127) rfl rfl Tryd.func24 (by kernel_rfl) rfl #[.slice Ao139 t365.length co139, .slice A0 y370.length c0] rfl (by (try simp only [List.map_toArray, List.map_cons, List.map_nil]); first | done | rfl | (simp only [List.length_drop, List.length_take]; rfl)) ?_; (with_reducible refine (dragnetref01_Lists.calls k3 _ _ t365 _ _ y370 true _ ?side1 ?side2 ?side3 ?side4 A105.out).mono ?_); (case side1 => repeat (first | exact (Kd.S_reads' HO369.out).2.2 | (with_reducible refine Kd.C_alloc ?_ _) | (with_reducible refine Kd.C_drewN ?_ _) | (with_reducible refine Kd.C_drew ?_))); (case side2 => exact (Kd.S_reads' HO369.out).2.1); (case side3 => repeat (first | exact (Kd.C_below HR373.out HB.out) | (with_reducible refine Kd.C_alloc ?_ _) | (with_reducible refine Kd.C_drewN ?_ _) | (with_reducible refine Kd.C_drew ?_))); (case side4 => exact HC373.out); rintro e w140 ⟨rfl, hb⟩; refine ⟨_, rfl, ?_⟩; have n0_ := Aside0.mk (Kd.R_below (by (with_reducible repeat (first | apply Kd.R_alloc | apply Kd.R_drewN | apply Kd.R_drew)); exact HO_5.out) hb); have n1_ := Aside0.mk (Kd.R_below (by (with_reducible repeat (first | apply Kd.R_alloc | apply Kd.R_drewN | apply Kd.R_drew)); exact HO_6.out) hb); have n2_ := Aside0.mk (Kd.S_below (by (with_reducible repeat (first | apply Kd.S_alloc | apply Kd.S_drewN | apply Kd.S_drew)); exact HO369.out) hb); have n3_ := Aside0.mk (Kd.C_below (by repeat (first | (with_reducible exact HR364.out) | (with_reducible refine Kd.C_alloc ?_ _) | (with_reducible refine Kd.C_drewN ?_ _) | (with_reducible refine Kd.C_drew ?_) | exact HR364.out)) hb); have n4_ := Aside0.mk (below_step (by repeat (first | (with_reducible first | exact HB.out | apply below_alloc | apply pw_below_drewN | apply below_drew1) | exact HB.out)) hb); clear HO_5; clear HO_6; clear HO369; clear HR364; clear HB; have HO_5 := n0_; have HO_6 := n1_; have HO369 := n2_; have HR364 := n3_; have HB := n4_; clear n0_ n1_ n2_ n3_ n4_; (try clear hb); (try clear hb2); (try clear hk); (try clear hi)))
                                      go_ret
                                      exact ⟨by first | rfl | (simp [errW_none, errW_some] <;> rfl) | (simp only [← hji99]; first | rfl | (simp [errW_none, errW_some] <;> rfl)) | (simp [*, errW_none, errW_some] <;> rfl), by repeat (first | (with_reducible first | exact HB.out | apply below_alloc | apply pw_below_drewN | apply below_drew1) | exact HB.out)⟩
                                  · replace c106 := Bool.eq_false_iff.mpr c106
                                    subst c106
                                    have H1 : (some false) = some r := by rw [if_neg (show ¬ (false = true) by decide)] at H; exact H
                                    clear H
                                    have H := H1
                                    clear H1
                                    obtain rfl := Option.some.inj H
                                    obtain ⟨Ao141, co141, eo141⟩ := Kd.R_slice HO_6.out
                                    subst eo141
                                    have q142 : ((ji99) : Int) ≤ ((x5_1.length : Int) : Int) := of_decide_eq_true (by first | (with_reducible assumption) | assumption)
                                    obtain ⟨i0142, hi0142, _, hsz142, _⟩ := info_parts info5
                                    have hroom142 : x5_1.length ≤ co38 := (Kd.R_reads' HO_5.out).2.1
                                    have hC142 : Kd.C (Kd.int .u8) _ Ao38 x5_1.length x5_1 := (Kd.R_reads' HO_5.out).2.2
                                    have hcut142 := cut_to (P := Tryd.prog) 22 5 .i64 Tryd.underlying22 hi0142 Ao38 x5_1.length co38 (ji99) (of_decide_eq_true (by first | (with_reducible assumption) | assumption)) q142 hroom142
                                    have hr142 := Kd.C_take (m := ((ji99) : Int).toNat) hC142 (by omega)
                                    have hy142 : y361.length = ((ji99) : Int).toNat := (by rw [Ny361.out, List.length_take]; omega)
                                    rw [← Ny361.out] at hr142
                                    rw [← hy142] at hcut142
                                    have HR364 := Aside0.mk hr142
                                    have HC364 := Aside0.mk (show y361.length ≤ co38 from by omega)
                                    clear hr142 hC142 hroom142 hi0142 hsz142
                                    have KY142 := Aside0.mk hy142
                                    clear hy142
                                    have KL142 := Aside0.mk (show ((ji99) : Int).toNat ≤ x5_1.length from by omega)
                                    replace q142 := eq_true q142
                                    go_wp2_with (first | ((with_reducible refine gate_callee (f := 22) rfl ?_); refine goesL_ (some 119) rfl rfl Tryd.func22 (by kernel_rfl) rfl #[.slice Ao38 y361.length co38] rfl (by (try simp only [List.map_toArray, List.map_cons, List.map_nil]); first | done | rfl | (simp only [List.length_drop, List.length_take]; rfl)) ?_; (with_reducible refine (crc_Split.calls k3 _ _ y361 t365 t366 t367 _ ?side1 ?side2 ?side3 A102.out).mono ?_); (case side1 => repeat (first | exact (by repeat (first | (with_reducible exact HR364.out) | (with_reducible refine Kd.C_alloc ?_ _) | (with_reducible refine Kd.C_drewN ?_ _) | (with_reducible refine Kd.C_drew ?_) | exact HR364.out)) | (with_reducible refine Kd.C_alloc ?_ _) | (with_reducible refine Kd.C_drewN ?_ _) | (with_reducible refine Kd.C_drew ?_))); (case side2 => exact HC364.out); (case side3 => exact GT.below HG.out (by repeat (first | (with_reducible first | exact HB.out | apply below_alloc | apply pw_below_drewN | apply below_drew1) | exact HB.out))); rintro e w143 ⟨v368, rfl, ho0, hb⟩; refine ⟨_, rfl, ?_⟩; have n0_ := Aside0.mk (Kd.R_below (by (with_reducible repeat (first | apply Kd.R_alloc | apply Kd.R_drewN | apply Kd.R_drew)); exact HO_5.out) hb); have n1_ := Aside0.mk (Kd.R_below (by (with_reducible repeat (first | apply Kd.R_alloc | apply Kd.R_drewN | apply Kd.R_drew)); exact HO_6.out) hb); have n2_ := Aside0.mk (Kd.S_lower (Kd.S_new' ho0 (Kd.R_lt (by (with_reducible repeat (first | apply Kd.R_alloc | apply Kd.R_drewN | apply Kd.R_drew)); exact HO_5.out))) (below_size (by repeat (first | (with_reducible first | exact HB.out | apply below_alloc | apply pw_below_drewN | apply below_drew1) | exact HB.out)))); have n3_ := Aside0.mk (Kd.C_below (by repeat (first | (with_reducible exact HR364.out) | (with_reducible refine Kd.C_alloc ?_ _) | (with_reducible refine Kd.C_drewN ?_ _) | (with_reducible refine Kd.C_drew ?_) | exact HR364.out)) hb); have n4_ := Aside0.mk (below_step (by repeat (first | (with_reducible first | exact HB.out | apply below_alloc | apply pw_below_drewN | apply below_drew1) | exact HB.out)) hb); clear HO_5; clear HO_6; clear HR364; clear HB; have HO_5 := n0_; have HO_6 := n1_; have HO369 := n2_; have HR364 := n3_; have HB := n4_; clear n0_ n1_ n2_ n3_ n4_; (try clear hb); (try clear hb2); (try clear hk); (try clear hi); (try clear ho0); have q144 : (x16_3 : Int) ≤ ((l0.length : Int) : Int) := of_decide_eq_true (by first | (with_reducible assumption) | assumption); obtain ⟨i0144, hi0144, _, hsz144, _⟩ := info_parts info22; have hroom144 : l0.length ≤ c0 := HC0.out; have hC144 : Kd.C (Kd.slice 5 (Kd.int .u8)) _ A0 l0.length l0 := HR0.out; have hcut144 := cut_to (P := Tryd.prog) 37 22 .i64 Tryd.underlying37 hi0144 A0 l0.length c0 x16_3 (of_decide_eq_true (by first | (with_reducible assumption) | assumption)) q144 hroom144; have hr144 := Kd.C_take (m := (x16_3 : Int).toNat) hC144 (by omega); have hy144 : y370.length = (x16_3 : Int).toNat := (by rw [Ny370.out, List.length_take]; omega); rw [← Ny370.out] at hr144; rw [← hy144] at hcut144; have HR373 := Aside0.mk hr144; have HC373 := Aside0.mk (show y370.length ≤ c0 from by omega); clear hr144 hC144 hroom144 hi0144 hsz144; have KY144 := Aside0.mk hy144; clear hy144; replace q144 := eq_true q144; obtain ⟨Ao145, co145, eo145⟩ := Kd.S_slice HO369.out; subst eo145) | ((with_reducible refine gate_callee (f := 24) rfl ?_); refine goesL_ (some 127) rfl rfl Tryd.func24 (by kernel_rfl) rfl #[.slice Ao145 t365.length co145, .slice A0 y370.length c0] rfl (by (try simp only [List.map_toArray, List.map_cons, List.map_nil]); first | done | rfl | (simp only [List.length_drop, List.length_take]; rfl)) ?_; (with_reducible refine (dragnetref01_Lists.calls k3 _ _ t365 _ _ y370 false _ ?side1 ?side2 ?side3 ?side4 A105.out).mono ?_); (case side1 => repeat (first | exact (Kd.S_reads' HO369.out).2.2 | (with_reducible refine Kd.C_alloc ?_ _) | (with_reducible refine Kd.C_drewN ?_ _) | (with_reducible refine Kd.C_drew ?_))); (case side2 => exact (Kd.S_reads' HO369.out).2.1); (case side3 => repeat (first | exact (Kd.C_below HR373.out HB.out) | (with_reducible refine Kd.C_alloc ?_ _) | (with_reducible refine Kd.C_drewN ?_ _) | (with_reducible refine Kd.C_drew ?_))); (case side4 => exact HC373.out); rintro e w146 ⟨rfl, hb⟩; refine ⟨_, rfl, ?_⟩; have n0_ := Aside0.mk (Kd.R_below (by (with_reducible repeat (first | apply Kd.R_alloc | apply Kd.R_drewN | apply Kd.R_drew)); exact HO_5.out) hb); have n1_ := Aside0.mk (Kd.R_below (by (with_reducible repeat (first | apply Kd.R_alloc | apply Kd.R_drewN | apply Kd.R_drew)); exact HO_6.out) hb); have n2_ := Aside0.mk (Kd.S_below (by (with_reducible repeat (first | apply Kd.S_alloc | apply Kd.S_drewN | apply Kd.S_drew)); exact HO369.out) hb); have n3_ := Aside0.mk (Kd.C_below (by repeat (first | (with_reducible exact HR364.out) | (with_reducible refine Kd.C_alloc ?_ _) | (with_reducible refine Kd.C_drewN ?_ _) | (with_reducible refine Kd.C_drew ?_) | exact HR364.out)) hb); have n4_ := Aside0.mk (below_step (by repeat (first | (with_reducible first | exact HB.out | apply below_alloc | apply pw_below_drewN | apply below_drew1) | exact HB.out)) hb); clear HO_5; clear HO_6; clear HO369; clear HR364; clear HB; have HO_5 := n0_; have HO_6 := n1_; have HO369 := n2_; have HR364 := n3_; have HB := n4_; clear n0_ n1_ n2_ n3_ n4_; (try clear hb); (try clear hb2); (try clear hk); (try clear hi)))
                                    go_ret
                                    exact ⟨by first | rfl | (simp [errW_none, errW_some] <;> rfl) | (simp only [← hji99]; first | rfl | (simp [errW_none, errW_some] <;> rfl)) | (simp [*, errW_none, errW_some] <;> rfl), by repeat (first | (with_reducible first | exact HB.out | apply below_alloc | apply pw_below_drewN | apply below_drew1) | exact HB.out)⟩
                                · rw [if_neg c104] at H
                                  exact absurd H (by simp)
                              · rw [if_neg c103] at H
                                exact absurd H (by simp)
                            · rw [if_neg c101] at H
                              exact absurd H (by simp)
                          · rw [if_neg c100] at H
                            exact absurd H (by simp)
  · replace c4 := Bool.eq_false_iff.mpr c4
    subst c4
    have H1 : (some false) = some r := by rw [if_neg (show ¬ (false = true) by decide)] at H; exact H
    clear H
    have H := H1
    clear H1
    obtain rfl := Option.some.inj H
    go_enter Tryd.func9, Tryd.ntmps9
    go_wp2_with (first | ((with_reducible refine gate_callee (f := 10) rfl ?_); refine goesL_ (some 18) rfl rfl Tryd.func10 (by kernel_rfl) rfl #[] rfl (by (try simp only [List.map_toArray, List.map_cons, List.map_nil]); first | done | rfl | (simp only [List.length_drop, List.length_take]; rfl)) ?_; (with_reducible refine (dragnetlaw01_alive.calls  false _ ?side1 A3.out).mono ?_); (case side1 => exact GT.below HG.out (by repeat (first | (with_reducible first | exact HB.out | apply below_alloc | apply pw_below_drewN | apply below_drew1) | exact HB.out))); rintro e w147 ⟨rfl, hb⟩; refine ⟨_, rfl, ?_⟩; have n0_ := Aside0.mk (below_step (by repeat (first | (with_reducible first | exact HB.out | apply below_alloc | apply pw_below_drewN | apply below_drew1) | exact HB.out)) hb); clear HB; have HB := n0_; clear n0_; (try clear hb); (try clear hb2); (try clear hk); (try clear hi)))
    go_ret
    exact ⟨by first | rfl | (simp [errW_none, errW_some] <;> rfl) | (simp [*, errW_none, errW_some] <;> rfl), by repeat (first | (with_reducible first | exact HB.out | apply below_alloc | apply pw_below_drewN | apply below_drew1) | exact HB.out)⟩

end Go.Proofs.YtoliinokdbppoaaDoor.P
