/- Walks: each Go function that is told here comes to what the plain function beside it says, wherever that one answers. Written by a program of this session (wip/tools/pr.sh), after the manner of print.sh. -/
import Derived.Test.YtopjdjljpkcdlaaCx0
import Derived.Test.YtopjdjljpkcdlaaCx4
import Derived.Test.YtopjdjljpkcdlaaCx7
namespace Go.Proofs.Ytopjdjljpkcdlaa.C
open Go.RowKit Go.Proofs.YtopjdjljpkcdlaaW.PrintWords Go.Proofs.YtopjdjljpkcdlaaW.PrintLast Go.Proofs.YtopjdjljpkcdlaaW.PrintMore
attribute [local go_sem] max2_int min2_int max_two min_two max_three min_three max_four min_four   -- for this text's walks alone
set_option linter.unusedVariables false
set_option linter.unusedSimpArgs false
attribute [local go_sem] gtr_str leq_str geq_str

/-! ### dragnetref16_Crash: function 18 -/
mutual
def dragnetref16_Crash.l0 : Nat → List (S59) → Int → Int → List (S61) → Option (Int × (List (S61)) × Int)
  | 0, _, _, _, _ => none
  | k + 1, x1, x7, x156000, x156001 => if x7 < (x156001.length : Int) then (dragnetref16_Crash.l1 k x1 x7 0 0 x156000 x156001) else (some (x156000, x156001, 0))
def dragnetref16_Crash.l1 : Nat → List (S59) → Int → Int → Int → Int → List (S61) → Option (Int × (List (S61)) × Int)
  | 0, _, _, _, _, _, _ => none
  | k + 1, x1, x7, x8, x9, x156000, x156001 => if x9 < (x1.length : Int) then (if 0 ≤ x9 then (if 0 ≤ x7 then (if x7 < (x156001.length : Int) then (if ((rd_T59 x1 x9).f0).toList = ((rd_T61 x156001 x7).f0).toList then (dragnetref16_Crash.l1 k x1 x7 (mx 0 ((rd_T59 x1 x9).f1)) (wrap64 (x9 + 1)) x156000 x156001) else (dragnetref16_Crash.l1 k x1 x7 x8 (wrap64 (x9 + 1)) x156000 x156001)) else (none)) else (none)) else (none)) else (if 0 ≤ x7 then (if x7 < (x156001.length : Int) then (if 0 ≤ (wrap64 (((rd_T61 x156001 x7).f2) + (mn x8 (wrap64 ((((rd_T61 x156001 x7).f1).length : Int) - ((rd_T61 x156001 x7).f2)))))) then (if (wrap64 (((rd_T61 x156001 x7).f2) + (mn x8 (wrap64 ((((rd_T61 x156001 x7).f1).length : Int) - ((rd_T61 x156001 x7).f2)))))) ≤ (((rd_T61 x156001 x7).f1).length : Int) then ((some (x156001.set (x7 : Int).toNat (⟨(rd_T61 x156001 x7).f0, (((rd_T61 x156001 x7).f1).take ((wrap64 (((rd_T61 x156001 x7).f2) + (mn x8 (wrap64 ((((rd_T61 x156001 x7).f1).length : Int) - ((rd_T61 x156001 x7).f2)))))) : Int).toNat), (rd_T61 x156001 x7).f2⟩ : S61) : List (S61))).bind fun y163 => (dragnetref16_Crash.l0 k x1 (wrap64 (x7 + 1)) x156000 (y163.set (x7 : Int).toNat (⟨(rd_T61 y163 x7).f0, (rd_T61 y163 x7).f1, wrap64 (((rd_T61 x156001 x7).f2) + (mn x8 (wrap64 ((((rd_T61 x156001 x7).f1).length : Int) - ((rd_T61 x156001 x7).f2)))))⟩ : S61)))) else (none)) else (none)) else (none)) else (none))
end
def dragnetref16_Crash.f (k : Nat) (a0_0 : Int) (l0_1 : List (S61)) (l1 : List (S59)) : Option (Int × (List (S61)) × Int) := (dragnetref16_Formed.f a0_0 l0_1).bind fun t150 => (if t150 = true then ((dragnetref16_Copy.f k a0_0 l0_1).bind fun bt151 => (dragnetref16_Crash.l0 k l1 0 bt151.1 bt151.2)) else (some (0, ([] : List (S61)), 1)))
theorem dragnetref16_Crash.mono_l : ∀ k, (∀ y0 y1 y2 y3, LeO (dragnetref16_Crash.l0 k y0 y1 y2 y3) (dragnetref16_Crash.l0 (k + 1) y0 y1 y2 y3)) ∧ (∀ y0 y1 y2 y3 y4 y5, LeO (dragnetref16_Crash.l1 k y0 y1 y2 y3 y4 y5) (dragnetref16_Crash.l1 (k + 1) y0 y1 y2 y3 y4 y5))
  | 0 => ⟨fun _ _ _ _ r h => by simp [dragnetref16_Crash.l0] at h, fun _ _ _ _ _ _ r h => by simp [dragnetref16_Crash.l1] at h⟩
  | k + 1 => by
    obtain ⟨ih0, ih1⟩ := dragnetref16_Crash.mono_l k
    refine ⟨?_, ?_⟩
    · intro y0 y1 y2 y3
      unfold dragnetref16_Crash.l0
      repeat' first
      | (with_reducible exact ih0 _ _ _ _)
      | (with_reducible exact ih1 _ _ _ _ _ _)
      | (with_reducible exact dragnetref16_Copy.mono _ _ _)
      | (with_reducible exact LeO.refl _)
      | (with_reducible exact LeO.none _)
      | (with_reducible refine LeO.ite ?_ ?_)
      | (with_reducible refine LeO.bind ?_ (fun _ => ?_))
      | exact ih0 _ _ _ _
      | exact ih1 _ _ _ _ _ _
      | exact dragnetref16_Copy.mono _ _ _
      | exact LeO.none _
      | refine LeO.ite ?_ ?_
      | refine LeO.bind ?_ (fun _ => ?_)
    · intro y0 y1 y2 y3 y4 y5
      unfold dragnetref16_Crash.l1
      repeat' first
      | (with_reducible exact ih0 _ _ _ _)
      | (with_reducible exact ih1 _ _ _ _ _ _)
      | (with_reducible exact dragnetref16_Copy.mono _ _ _)
      | (with_reducible exact LeO.refl _)
      | (with_reducible exact LeO.none _)
      | (with_reducible refine LeO.ite ?_ ?_)
      | (with_reducible refine LeO.bind ?_ (fun _ => ?_))
      | exact ih0 _ _ _ _
      | exact ih1 _ _ _ _ _ _
      | exact dragnetref16_Copy.mono _ _ _
      | exact LeO.none _
      | refine LeO.ite ?_ ?_
      | refine LeO.bind ?_ (fun _ => ?_)
theorem dragnetref16_Crash.mono : ∀ a0 a1 a2 k, LeO (dragnetref16_Crash.f k a0 a1 a2) (dragnetref16_Crash.f (k + 1) a0 a1 a2) := by
  intro a0 a1 a2 k
  obtain ⟨ih0, ih1⟩ := dragnetref16_Crash.mono_l k
  unfold dragnetref16_Crash.f
  repeat' first
      | (with_reducible exact ih0 _ _ _ _)
      | (with_reducible exact ih1 _ _ _ _ _ _)
      | (with_reducible exact dragnetref16_Copy.mono _ _ _)
      | (with_reducible exact LeO.refl _)
      | (with_reducible exact LeO.none _)
      | (with_reducible refine LeO.ite ?_ ?_)
      | (with_reducible refine LeO.bind ?_ (fun _ => ?_))
      | exact ih0 _ _ _ _
      | exact ih1 _ _ _ _ _ _
      | exact dragnetref16_Copy.mono _ _ _
      | exact LeO.none _
      | refine LeO.ite ?_ ?_
      | refine LeO.bind ?_ (fun _ => ?_)
def dragnetref16_Crash.T11 : Bool × List (List Nat × List Nat) := (true, [([], []), ([], []), ([0, 1], [0, 1]), ([2], [2]), ([3], [3]), ([], []), ([5], [5]), ([], []), ([6, 7], [6, 7]), ([8], [8]), ([9], [9]), ([4, 10], [4, 10])])
def dragnetref16_Crash.B11 : List Nat := [0, 0, 3, 7, 15, 0, 32, 0, 224, 480, 992, 2047]
theorem dragnetref16_Crash.tab11 : rtab .any (opsOf Try.f18 11) = dragnetref16_Crash.T11 := by kernel_rfl
theorem dragnetref16_Crash.bits11 : waitsOk dragnetref16_Crash.T11.2 dragnetref16_Crash.B11 = true := by kernel_rfl
def dragnetref16_Crash.T15 : Bool × List (List Nat × List Nat) := (true, [([], []), ([0], [0]), ([], []), ([], []), ([3], [3]), ([], []), ([5], [5]), ([], []), ([6, 7], [6, 7]), ([4, 8], [4, 8]), ([1, 2, 0, 1, 2, 3, 4, 5, 6, 7, 8, 9], [1, 2]), ([10, 0, 1, 2, 3, 4, 5, 6, 7, 8, 9], [10]), ([11, 9, 0, 1, 2, 3, 4, 5, 6, 7, 8, 9], [9, 11])])
def dragnetref16_Crash.B15 : List Nat := [0, 1, 0, 0, 8, 0, 32, 0, 224, 504, 1023, 2047, 4095]
theorem dragnetref16_Crash.tab15 : rtab .any (opsOf Try.f18 15) = dragnetref16_Crash.T15 := by kernel_rfl
theorem dragnetref16_Crash.bits15 : waitsOk dragnetref16_Crash.T15.2 dragnetref16_Crash.B15 = true := by kernel_rfl
set_option maxHeartbeats 8000000 in
set_option maxRecDepth 100000 in
theorem dragnetref16_Crash.calls (k : Nat) (a0_0 : Int) (A0_1 : Option Addr) (c0_1 : Nat) (l0_1 : List (S61)) (A1 : Option Addr) (c1 : Nat) (l1 : List (S59)) (r1 : Int) (r2 : List (S61)) (r3 : Int) (w : World) (hr0_1 : Kd.C k61 w A0_1 l0_1.length l0_1) (hc0_1 : l0_1.length ≤ c0_1) (hr1 : Kd.C k59 w A1 l1.length l1) (hc1 : l1.length ≤ c1) (h : dragnetref16_Crash.f k a0_0 l0_1 l1 = some (r1, r2, r3)) :
    Calls Try.prog 18 #[.agg #[.int .i64 a0_0, .slice A0_1 l0_1.length c0_1], .slice A1 l1.length c1] w fun e w' => ∃ v1_ : Value, e = .returned (.tuple #[.agg #[.int .i64 r1, v1_], .int .i64 r3]) ∧ Kd.N k61 61 w' w.heap.size (fun k_ => (w.heap.size ≤ k_)) v1_ r2 ∧ Below w.heap.size w w' := by
  have hu24 := Try.underlying24
  have hu61 := Try.underlying61
  have HR0_1 := Aside0.mk hr0_1
  have HC0_1 := Aside0.mk hc0_1
  clear hr0_1 hc0_1
  have HR1 := Aside0.mk hr1
  have HC1 := Aside0.mk hc1
  clear hr1 hc1
  have HB := Aside0.mk (Below.refl w.heap.size w)
  have H : ((dragnetref16_Formed.f a0_0 l0_1).bind fun t150 => (if t150 = true then ((dragnetref16_Copy.f k a0_0 l0_1).bind fun bt151 => (dragnetref16_Crash.l0 k l1 0 bt151.1 bt151.2)) else (some (0, ([] : List (S61)), 1)))) = some (r1, r2, r3) := h
  clear h
  replace H := Option.bind_eq_some_iff.mp H
  obtain ⟨t150, A30, H⟩ := H
  replace H : (if t150 = true then ((dragnetref16_Copy.f k a0_0 l0_1).bind fun bt151 => (dragnetref16_Crash.l0 k l1 0 bt151.1 bt151.2)) else (some (0, ([] : List (S61)), 1))) = some (r1, r2, r3) := H
  have A3 := Aside0.mk A30
  clear A30
  by_cases c4 : t150 = true
  · subst c4
    have H1 : ((dragnetref16_Copy.f k a0_0 l0_1).bind fun bt151 => (dragnetref16_Crash.l0 k l1 0 bt151.1 bt151.2)) = some (r1, r2, r3) := by rw [if_pos rfl] at H; exact H
    clear H
    have H := H1
    clear H1
    replace H := Option.bind_eq_some_iff.mp H
    obtain ⟨⟨t151, t152⟩, A50, H⟩ := H
    replace H : (dragnetref16_Crash.l0 k l1 0 t151 t152) = some (r1, r2, r3) := H
    have A5 := Aside0.mk A50
    clear A50
    have H' := Aside0.mk H
    clear H
    go_enter Try.func18, Try.ntmps18
    go_wp2_with (first | ((with_reducible refine gate_dst (N := 2) rfl ?_); refine box_event ?hg (N := 2) ?hd (cs := #[.int .i64 a0_0, .slice A0_1 l0_1.length c0_1]) (t := 24) ?hr ?_; (case hd => rfl); (case hg => rfl); (case hr => first | (go_simp; done) | (go_simp; rfl)); intro gb148 hg w6 hbox hb; have n0_ := Aside0.mk (below_step (by repeat (first | (with_reducible first | exact HB.out | apply below_alloc | apply pw_below_drewN | apply below_drew1) | exact HB.out)) hb); have n1_ := Aside0.mk (hbox); have n2_ := Aside0.mk ((by rw [hg]; exact (below_size (by repeat (first | (with_reducible first | exact HB.out | apply below_alloc | apply pw_below_drewN | apply below_drew1) | exact HB.out))) : w.heap.size ≤ gb148)); have n3_ := Aside0.mk ((by rw [hg]; exact (below_size (by repeat (first | (with_reducible first | exact HB.out | apply below_alloc | apply pw_below_drewN | apply below_drew1) | exact HB.out))) : w.heap.size ≤ gb148)); clear HB; have HB := n0_; have BK148 := n1_; have GW148 := n2_; have GE148 := n3_; clear n0_ n1_ n2_ n3_; clear hb hbox hg) | ((with_reducible refine gate_dst (N := 4) rfl ?_); refine box_event ?hg (N := 4) ?hd (cs := #[.int .i64 0, .slice none 0 0]) (t := 24) ?hr ?_; (case hd => rfl); (case hg => rfl); (case hr => first | (go_simp; done) | (go_simp; rfl)); intro gb149 hg w7 hbox hb; have n0_ := Aside0.mk (blk_below (g := gb148) (o := .cells #[.int .i64 a0_0, .slice A0_1 l0_1.length c0_1] 24 (0, 0)) (by (with_reducible repeat (first | refine blk_drewN ?_ _ | refine blk_drew ?_ | refine blk_alloc ?_ _)); exact BK148.out) hb); have n1_ := Aside0.mk (below_step (by repeat (first | (with_reducible first | exact HB.out | apply below_alloc | apply pw_below_drewN | apply below_drew1 | refine below_set ?_ GE148.out) | exact HB.out)) hb); have n2_ := Aside0.mk (hbox); have n3_ := Aside0.mk ((by rw [hg]; exact (below_size (by repeat (first | (with_reducible first | exact HB.out | apply below_alloc | apply pw_below_drewN | apply below_drew1 | refine below_set ?_ GE148.out) | exact HB.out))) : w.heap.size ≤ gb149)); have n4_ := Aside0.mk ((by rw [hg]; exact (below_size (by repeat (first | (with_reducible first | exact HB.out | apply below_alloc | apply pw_below_drewN | apply below_drew1 | refine below_set ?_ GE148.out) | exact HB.out))) : w.heap.size ≤ gb149)); have n5_ := Aside0.mk ((by rw [hg]; exact Nat.ne_of_lt (blk_lt (g := gb148) (o := .cells #[.int .i64 a0_0, .slice A0_1 l0_1.length c0_1] 24 (0, 0)) (by (with_reducible repeat (first | refine blk_drewN ?_ _ | refine blk_drew ?_ | refine blk_alloc ?_ _)); exact BK148.out)) : gb148 ≠ gb149)); have n6_ := Aside0.mk ((by rw [hg]; exact Nat.ne_of_gt (blk_lt (g := gb148) (o := .cells #[.int .i64 a0_0, .slice A0_1 l0_1.length c0_1] 24 (0, 0)) (by (with_reducible repeat (first | refine blk_drewN ?_ _ | refine blk_drew ?_ | refine blk_alloc ?_ _)); exact BK148.out)) : gb149 ≠ gb148)); clear BK148; clear HB; have BK148 := n0_; have HB := n1_; have BK149 := n2_; have GW149 := n3_; have GE149 := n4_; have NB148_149 := n5_; have NB149_148 := n6_; clear n0_ n1_ n2_ n3_ n4_ n5_ n6_; clear hb hbox hg; have hnb8 := NB148_149.out; have hnc8 := NB149_148.out; have hcz9_0 : w7.cell? ⟨gb148, 0, none⟩ = some (.int .i64 a0_0) := (blk_cell BK148.out 0).trans rfl; have hcz9_1 : w7.cell? ⟨gb148, 1, none⟩ = some (.slice A0_1 l0_1.length c0_1) := (blk_cell BK148.out 1).trans rfl; have hfz9_0 := blk_frozen BK148.out 0; have hfz9_1 := blk_frozen BK148.out 1) | ((with_reducible refine gate_callee (f := 22) rfl ?_); refine goesL_ (some 12) rfl rfl Try.func22 (by kernel_rfl) rfl #[.agg #[.int .i64 a0_0, .slice A0_1 l0_1.length c0_1]] rfl (by (try simp only [List.map_toArray, List.map_cons, List.map_nil]); first | done | rfl | (simp only [List.length_drop, List.length_take]; rfl)) ?_; (with_reducible refine (dragnetref16_Formed.calls a0_0 _ _ l0_1 true _ ?side1 ?side2 A3.out).mono ?_); (case side1 => repeat (first | exact (Kd.C_below HR0_1.out HB.out) | (with_reducible refine Kd.C_alloc ?_ _) | (with_reducible refine Kd.C_drewN ?_ _) | (with_reducible refine Kd.C_drew ?_))); (case side2 => exact HC0_1.out); rintro e w10 ⟨rfl, hb⟩; refine ⟨_, rfl, ?_⟩; have n0_ := Aside0.mk (blk_below (g := gb148) (o := .cells #[.int .i64 a0_0, .slice A0_1 l0_1.length c0_1] 24 (0, 0)) (by (with_reducible repeat (first | refine blk_drewN ?_ _ | refine blk_drew ?_ | refine blk_alloc ?_ _)); exact BK148.out) hb); have n1_ := Aside0.mk (blk_below (g := gb149) (o := .cells #[.int .i64 0, .slice none 0 0] 24 (0, 0)) (by (with_reducible repeat (first | refine blk_drewN ?_ _ | refine blk_drew ?_ | refine blk_alloc ?_ _)); exact BK149.out) hb); have n2_ := Aside0.mk (below_step (by repeat (first | (with_reducible first | exact HB.out | apply below_alloc | apply pw_below_drewN | apply below_drew1 | refine below_set ?_ GE148.out | refine below_set ?_ GE149.out) | exact HB.out)) hb); clear BK148; clear BK149; clear HB; have BK148 := n0_; have BK149 := n1_; have HB := n2_; clear n0_ n1_ n2_; (try clear hb); (try clear hb2); (try clear hk); (try clear hi); have hcz11_0 : w10.cell? ⟨gb148, 0, none⟩ = some (.int .i64 a0_0) := (blk_cell BK148.out 0).trans rfl; have hcz11_1 : w10.cell? ⟨gb148, 1, none⟩ = some (.slice A0_1 l0_1.length c0_1) := (blk_cell BK148.out 1).trans rfl; have hfz11_0 := blk_frozen BK148.out 0; have hfz11_1 := blk_frozen BK148.out 1) | ((with_reducible refine gate_callee (f := 10) rfl ?_); refine goesL_ (some 16) rfl rfl Try.func10 (by kernel_rfl) rfl #[.agg #[.int .i64 a0_0, .slice A0_1 l0_1.length c0_1]] rfl (by (try simp only [List.map_toArray, List.map_cons, List.map_nil]); first | done | rfl | (simp only [List.length_drop, List.length_take]; rfl)) ?_; (with_reducible refine (dragnetref16_Copy.calls k a0_0 _ _ l0_1 t151 t152 _ ?side1 ?side2 A5.out).mono ?_); (case side1 => repeat (first | exact (Kd.C_below HR0_1.out HB.out) | (with_reducible refine Kd.C_alloc ?_ _) | (with_reducible refine Kd.C_drewN ?_ _) | (with_reducible refine Kd.C_drew ?_))); (case side2 => exact HC0_1.out); rintro e w12 ⟨v153, rfl, ho0, hb⟩; refine ⟨_, rfl, ?_⟩; have n0_ := Aside0.mk (Kd.N_lower (Kd.N_mono (ok' := fun k_ => (w.heap.size ≤ k_) ∧ k_ ≠ gb148 ∧ k_ ≠ gb149) (Kd.S_N (Kd.S_bound ho0)) (fun k_ hk_ => ⟨(Nat.le_trans (below_size (by repeat (first | (with_reducible first | exact HB.out | apply below_alloc | apply pw_below_drewN | apply below_drew1 | refine below_set ?_ GE148.out | refine below_set ?_ GE149.out) | exact HB.out))) hk_.2.1), (Kd.freshB (g := gb148) (o := .cells #[.int .i64 a0_0, .slice A0_1 l0_1.length c0_1] 24 (0, 0)) (by (with_reducible repeat (first | refine blk_drewN ?_ _ | refine blk_drew ?_ | refine blk_alloc ?_ _)); exact BK148.out) k_ hk_.2.1), (Kd.freshB (g := gb149) (o := .cells #[.int .i64 0, .slice none 0 0] 24 (0, 0)) (by (with_reducible repeat (first | refine blk_drewN ?_ _ | refine blk_drew ?_ | refine blk_alloc ?_ _)); exact BK149.out) k_ hk_.2.1)⟩)) (below_size (by repeat (first | (with_reducible first | exact HB.out | apply below_alloc | apply pw_below_drewN | apply below_drew1 | refine below_set ?_ GE148.out | refine below_set ?_ GE149.out) | exact HB.out)))); have n1_ := Aside0.mk (blk_below (g := gb148) (o := .cells #[.int .i64 a0_0, .slice A0_1 l0_1.length c0_1] 24 (0, 0)) (by (with_reducible repeat (first | refine blk_drewN ?_ _ | refine blk_drew ?_ | refine blk_alloc ?_ _)); exact BK148.out) hb); have n2_ := Aside0.mk (blk_below (g := gb149) (o := .cells #[.int .i64 0, .slice none 0 0] 24 (0, 0)) (by (with_reducible repeat (first | refine blk_drewN ?_ _ | refine blk_drew ?_ | refine blk_alloc ?_ _)); exact BK149.out) hb); have n3_ := Aside0.mk (below_step (by repeat (first | (with_reducible first | exact HB.out | apply below_alloc | apply pw_below_drewN | apply below_drew1 | refine below_set ?_ GE148.out | refine below_set ?_ GE149.out) | exact HB.out)) hb); clear BK148; clear BK149; clear HB; have HO154 := n0_; have BK148 := n1_; have BK149 := n2_; have HB := n3_; clear n0_ n1_ n2_ n3_; (try clear hb); (try clear hb2); (try clear hk); (try clear hi); (try clear ho0)) | ((with_reducible refine gate_dst (N := 6) rfl ?_); refine box_event ?hg (N := 6) ?hd (cs := #[.int .i64 0, .slice none 0 0]) (t := 24) ?hr ?_; (case hd => rfl); (case hg => rfl); (case hr => first | (go_simp; done) | (go_simp; rfl)); intro gb155 hg w13 hbox hb; have n0_ := Aside0.mk (Kd.N_below (Kd.N_elderB (by (with_reducible repeat (first | apply Kd.N_alloc | apply Kd.N_drewN | apply Kd.N_drew)); exact HO154.out) gb155 (Nat.le_of_eq hg.symm)) hb); have n1_ := Aside0.mk (blk_below (g := gb148) (o := .cells #[.int .i64 a0_0, .slice A0_1 l0_1.length c0_1] 24 (0, 0)) (by (with_reducible repeat (first | refine blk_drewN ?_ _ | refine blk_drew ?_ | refine blk_alloc ?_ _)); exact BK148.out) hb); have n2_ := Aside0.mk (blk_below (g := gb149) (o := .cells #[.int .i64 0, .slice none 0 0] 24 (0, 0)) (by (with_reducible repeat (first | refine blk_drewN ?_ _ | refine blk_drew ?_ | refine blk_alloc ?_ _)); exact BK149.out) hb); have n3_ := Aside0.mk (below_step (by repeat (first | (with_reducible first | exact HB.out | apply below_alloc | apply pw_below_drewN | apply below_drew1 | refine below_set ?_ GE148.out | refine below_set ?_ GE149.out) | exact HB.out)) hb); have n4_ := Aside0.mk (hbox); have n5_ := Aside0.mk ((by rw [hg]; exact (below_size (by repeat (first | (with_reducible first | exact HB.out | apply below_alloc | apply pw_below_drewN | apply below_drew1 | refine below_set ?_ GE148.out | refine below_set ?_ GE149.out) | exact HB.out))) : w.heap.size ≤ gb155)); have n6_ := Aside0.mk ((by rw [hg]; exact (below_size (by repeat (first | (with_reducible first | exact HB.out | apply below_alloc | apply pw_below_drewN | apply below_drew1 | refine below_set ?_ GE148.out | refine below_set ?_ GE149.out) | exact HB.out))) : w.heap.size ≤ gb155)); have n7_ := Aside0.mk ((by rw [hg]; exact Nat.ne_of_lt (blk_lt (g := gb148) (o := .cells #[.int .i64 a0_0, .slice A0_1 l0_1.length c0_1] 24 (0, 0)) (by (with_reducible repeat (first | refine blk_drewN ?_ _ | refine blk_drew ?_ | refine blk_alloc ?_ _)); exact BK148.out)) : gb148 ≠ gb155)); have n8_ := Aside0.mk ((by rw [hg]; exact Nat.ne_of_gt (blk_lt (g := gb148) (o := .cells #[.int .i64 a0_0, .slice A0_1 l0_1.length c0_1] 24 (0, 0)) (by (with_reducible repeat (first | refine blk_drewN ?_ _ | refine blk_drew ?_ | refine blk_alloc ?_ _)); exact BK148.out)) : gb155 ≠ gb148)); have n9_ := Aside0.mk ((by rw [hg]; exact Nat.ne_of_lt (blk_lt (g := gb149) (o := .cells #[.int .i64 0, .slice none 0 0] 24 (0, 0)) (by (with_reducible repeat (first | refine blk_drewN ?_ _ | refine blk_drew ?_ | refine blk_alloc ?_ _)); exact BK149.out)) : gb149 ≠ gb155)); have n10_ := Aside0.mk ((by rw [hg]; exact Nat.ne_of_gt (blk_lt (g := gb149) (o := .cells #[.int .i64 0, .slice none 0 0] 24 (0, 0)) (by (with_reducible repeat (first | refine blk_drewN ?_ _ | refine blk_drew ?_ | refine blk_alloc ?_ _)); exact BK149.out)) : gb155 ≠ gb149)); clear HO154; clear BK148; clear BK149; clear HB; have HO154 := n0_; have BK148 := n1_; have BK149 := n2_; have HB := n3_; have BK155 := n4_; have GW155 := n5_; have GE155 := n6_; have NB148_155 := n7_; have NB155_148 := n8_; have NB149_155 := n9_; have NB155_149 := n10_; clear n0_ n1_ n2_ n3_ n4_ n5_ n6_ n7_ n8_ n9_ n10_; clear hb hbox hg; have hnb14 := NB155_148.out; have hnc14 := NB148_155.out; have hnb15 := NB155_149.out; have hnc15 := NB149_155.out; have hcz16_0 : w13.cell? ⟨gb155, 0, none⟩ = some (.int .i64 0) := (blk_cell BK155.out 0).trans rfl; have hcz16_1 : w13.cell? ⟨gb155, 1, none⟩ = some (.slice none 0 0) := (blk_cell BK155.out 1).trans rfl; have hfz16_0 := blk_frozen BK155.out 0; have hfz16_1 := blk_frozen BK155.out 1; obtain ⟨Ao17, co17, eo17⟩ := Kd.N_slice HO154.out; subst eo17))
    go_loopg [7] k (fun kq v7 w' => ∃ (x7_1 : Int) (x156001_1 : List (S61)) (u156001 : Value), v7 = .int .i64 x7_1 ∧ Aside0 (dragnetref16_Crash.l0 kq l1 x7_1 t151 x156001_1 = some (r1, r2, r3)) ∧ Aside0 (kq ≤ k) ∧ Aside0 (Kd.N k61 61 w' w.heap.size (fun k_ => (w.heap.size ≤ k_) ∧ k_ ≠ gb148 ∧ k_ ≠ gb149 ∧ k_ ≠ gb155) u156001 x156001_1) ∧ Aside0 (w'.heap[gb148]? = some (.cells #[.int .i64 a0_0, (.slice A0_1 l0_1.length c0_1)] 24 (0, 0))) ∧ Aside0 (w'.heap[gb149]? = some (.cells #[.int .i64 0, (.slice none 0 0)] 24 (0, 0))) ∧ Aside0 (w'.heap[gb155]? = some (.cells #[.int .i64 t151, u156001] 24 (0, 0))) ∧ Aside0 (Below w.heap.size w w'))
    case atStart => exact ⟨(0), (t152), (.slice Ao17 t152.length co17), (by first | rfl | (simp; done) | (simp [*]; done)), H', ⟨Nat.le_refl _⟩, ⟨by (with_reducible repeat (first | apply Kd.N_alloc | apply Kd.N_drewN | apply Kd.N_drew)); exact Kd.N_mono (Kd.N_far (p := ⟨gb155, 1, none⟩) (Kd.N_far (p := ⟨gb155, 0, none⟩) (Kd.N_mono HO154.out (fun k_ hk => (⟨hk, hk.2⟩ : _ ∧ k_ ≠ gb155))) (fun _ hk => hk.2) (.int .i64 t151)) (fun _ hk => hk.2) (.slice Ao17 t152.length co17)) (fun _ hk => ⟨hk.1.1.1, ⟨hk.1.1.2.1, ⟨hk.1.1.2.2, hk.1.2⟩⟩⟩)⟩, ⟨by (with_reducible repeat (first | refine blk_drewN ?_ _ | refine blk_drew ?_ | refine blk_alloc ?_ _)); refine blk_far ?_ NB148_155.out _; (with_reducible repeat (first | refine blk_drewN ?_ _ | refine blk_drew ?_ | refine blk_alloc ?_ _)); refine blk_far ?_ NB148_155.out _; (with_reducible repeat (first | refine blk_drewN ?_ _ | refine blk_drew ?_ | refine blk_alloc ?_ _)); exact BK148.out⟩, ⟨by (with_reducible repeat (first | refine blk_drewN ?_ _ | refine blk_drew ?_ | refine blk_alloc ?_ _)); refine blk_far ?_ NB149_155.out _; (with_reducible repeat (first | refine blk_drewN ?_ _ | refine blk_drew ?_ | refine blk_alloc ?_ _)); refine blk_far ?_ NB149_155.out _; (with_reducible repeat (first | refine blk_drewN ?_ _ | refine blk_drew ?_ | refine blk_alloc ?_ _)); exact BK149.out⟩, ⟨by (with_reducible repeat (first | refine blk_drewN ?_ _ | refine blk_drew ?_ | refine blk_alloc ?_ _)); refine blk_put (cs := #[.int .i64 t151, .slice none 0 0]) ?_ 1 _ rfl; (with_reducible repeat (first | refine blk_drewN ?_ _ | refine blk_drew ?_ | refine blk_alloc ?_ _)); refine blk_put (cs := #[.int .i64 0, .slice none 0 0]) ?_ 0 _ rfl; (with_reducible repeat (first | refine blk_drewN ?_ _ | refine blk_drew ?_ | refine blk_alloc ?_ _)); exact BK155.out⟩, ⟨by repeat (first | (with_reducible first | exact HB.out | apply below_alloc | apply pw_below_drewN | apply below_drew1 | refine below_set ?_ GE148.out | refine below_set ?_ GE149.out | refine below_set ?_ GE155.out) | exact HB.out)⟩⟩
    case round =>
      clear H'
      try clear c1
      try clear c2
      try clear p2
      try clear c4
      try clear c8
      try clear c10
      try clear c14
      try clear c15
      try clear hcz11_0
      try clear hcz11_1
      try clear hcz16_0
      try clear hcz16_1
      try clear hcz9_0
      try clear hcz9_1
      try clear hfz11_0
      try clear hfz11_1
      try clear hfz16_0
      try clear hfz16_1
      try clear hfz9_0
      try clear hfz9_1
      obtain ⟨x7_1, x156001_1, u156001, rfl, HA, HK1, HO_156001, BK148, BK149, BK155, HB⟩ := hrel
      cases gk with
      | zero => exact absurd HA.out (by simp [dragnetref16_Crash.l0])
      | succ k1 =>
        have H := HA.out
        clear HA
        simp only [dragnetref16_Crash.l0] at H
        by_cases c18 : x7_1 < (x156001_1.length : Int)
        · rw [if_pos c18] at H
          have c18b0 : decide (x7_1 < (x156001_1.length : Int)) = true := decide_eq_true c18
          clear c18
          have H' := Aside0.mk H
          clear H
          have hnb19 := NB155_148.out
          have hnc19 := NB148_155.out
          have hnb20 := NB155_149.out
          have hnc20 := NB149_155.out
          have hcz21_0 : wr.cell? ⟨gb155, 0, none⟩ = some (.int .i64 t151) := (blk_cell BK155.out 0).trans rfl
          have hcz21_1 : wr.cell? ⟨gb155, 1, none⟩ = some (u156001) := (blk_cell BK155.out 1).trans rfl
          have hfz21_0 := blk_frozen BK155.out 0
          have hfz21_1 := blk_frozen BK155.out 1
          obtain ⟨Ao22, co22, eo22⟩ := Kd.N_slice HO_156001.out
          subst eo22
          go_wp2
          go_loopg [8, 9] k1 (fun kq v8 v9 w' => ∃ (x8_2 : Int) (x9_2 : Int), v8 = .int .i64 x8_2 ∧ v9 = .int .i64 x9_2 ∧ Aside0 (dragnetref16_Crash.l1 kq l1 x7_1 x8_2 x9_2 t151 x156001_1 = some (r1, r2, r3)) ∧ Aside0 (kq ≤ k1) ∧ Aside0 (Kd.N k61 61 w' w.heap.size (fun k_ => (w.heap.size ≤ k_) ∧ k_ ≠ gb148 ∧ k_ ≠ gb149 ∧ k_ ≠ gb155) (.slice Ao22 x156001_1.length co22) x156001_1) ∧ Aside0 (w'.heap[gb148]? = some (.cells #[.int .i64 a0_0, (.slice A0_1 l0_1.length c0_1)] 24 (0, 0))) ∧ Aside0 (w'.heap[gb149]? = some (.cells #[.int .i64 0, (.slice none 0 0)] 24 (0, 0))) ∧ Aside0 (w'.heap[gb155]? = some (.cells #[.int .i64 t151, (.slice Ao22 x156001_1.length co22)] 24 (0, 0))) ∧ Aside0 (Below w.heap.size w w'))
          case atStart => exact ⟨(0), (0), (by first | rfl | (simp; done) | (simp [*]; done)), (by first | rfl | (simp; done) | (simp [*]; done)), H', ⟨Nat.le_refl _⟩, ⟨by (with_reducible repeat (first | apply Kd.N_alloc | apply Kd.N_drewN | apply Kd.N_drew)); exact HO_156001.out⟩, ⟨by (with_reducible repeat (first | refine blk_drewN ?_ _ | refine blk_drew ?_ | refine blk_alloc ?_ _)); exact BK148.out⟩, ⟨by (with_reducible repeat (first | refine blk_drewN ?_ _ | refine blk_drew ?_ | refine blk_alloc ?_ _)); exact BK149.out⟩, ⟨by (with_reducible repeat (first | refine blk_drewN ?_ _ | refine blk_drew ?_ | refine blk_alloc ?_ _)); exact BK155.out⟩, ⟨by repeat (first | (with_reducible first | exact HB.out | apply below_alloc | apply pw_below_drewN | apply below_drew1 | refine below_set ?_ GE148.out | refine below_set ?_ GE149.out | refine below_set ?_ GE155.out) | exact HB.out)⟩⟩
          case round =>
            clear H'
            try clear c1
            try clear c2
            try clear p2
            try clear c4
            try clear c8
            try clear c10
            try clear c14
            try clear c15
            try clear c18
            try clear c18b0
            try clear c19
            try clear c20
            try clear c22
            try clear hcz11_0
            try clear hcz11_1
            try clear hcz16_0
            try clear hcz16_1
            try clear hcz21_0
            try clear hcz21_1
            try clear hcz9_0
            try clear hcz9_1
            try clear hfz11_0
            try clear hfz11_1
            try clear hfz16_0
            try clear hfz16_1
            try clear hfz21_0
            try clear hfz21_1
            try clear hfz9_0
            try clear hfz9_1
            try clear p2
            obtain ⟨x8_2, x9_2, rfl, rfl, HA, HK2, HO_156001, BK148, BK149, BK155, HB⟩ := hrel
            cases gk with
            | zero => exact absurd HA.out (by simp [dragnetref16_Crash.l1])
            | succ k2 =>
              have H := HA.out
              clear HA
              simp only [dragnetref16_Crash.l1] at H
              by_cases c23 : x9_2 < (l1.length : Int)
              · rw [if_pos c23] at H
                have c23b0 : decide (x9_2 < (l1.length : Int)) = true := decide_eq_true c23
                clear c23
                by_cases c24 : 0 ≤ x9_2
                · rw [if_pos c24] at H
                  have c24b0 : decide (0 ≤ x9_2) = true := decide_eq_true c24
                  clear c24
                  by_cases c25 : 0 ≤ x7_1
                  · rw [if_pos c25] at H
                    have c25b0 : decide (0 ≤ x7_1) = true := decide_eq_true c25
                    clear c25
                    by_cases c26 : x7_1 < (x156001_1.length : Int)
                    · rw [if_pos c26] at H
                      have c26b0 : decide (x7_1 < (x156001_1.length : Int)) = true := decide_eq_true c26
                      clear c26
                      by_cases c27 : ((rd_T59 l1 x9_2).f0).toList = ((rd_T61 x156001_1 x7_1).f0).toList
                      · rw [if_pos c27] at H
                        have c27b0 : (((rd_T59 l1 x9_2).f0).toList == ((rd_T61 x156001_1 x7_1).f0).toList) = true := beq_iff_eq.mpr c27
                        have c27b1 : (((rd_T59 l1 x9_2).f0).toList != ((rd_T61 x156001_1 x7_1).f0).toList) = false := bne_eq_false_iff_eq.mpr c27
                        clear c27
                        obtain ⟨ji28, hji28⟩ : ∃ j_ : Int, (mx 0 ((rd_T59 l1 x9_2).f1)) = j_ := ⟨_, rfl⟩
                        replace H : (dragnetref16_Crash.l1 k2 l1 x7_1 ji28 (wrap64 (x9_2 + 1)) t151 x156001_1) = some (r1, r2, r3) := by first | (rw [hji28] at H; exact H) | (simp only [hji28] at H ⊢; exact H)
                        have hji28_ : (if 0 < ((rd_T59 l1 x9_2).f1) then ((rd_T59 l1 x9_2).f1) else 0) = ji28 := hji28
                        have H' := Aside0.mk H
                        clear H
                        try go_wp2
                        have n0_ := Aside0.mk (Kd.N_drew HO_156001.out)
                        have n1_ := Aside0.mk (blk_drew BK148.out)
                        have n2_ := Aside0.mk (blk_drew BK149.out)
                        have n3_ := Aside0.mk (blk_drew BK155.out)
                        have n4_ := Aside0.mk (below_drew1 HB.out)
                        clear HO_156001
                        clear BK148
                        clear BK149
                        clear BK155
                        clear HB
                        have HO_156001 := n0_
                        have BK148 := n1_
                        have BK149 := n2_
                        have BK155 := n3_
                        have HB := n4_
                        clear n0_ n1_ n2_ n3_ n4_
                        have p165 : 0 ≤ (x9_2 : Int) := of_decide_eq_true (by first | (with_reducible assumption) | assumption)
                        have q165 : x9_2 < (l1.length : Int) := of_decide_eq_true (by first | (with_reducible assumption) | assumption)
                        obtain ⟨ad165, e165, hx165_0, hx165_1⟩ := at_T59 HR1.out x9_2 p165 q165
                        have hw165_1 := hx165_1
                        have hw165_0 := hx165_0
                        cases e165
                        replace hx165_0 := (HB.out.cell (World.block_lt_of_cell? w _ hx165_0)).trans hx165_0
                        replace hx165_1 := (HB.out.cell (World.block_lt_of_cell? w _ hx165_1)).trans hx165_1
                        replace p165 := eq_true p165
                        replace q165 := eq_true q165
                        have p166 : 0 ≤ (x7_1 : Int) := of_decide_eq_true (by first | (with_reducible assumption) | assumption)
                        have q166 : x7_1 < (x156001_1.length : Int) := of_decide_eq_true (by first | (with_reducible assumption) | assumption)
                        obtain ⟨ad166, A166_1, c166_1, e166, hx166_0, hx166_1, hx166_2, hl166_1, hi166_1⟩ := at_T61 (Kd.N_reads' HO_156001.out).2.2 x7_1 p166 q166
                        cases e166
                        obtain ⟨ce166, hce166, hMe166, hcc166⟩ := Kd.N_get HO_156001.out z61 x7_1 p166 (by first | exact q166 | exact of_decide_eq_true (by first | (with_reducible assumption) | assumption) | (have e_ := (Kd.N_reads' HO_156001.out).1; omega))
                        obtain ⟨ua166_1, uc166_1, rfl, ul166_1, ge166_1⟩ := k61_openF hMe166
                        have hv166_1 := hcc166 1 _ rfl
                        rw [add_field _ _ 1 (by omega)] at hv166_1
                        replace hv166_1 := Option.some.inj (hv166_1.symm.trans hx166_1)
                        injection hv166_1 with hva_ hvn_ hvc_
                        rw [hva_] at ge166_1
                        rw [hvc_] at ul166_1
                        have HL166_1 := Aside0.mk (show Kd.V (Kd.int .u8) 5 _ w.heap.size _ _ ((rd_T61 x156001_1 x7_1).f1) from Kd.V_mk ul166_1 ge166_1)
                        clear hva_ hvn_ hvc_ ge166_1 ul166_1
                        clear hcc166 hce166
                        have HR166_1 := Aside0.mk hi166_1
                        have HC166_1 := Aside0.mk hl166_1
                        clear hi166_1 hl166_1
                        replace p166 := eq_true p166
                        replace q166 := eq_true q166
                        refine start_ (n := 12) (S := fun w' => w'.cell? ⟨gb155, 0, none⟩ = some (.int .i64 t151) ∧ w'.cell? ⟨gb155, 1, none⟩ = some (.slice (some ad166) x156001_1.length co22) ∧ w'.cell? (ad165.add ((x9_2).toNat * 2)) = some (.string ((rd_T59 l1 x9_2).f0)) ∧ w'.cell? ⟨(ad165.add ((x9_2).toNat * 2)).block, (ad165.add ((x9_2).toNat * 2)).off + 1, none⟩ = some (.int .i64 ((rd_T59 l1 x9_2).f1)) ∧ w'.cell? (ad166.add ((x7_1).toNat * 3)) = some (.string ((rd_T61 x156001_1 x7_1).f0)) ∧ w'.cell? ⟨(ad166.add ((x7_1).toNat * 3)).block, (ad166.add ((x7_1).toNat * 3)).off + 1, none⟩ = some (.slice A166_1 ((rd_T61 x156001_1 x7_1).f1).length c166_1) ∧ w'.cell? ⟨(ad166.add ((x7_1).toNat * 3)).block, (ad166.add ((x7_1).toNat * 3)).off + 2, none⟩ = some (.int .i64 ((rd_T61 x156001_1 x7_1).f2))) (ds := []) #[false, false, false, false, false, false, false, false, false, false, false, false] (by kernel_rfl) rfl rfl ⟨(blk_cell BK155.out 0).trans rfl, (blk_cell BK155.out 1).trans rfl, ((HB.out.cell (World.block_lt_of_cell? w _ hw165_0)).trans hw165_0), ((HB.out.cell (World.block_lt_of_cell? w _ hw165_1)).trans hw165_1), hx166_0, hx166_1, hx166_2⟩ (fun hHeld => ?_); refine with_tabW dragnetref16_Crash.tab11 dragnetref16_Crash.bits11 (fun HT_ HW_ => ?_)
                        generalize wr.drew = w29 at HO_156001 BK148 BK149 BK155 HB HL166_1 HR166_1 hx165_0 hx165_1 hx166_0 hx166_1 hx166_2 hHeld ⊢
                        refine pure_ (i := 0) (N := some 30) (v := ?_) (a' := ?_) #[true, false, false, false, false, false, false, false, false, false, false, false] rfl rfl (any_of HT_.out (by kernel_rfl)) (fun _ _ _ h => h) (Or.inl ⟨by rfl, ?_⟩) ?_ ?_
                        rotate_left
                        · intro w'
                          go_simp
                          with_reducible rfl
                        rotate_left
                        · simp only [Act.put, List.setIfInBounds_toArray, List.set_cons_zero, List.set_cons_succ, i64_w, i32_w]
                          rfl
                        refine pure_ (i := 1) (N := some 31) (v := ?_) (a' := ?_) #[true, true, false, false, false, false, false, false, false, false, false, false] rfl rfl (any_of HT_.out (by kernel_rfl)) (fun _ _ _ h => h) (Or.inl ⟨by rfl, ?_⟩) ?_ ?_
                        rotate_left
                        · intro w'
                          go_simp
                          with_reducible rfl
                        rotate_left
                        · simp only [Act.put, List.setIfInBounds_toArray, List.set_cons_zero, List.set_cons_succ, i64_w, i32_w]
                          rfl
                        refine pure_ (i := 2) (N := some 32) (v := ?_) (a' := ?_) #[true, true, true, false, false, false, false, false, false, false, false, false] rfl rfl (any_of HT_.out (by kernel_rfl)) (fun _ _ _ h => h) (Or.inl ⟨by rfl, ?_⟩) ?_ ?_
                        rotate_left
                        · intro w'
                          go_simp
                          with_reducible rfl
                        rotate_left
                        · simp only [Act.put, List.setIfInBounds_toArray, List.set_cons_zero, List.set_cons_succ, i64_w, i32_w]
                          rfl
                        refine pure_ (i := 3) (N := some 33) (v := ?_) (a' := ?_) #[true, true, true, true, false, false, false, false, false, false, false, false] rfl rfl (any_of HT_.out (by kernel_rfl)) (fun _ _ _ h => h) (Or.inl ⟨by rfl, ?_⟩) ?_ ?_
                        rotate_left
                        · intro w'
                          go_simp
                          with_reducible rfl
                        rotate_left
                        · simp only [Act.put, List.setIfInBounds_toArray, List.set_cons_zero, List.set_cons_succ, i64_w, i32_w]
                          rfl
                        refine pure_ (i := 5) (N := some 35) (v := ?_) (a' := ?_) #[true, true, true, true, false, true, false, false, false, false, false, false] rfl rfl (any_of HT_.out (by kernel_rfl)) (fun _ _ _ h => h) (Or.inl ⟨by rfl, ?_⟩) ?_ ?_
                        rotate_left
                        · intro w'
                          go_simp
                          with_reducible rfl
                        rotate_left
                        · simp only [Act.put, List.setIfInBounds_toArray, List.set_cons_zero, List.set_cons_succ, i64_w, i32_w]
                          rfl
                        refine pure_ (i := 7) (N := some 37) (v := ?_) (a' := ?_) #[true, true, true, true, false, true, false, true, false, false, false, false] rfl rfl (any_of HT_.out (by kernel_rfl)) (fun _ _ _ h => h) (Or.inl ⟨by rfl, ?_⟩) ?_ ?_
                        rotate_left
                        · intro w'
                          go_simp
                          with_reducible rfl
                        rotate_left
                        · simp only [Act.put, List.setIfInBounds_toArray, List.set_cons_zero, List.set_cons_succ, i64_w, i32_w]
                          rfl
                        refine take_ (i := 4) (N := some 34) (v := ?_) (a' := ?_) #[true, true, true, true, true, true, false, true, false, false, false, false] rfl rfl (take_ofW HT_.out HW_.out (by kernel_rfl)) (fun _ _ _ h => h) (Or.inl ⟨by rfl, ?_⟩) hHeld ?_ ?_
                        rotate_left
                        · rintro w' ⟨s0, s1, s2, s3, s4, s5, s6⟩
                          go_simp
                          with_reducible rfl
                        rotate_left
                        · simp only [Act.put, List.setIfInBounds_toArray, List.set_cons_zero, List.set_cons_succ, i64_w, i32_w]
                          rfl
                        refine take_ (i := 6) (N := some 36) (v := ?_) (a' := ?_) #[true, true, true, true, true, true, true, true, false, false, false, false] rfl rfl (take_ofW HT_.out HW_.out (by kernel_rfl)) (fun _ _ _ h => h) (Or.inl ⟨by rfl, ?_⟩) hHeld ?_ ?_
                        rotate_left
                        · rintro w' ⟨s0, s1, s2, s3, s4, s5, s6⟩
                          go_simp
                          with_reducible rfl
                        rotate_left
                        · simp only [Act.put, List.setIfInBounds_toArray, List.set_cons_zero, List.set_cons_succ, i64_w, i32_w]
                          rfl
                        refine pure_ (i := 8) (N := some 38) (v := ?_) (a' := ?_) #[true, true, true, true, true, true, true, true, true, false, false, false] rfl rfl (any_of HT_.out (by kernel_rfl)) (fun _ _ _ h => h) (Or.inl ⟨by rfl, ?_⟩) ?_ ?_
                        rotate_left
                        · intro w'
                          go_simp
                          with_reducible rfl
                        rotate_left
                        · simp only [Act.put, List.setIfInBounds_toArray, List.set_cons_zero, List.set_cons_succ, i64_w, i32_w]
                          rfl
                        refine pure_ (i := 9) (N := some 39) (v := ?_) (a' := ?_) #[true, true, true, true, true, true, true, true, true, true, false, false] rfl rfl (any_of HT_.out (by kernel_rfl)) (fun _ _ _ h => h) (Or.inl ⟨by rfl, ?_⟩) ?_ ?_
                        rotate_left
                        · intro w'
                          go_simp
                          with_reducible rfl
                        rotate_left
                        · simp only [Act.put, List.setIfInBounds_toArray, List.set_cons_zero, List.set_cons_succ, i64_w, i32_w]
                          rfl
                        refine take_ (i := 10) (N := some 40) (v := ?_) (a' := ?_) #[true, true, true, true, true, true, true, true, true, true, true, false] rfl rfl (take_ofW HT_.out HW_.out (by kernel_rfl)) (fun _ _ _ h => h) (Or.inl ⟨by rfl, ?_⟩) hHeld ?_ ?_
                        rotate_left
                        · rintro w' ⟨s0, s1, s2, s3, s4, s5, s6⟩
                          go_simp
                          with_reducible rfl
                        rotate_left
                        · simp only [Act.put, List.setIfInBounds_toArray, List.set_cons_zero, List.set_cons_succ, i64_w, i32_w]
                          rfl
                        refine pure_ (i := 11) (N := some 41) (v := ?_) (a' := ?_) #[true, true, true, true, true, true, true, true, true, true, true, true] rfl rfl (any_of HT_.out (by kernel_rfl)) (fun _ _ _ h => h) (Or.inl ⟨by rfl, ?_⟩) ?_ ?_
                        rotate_left
                        · intro w'
                          go_simp
                          with_reducible rfl
                        rotate_left
                        · simp only [Act.put, List.setIfInBounds_toArray, List.set_cons_zero, List.set_cons_succ, i64_w, i32_w]
                          rfl
                        refine done_ (done_of HT_.out (by kernel_rfl)) ?_
                        have p167 : 0 ≤ (x9_2 : Int) := of_decide_eq_true (by first | (with_reducible assumption) | assumption)
                        have q167 : x9_2 < (l1.length : Int) := of_decide_eq_true (by first | (with_reducible assumption) | assumption)
                        obtain ⟨ad167, e167, hx167_0, hx167_1⟩ := at_T59 HR1.out x9_2 p167 q167
                        obtain rfl : ad165 = ad167 := (by injection e167)
                        replace hx167_0 := (HB.out.cell (World.block_lt_of_cell? w _ hx167_0)).trans hx167_0
                        replace hx167_1 := (HB.out.cell (World.block_lt_of_cell? w _ hx167_1)).trans hx167_1
                        replace p167 := eq_true p167
                        replace q167 := eq_true q167
                        try go_wp2
                        go_roundg k2
                        case measure => have := HK1.out; have := HK2.out; omega
                        case rel => exact ⟨(ji28), (wrap64 (x9_2 + 1)), (by first | rfl | (simp; done) | (simp only [← hji28] <;> (first | rfl | simp)) | (simp [*]; done)), (by first | rfl | (simp; done) | (simp [*]; done)), H', ⟨by have := HK1.out; have := HK2.out; omega⟩, ⟨by (with_reducible repeat (first | apply Kd.N_alloc | apply Kd.N_drewN | apply Kd.N_drew)); exact HO_156001.out⟩, ⟨by (with_reducible repeat (first | refine blk_drewN ?_ _ | refine blk_drew ?_ | refine blk_alloc ?_ _)); exact BK148.out⟩, ⟨by (with_reducible repeat (first | refine blk_drewN ?_ _ | refine blk_drew ?_ | refine blk_alloc ?_ _)); exact BK149.out⟩, ⟨by (with_reducible repeat (first | refine blk_drewN ?_ _ | refine blk_drew ?_ | refine blk_alloc ?_ _)); exact BK155.out⟩, ⟨by repeat (first | (with_reducible first | exact HB.out | apply below_alloc | apply pw_below_drewN | apply below_drew1 | refine below_set ?_ GE148.out | refine below_set ?_ GE149.out | refine below_set ?_ GE155.out) | exact HB.out)⟩⟩
                      · rw [if_neg c27] at H
                        have c27b0 : (((rd_T59 l1 x9_2).f0).toList == ((rd_T61 x156001_1 x7_1).f0).toList) = false := beq_eq_false_iff_ne.mpr c27
                        have c27b1 : (((rd_T59 l1 x9_2).f0).toList != ((rd_T61 x156001_1 x7_1).f0).toList) = true := bne_iff_ne.mpr c27
                        have H' := Aside0.mk H
                        clear H
                        try go_wp2
                        have n0_ := Aside0.mk (Kd.N_drew HO_156001.out)
                        have n1_ := Aside0.mk (blk_drew BK148.out)
                        have n2_ := Aside0.mk (blk_drew BK149.out)
                        have n3_ := Aside0.mk (blk_drew BK155.out)
                        have n4_ := Aside0.mk (below_drew1 HB.out)
                        clear HO_156001
                        clear BK148
                        clear BK149
                        clear BK155
                        clear HB
                        have HO_156001 := n0_
                        have BK148 := n1_
                        have BK149 := n2_
                        have BK155 := n3_
                        have HB := n4_
                        clear n0_ n1_ n2_ n3_ n4_
                        have p165 : 0 ≤ (x9_2 : Int) := of_decide_eq_true (by first | (with_reducible assumption) | assumption)
                        have q165 : x9_2 < (l1.length : Int) := of_decide_eq_true (by first | (with_reducible assumption) | assumption)
                        obtain ⟨ad165, e165, hx165_0, hx165_1⟩ := at_T59 HR1.out x9_2 p165 q165
                        have hw165_1 := hx165_1
                        have hw165_0 := hx165_0
                        cases e165
                        replace hx165_0 := (HB.out.cell (World.block_lt_of_cell? w _ hx165_0)).trans hx165_0
                        replace hx165_1 := (HB.out.cell (World.block_lt_of_cell? w _ hx165_1)).trans hx165_1
                        replace p165 := eq_true p165
                        replace q165 := eq_true q165
                        have p166 : 0 ≤ (x7_1 : Int) := of_decide_eq_true (by first | (with_reducible assumption) | assumption)
                        have q166 : x7_1 < (x156001_1.length : Int) := of_decide_eq_true (by first | (with_reducible assumption) | assumption)
                        obtain ⟨ad166, A166_1, c166_1, e166, hx166_0, hx166_1, hx166_2, hl166_1, hi166_1⟩ := at_T61 (Kd.N_reads' HO_156001.out).2.2 x7_1 p166 q166
                        cases e166
                        obtain ⟨ce166, hce166, hMe166, hcc166⟩ := Kd.N_get HO_156001.out z61 x7_1 p166 (by first | exact q166 | exact of_decide_eq_true (by first | (with_reducible assumption) | assumption) | (have e_ := (Kd.N_reads' HO_156001.out).1; omega))
                        obtain ⟨ua166_1, uc166_1, rfl, ul166_1, ge166_1⟩ := k61_openF hMe166
                        have hv166_1 := hcc166 1 _ rfl
                        rw [add_field _ _ 1 (by omega)] at hv166_1
                        replace hv166_1 := Option.some.inj (hv166_1.symm.trans hx166_1)
                        injection hv166_1 with hva_ hvn_ hvc_
                        rw [hva_] at ge166_1
                        rw [hvc_] at ul166_1
                        have HL166_1 := Aside0.mk (show Kd.V (Kd.int .u8) 5 _ w.heap.size _ _ ((rd_T61 x156001_1 x7_1).f1) from Kd.V_mk ul166_1 ge166_1)
                        clear hva_ hvn_ hvc_ ge166_1 ul166_1
                        clear hcc166 hce166
                        have HR166_1 := Aside0.mk hi166_1
                        have HC166_1 := Aside0.mk hl166_1
                        clear hi166_1 hl166_1
                        replace p166 := eq_true p166
                        replace q166 := eq_true q166
                        refine start_ (n := 12) (S := fun w' => w'.cell? ⟨gb155, 0, none⟩ = some (.int .i64 t151) ∧ w'.cell? ⟨gb155, 1, none⟩ = some (.slice (some ad166) x156001_1.length co22) ∧ w'.cell? (ad165.add ((x9_2).toNat * 2)) = some (.string ((rd_T59 l1 x9_2).f0)) ∧ w'.cell? ⟨(ad165.add ((x9_2).toNat * 2)).block, (ad165.add ((x9_2).toNat * 2)).off + 1, none⟩ = some (.int .i64 ((rd_T59 l1 x9_2).f1)) ∧ w'.cell? (ad166.add ((x7_1).toNat * 3)) = some (.string ((rd_T61 x156001_1 x7_1).f0)) ∧ w'.cell? ⟨(ad166.add ((x7_1).toNat * 3)).block, (ad166.add ((x7_1).toNat * 3)).off + 1, none⟩ = some (.slice A166_1 ((rd_T61 x156001_1 x7_1).f1).length c166_1) ∧ w'.cell? ⟨(ad166.add ((x7_1).toNat * 3)).block, (ad166.add ((x7_1).toNat * 3)).off + 2, none⟩ = some (.int .i64 ((rd_T61 x156001_1 x7_1).f2))) (ds := []) #[false, false, false, false, false, false, false, false, false, false, false, false] (by kernel_rfl) rfl rfl ⟨(blk_cell BK155.out 0).trans rfl, (blk_cell BK155.out 1).trans rfl, ((HB.out.cell (World.block_lt_of_cell? w _ hw165_0)).trans hw165_0), ((HB.out.cell (World.block_lt_of_cell? w _ hw165_1)).trans hw165_1), hx166_0, hx166_1, hx166_2⟩ (fun hHeld => ?_); refine with_tabW dragnetref16_Crash.tab11 dragnetref16_Crash.bits11 (fun HT_ HW_ => ?_)
                        generalize wr.drew = w30 at HO_156001 BK148 BK149 BK155 HB HL166_1 HR166_1 hx165_0 hx165_1 hx166_0 hx166_1 hx166_2 hHeld ⊢
                        refine pure_ (i := 0) (N := some 30) (v := ?_) (a' := ?_) #[true, false, false, false, false, false, false, false, false, false, false, false] rfl rfl (any_of HT_.out (by kernel_rfl)) (fun _ _ _ h => h) (Or.inl ⟨by rfl, ?_⟩) ?_ ?_
                        rotate_left
                        · intro w'
                          go_simp
                          with_reducible rfl
                        rotate_left
                        · simp only [Act.put, List.setIfInBounds_toArray, List.set_cons_zero, List.set_cons_succ, i64_w, i32_w]
                          rfl
                        refine pure_ (i := 1) (N := some 31) (v := ?_) (a' := ?_) #[true, true, false, false, false, false, false, false, false, false, false, false] rfl rfl (any_of HT_.out (by kernel_rfl)) (fun _ _ _ h => h) (Or.inl ⟨by rfl, ?_⟩) ?_ ?_
                        rotate_left
                        · intro w'
                          go_simp
                          with_reducible rfl
                        rotate_left
                        · simp only [Act.put, List.setIfInBounds_toArray, List.set_cons_zero, List.set_cons_succ, i64_w, i32_w]
                          rfl
                        refine pure_ (i := 2) (N := some 32) (v := ?_) (a' := ?_) #[true, true, true, false, false, false, false, false, false, false, false, false] rfl rfl (any_of HT_.out (by kernel_rfl)) (fun _ _ _ h => h) (Or.inl ⟨by rfl, ?_⟩) ?_ ?_
                        rotate_left
                        · intro w'
                          go_simp
                          with_reducible rfl
                        rotate_left
                        · simp only [Act.put, List.setIfInBounds_toArray, List.set_cons_zero, List.set_cons_succ, i64_w, i32_w]
                          rfl
                        refine pure_ (i := 3) (N := some 33) (v := ?_) (a' := ?_) #[true, true, true, true, false, false, false, false, false, false, false, false] rfl rfl (any_of HT_.out (by kernel_rfl)) (fun _ _ _ h => h) (Or.inl ⟨by rfl, ?_⟩) ?_ ?_
                        rotate_left
                        · intro w'
                          go_simp
                          with_reducible rfl
                        rotate_left
                        · simp only [Act.put, List.setIfInBounds_toArray, List.set_cons_zero, List.set_cons_succ, i64_w, i32_w]
                          rfl
                        refine pure_ (i := 5) (N := some 35) (v := ?_) (a' := ?_) #[true, true, true, true, false, true, false, false, false, false, false, false] rfl rfl (any_of HT_.out (by kernel_rfl)) (fun _ _ _ h => h) (Or.inl ⟨by rfl, ?_⟩) ?_ ?_
                        rotate_left
                        · intro w'
                          go_simp
                          with_reducible rfl
                        rotate_left
                        · simp only [Act.put, List.setIfInBounds_toArray, List.set_cons_zero, List.set_cons_succ, i64_w, i32_w]
                          rfl
                        refine pure_ (i := 7) (N := some 37) (v := ?_) (a' := ?_) #[true, true, true, true, false, true, false, true, false, false, false, false] rfl rfl (any_of HT_.out (by kernel_rfl)) (fun _ _ _ h => h) (Or.inl ⟨by rfl, ?_⟩) ?_ ?_
                        rotate_left
                        · intro w'
                          go_simp
                          with_reducible rfl
                        rotate_left
                        · simp only [Act.put, List.setIfInBounds_toArray, List.set_cons_zero, List.set_cons_succ, i64_w, i32_w]
                          rfl
                        refine take_ (i := 4) (N := some 34) (v := ?_) (a' := ?_) #[true, true, true, true, true, true, false, true, false, false, false, false] rfl rfl (take_ofW HT_.out HW_.out (by kernel_rfl)) (fun _ _ _ h => h) (Or.inl ⟨by rfl, ?_⟩) hHeld ?_ ?_
                        rotate_left
                        · rintro w' ⟨s0, s1, s2, s3, s4, s5, s6⟩
                          go_simp
                          with_reducible rfl
                        rotate_left
                        · simp only [Act.put, List.setIfInBounds_toArray, List.set_cons_zero, List.set_cons_succ, i64_w, i32_w]
                          rfl
                        refine take_ (i := 6) (N := some 36) (v := ?_) (a' := ?_) #[true, true, true, true, true, true, true, true, false, false, false, false] rfl rfl (take_ofW HT_.out HW_.out (by kernel_rfl)) (fun _ _ _ h => h) (Or.inl ⟨by rfl, ?_⟩) hHeld ?_ ?_
                        rotate_left
                        · rintro w' ⟨s0, s1, s2, s3, s4, s5, s6⟩
                          go_simp
                          with_reducible rfl
                        rotate_left
                        · simp only [Act.put, List.setIfInBounds_toArray, List.set_cons_zero, List.set_cons_succ, i64_w, i32_w]
                          rfl
                        refine pure_ (i := 8) (N := some 38) (v := ?_) (a' := ?_) #[true, true, true, true, true, true, true, true, true, false, false, false] rfl rfl (any_of HT_.out (by kernel_rfl)) (fun _ _ _ h => h) (Or.inl ⟨by rfl, ?_⟩) ?_ ?_
                        rotate_left
                        · intro w'
                          go_simp
                          with_reducible rfl
                        rotate_left
                        · simp only [Act.put, List.setIfInBounds_toArray, List.set_cons_zero, List.set_cons_succ, i64_w, i32_w]
                          rfl
                        refine pure_ (i := 9) (N := some 39) (v := ?_) (a' := ?_) #[true, true, true, true, true, true, true, true, true, true, false, false] rfl rfl (any_of HT_.out (by kernel_rfl)) (fun _ _ _ h => h) (Or.inl ⟨by rfl, ?_⟩) ?_ ?_
                        rotate_left
                        · intro w'
                          go_simp
                          with_reducible rfl
                        rotate_left
                        · simp only [Act.put, List.setIfInBounds_toArray, List.set_cons_zero, List.set_cons_succ, i64_w, i32_w]
                          rfl
                        refine take_ (i := 10) (N := some 40) (v := ?_) (a' := ?_) #[true, true, true, true, true, true, true, true, true, true, true, false] rfl rfl (take_ofW HT_.out HW_.out (by kernel_rfl)) (fun _ _ _ h => h) (Or.inl ⟨by rfl, ?_⟩) hHeld ?_ ?_
                        rotate_left
                        · rintro w' ⟨s0, s1, s2, s3, s4, s5, s6⟩
                          go_simp
                          with_reducible rfl
                        rotate_left
                        · simp only [Act.put, List.setIfInBounds_toArray, List.set_cons_zero, List.set_cons_succ, i64_w, i32_w]
                          rfl
                        refine pure_ (i := 11) (N := some 41) (v := ?_) (a' := ?_) #[true, true, true, true, true, true, true, true, true, true, true, true] rfl rfl (any_of HT_.out (by kernel_rfl)) (fun _ _ _ h => h) (Or.inl ⟨by rfl, ?_⟩) ?_ ?_
                        rotate_left
                        · intro w'
                          go_simp
                          with_reducible rfl
                        rotate_left
                        · simp only [Act.put, List.setIfInBounds_toArray, List.set_cons_zero, List.set_cons_succ, i64_w, i32_w]
                          rfl
                        refine done_ (done_of HT_.out (by kernel_rfl)) ?_
                        try go_wp2
                        go_roundg k2
                        case measure => have := HK1.out; have := HK2.out; omega
                        case rel => exact ⟨(x8_2), (wrap64 (x9_2 + 1)), (by first | rfl | (simp; done) | (simp [*]; done)), (by first | rfl | (simp; done) | (simp [*]; done)), H', ⟨by have := HK1.out; have := HK2.out; omega⟩, ⟨by (with_reducible repeat (first | apply Kd.N_alloc | apply Kd.N_drewN | apply Kd.N_drew)); exact HO_156001.out⟩, ⟨by (with_reducible repeat (first | refine blk_drewN ?_ _ | refine blk_drew ?_ | refine blk_alloc ?_ _)); exact BK148.out⟩, ⟨by (with_reducible repeat (first | refine blk_drewN ?_ _ | refine blk_drew ?_ | refine blk_alloc ?_ _)); exact BK149.out⟩, ⟨by (with_reducible repeat (first | refine blk_drewN ?_ _ | refine blk_drew ?_ | refine blk_alloc ?_ _)); exact BK155.out⟩, ⟨by repeat (first | (with_reducible first | exact HB.out | apply below_alloc | apply pw_below_drewN | apply below_drew1 | refine below_set ?_ GE148.out | refine below_set ?_ GE149.out | refine below_set ?_ GE155.out) | exact HB.out)⟩⟩
                    · rw [if_neg c26] at H
                      exact absurd H (by simp)
                  · rw [if_neg c25] at H
                    exact absurd H (by simp)
                · rw [if_neg c24] at H
                  exact absurd H (by simp)
              · rw [if_neg c23] at H
                have c23b0 : decide (x9_2 < (l1.length : Int)) = false := decide_eq_false c23
                clear c23
                by_cases c31 : 0 ≤ x7_1
                · rw [if_pos c31] at H
                  have c31b0 : decide (0 ≤ x7_1) = true := decide_eq_true c31
                  clear c31
                  by_cases c32 : x7_1 < (x156001_1.length : Int)
                  · rw [if_pos c32] at H
                    have c32b0 : decide (x7_1 < (x156001_1.length : Int)) = true := decide_eq_true c32
                    clear c32
                    obtain ⟨ji33, hji33⟩ : ∃ j_ : Int, (mn x8_2 (wrap64 ((((rd_T61 x156001_1 x7_1).f1).length : Int) - ((rd_T61 x156001_1 x7_1).f2)))) = j_ := ⟨_, rfl⟩
                    replace H : (if 0 ≤ (wrap64 (((rd_T61 x156001_1 x7_1).f2) + (ji33))) then (if (wrap64 (((rd_T61 x156001_1 x7_1).f2) + (ji33))) ≤ (((rd_T61 x156001_1 x7_1).f1).length : Int) then ((some (x156001_1.set (x7_1 : Int).toNat (⟨(rd_T61 x156001_1 x7_1).f0, (((rd_T61 x156001_1 x7_1).f1).take ((wrap64 (((rd_T61 x156001_1 x7_1).f2) + (ji33))) : Int).toNat), (rd_T61 x156001_1 x7_1).f2⟩ : S61) : List (S61))).bind fun y163 => (dragnetref16_Crash.l0 k2 l1 (wrap64 (x7_1 + 1)) t151 (y163.set (x7_1 : Int).toNat (⟨(rd_T61 y163 x7_1).f0, (rd_T61 y163 x7_1).f1, wrap64 (((rd_T61 x156001_1 x7_1).f2) + (ji33))⟩ : S61)))) else (none)) else (none)) = some (r1, r2, r3) := by first | (rw [hji33] at H; exact H) | (simp only [hji33] at H ⊢; exact H)
                    have hji33_ : (if (wrap64 ((((rd_T61 x156001_1 x7_1).f1).length : Int) - ((rd_T61 x156001_1 x7_1).f2))) < x8_2 then (wrap64 ((((rd_T61 x156001_1 x7_1).f1).length : Int) - ((rd_T61 x156001_1 x7_1).f2))) else x8_2) = ji33 := hji33
                    obtain ⟨ji34, hji34⟩ : ∃ j_ : Int, (wrap64 (((rd_T61 x156001_1 x7_1).f2) + (ji33))) = j_ := ⟨_, rfl⟩
                    replace H : (if 0 ≤ (ji34) then (if (ji34) ≤ (((rd_T61 x156001_1 x7_1).f1).length : Int) then ((some (x156001_1.set (x7_1 : Int).toNat (⟨(rd_T61 x156001_1 x7_1).f0, (((rd_T61 x156001_1 x7_1).f1).take ((ji34) : Int).toNat), (rd_T61 x156001_1 x7_1).f2⟩ : S61) : List (S61))).bind fun y163 => (dragnetref16_Crash.l0 k2 l1 (wrap64 (x7_1 + 1)) t151 (y163.set (x7_1 : Int).toNat (⟨(rd_T61 y163 x7_1).f0, (rd_T61 y163 x7_1).f1, ji34⟩ : S61)))) else (none)) else (none)) = some (r1, r2, r3) := by first | (rw [hji34] at H; exact H) | (simp only [hji34] at H ⊢; exact H)
                    have hji34w : (IntKind.i64.wrap (((rd_T61 x156001_1 x7_1).f2) + (ji33))) = ji34 := (i64_w _).trans hji34
                    by_cases c35 : 0 ≤ (ji34)
                    · rw [if_pos c35] at H
                      have c35b0 := eq_true c35
                      have c35b1 : decide (0 ≤ (ji34)) = true := decide_eq_true c35
                      clear c35
                      by_cases c36 : (ji34) ≤ (((rd_T61 x156001_1 x7_1).f1).length : Int)
                      · rw [if_pos c36] at H
                        have c36b0 := eq_true c36
                        have c36b1 : decide ((ji34) ≤ (((rd_T61 x156001_1 x7_1).f1).length : Int)) = true := decide_eq_true c36
                        clear c36
                        obtain ⟨y158, hy158⟩ : ∃ y_ : List Int, y_ = (((rd_T61 x156001_1 x7_1).f1).take ((ji34) : Int).toNat) := ⟨_, rfl⟩
                        replace H : ((some (x156001_1.set (x7_1 : Int).toNat (⟨(rd_T61 x156001_1 x7_1).f0, y158, (rd_T61 x156001_1 x7_1).f2⟩ : S61) : List (S61))).bind fun y163 => (dragnetref16_Crash.l0 k2 l1 (wrap64 (x7_1 + 1)) t151 (y163.set (x7_1 : Int).toNat (⟨(rd_T61 y163 x7_1).f0, (rd_T61 y163 x7_1).f1, ji34⟩ : S61)))) = some (r1, r2, r3) := by first | (rw [hy158]; with_reducible exact H) | (have H2_ := (Option.bind_some _ _).symm.trans H; rw [hy158]; with_reducible exact H2_) | (have H2_ := (Option.bind_some _ _).symm.trans H; with_reducible exact H2_) | with_reducible exact H | (rw [hy158]; exact H) | exact H
                        have Ny158 := Aside0.mk hy158
                        clear hy158
                        obtain ⟨y163, hy163⟩ : ∃ y_ : List (S61), y_ = (x156001_1.set (x7_1 : Int).toNat (⟨(rd_T61 x156001_1 x7_1).f0, y158, (rd_T61 x156001_1 x7_1).f2⟩ : S61)) := ⟨_, rfl⟩
                        replace H : (dragnetref16_Crash.l0 k2 l1 (wrap64 (x7_1 + 1)) t151 (y163.set (x7_1 : Int).toNat (⟨(rd_T61 y163 x7_1).f0, (rd_T61 y163 x7_1).f1, ji34⟩ : S61))) = some (r1, r2, r3) := by first | (rw [hy163]; with_reducible exact H) | (have H2_ := (Option.bind_some _ _).symm.trans H; rw [hy163]; with_reducible exact H2_) | (have H2_ := (Option.bind_some _ _).symm.trans H; with_reducible exact H2_) | with_reducible exact H | (rw [hy163]; exact H) | exact H
                        have Ny163 := Aside0.mk hy163
                        clear hy163
                        obtain ⟨y164, hy164⟩ : ∃ y_ : List (S61), y_ = (y163.set (x7_1 : Int).toNat (⟨(rd_T61 y163 x7_1).f0, (rd_T61 y163 x7_1).f1, ji34⟩ : S61)) := ⟨_, rfl⟩
                        replace H : (dragnetref16_Crash.l0 k2 l1 (wrap64 (x7_1 + 1)) t151 y164) = some (r1, r2, r3) := by first | (rw [hy164]; with_reducible exact H) | (have H2_ := (Option.bind_some _ _).symm.trans H; rw [hy164]; with_reducible exact H2_) | (have H2_ := (Option.bind_some _ _).symm.trans H; with_reducible exact H2_) | with_reducible exact H | (rw [hy164]; exact H) | exact H
                        have Ny164 := Aside0.mk hy164
                        clear hy164
                        have H' := Aside0.mk H
                        clear H
                        have hnb39 := NB155_148.out
                        have hnc39 := NB148_155.out
                        have hnb40 := NB155_149.out
                        have hnc40 := NB149_155.out
                        have hcz41_0 : wr.cell? ⟨gb155, 0, none⟩ = some (.int .i64 t151) := (blk_cell BK155.out 0).trans rfl
                        have hcz41_1 : wr.cell? ⟨gb155, 1, none⟩ = some (.slice Ao22 x156001_1.length co22) := (blk_cell BK155.out 1).trans rfl
                        have hfz41_0 := blk_frozen BK155.out 0
                        have hfz41_1 := blk_frozen BK155.out 1
                        have p156 : 0 ≤ (x7_1 : Int) := of_decide_eq_true (by first | (with_reducible assumption) | assumption)
                        have q156 : x7_1 < (x156001_1.length : Int) := of_decide_eq_true (by first | (with_reducible assumption) | assumption)
                        obtain ⟨ad156, A156_1, c156_1, e156, hx156_0, hx156_1, hx156_2, hl156_1, hi156_1⟩ := at_T61 (Kd.N_reads' HO_156001.out).2.2 x7_1 p156 q156
                        cases e156
                        obtain ⟨ce156, hce156, hMe156, hcc156⟩ := Kd.N_get HO_156001.out z61 x7_1 p156 (by first | exact q156 | exact of_decide_eq_true (by first | (with_reducible assumption) | assumption) | (have e_ := (Kd.N_reads' HO_156001.out).1; omega))
                        obtain ⟨ua156_1, uc156_1, rfl, ul156_1, ge156_1⟩ := k61_openF hMe156
                        have hv156_1 := hcc156 1 _ rfl
                        rw [add_field _ _ 1 (by omega)] at hv156_1
                        replace hv156_1 := Option.some.inj (hv156_1.symm.trans hx156_1)
                        injection hv156_1 with hva_ hvn_ hvc_
                        rw [hva_] at ge156_1
                        rw [hvc_] at ul156_1
                        have HL156_1 := Aside0.mk (show Kd.V (Kd.int .u8) 5 _ w.heap.size _ _ ((rd_T61 x156001_1 x7_1).f1) from Kd.V_mk ul156_1 ge156_1)
                        clear hva_ hvn_ hvc_ ge156_1 ul156_1
                        clear hcc156 hce156
                        have HR156_1 := Aside0.mk hi156_1
                        have HC156_1 := Aside0.mk hl156_1
                        clear hi156_1 hl156_1
                        replace p156 := eq_true p156
                        replace q156 := eq_true q156
                        try go_wp2_with (first | ((with_reducible refine gate_dst (N := 10) rfl ?_); refine box_event ?hg (N := 10) ?hd (cs := #[.string (⟨#[]⟩ : ByteArray), .slice none 0 0, .int .i64 0]) (t := 61) ?hr ?_; (case hd => rfl); (case hg => rfl); (case hr => first | (go_simp; done) | (go_simp; rfl)); intro gb157 hg w42 hbox hb; have n0_ := Aside0.mk (Kd.N_below (Kd.N_elderB (by (with_reducible repeat (first | apply Kd.N_alloc | apply Kd.N_drewN | apply Kd.N_drew)); exact HO_156001.out) gb157 (Nat.le_of_eq hg.symm)) hb); have n1_ := Aside0.mk (Kd.V_below (Kd.V_elderB (by (with_reducible repeat (first | apply Kd.V_alloc | apply Kd.V_drewN | apply Kd.V_drew)); exact HL156_1.out) gb157 (Nat.le_of_eq hg.symm)) hb); have n2_ := Aside0.mk (blk_below (g := gb148) (o := .cells #[.int .i64 a0_0, .slice A0_1 l0_1.length c0_1] 24 (0, 0)) (by (with_reducible repeat (first | refine blk_drewN ?_ _ | refine blk_drew ?_ | refine blk_alloc ?_ _)); exact BK148.out) hb); have n3_ := Aside0.mk (blk_below (g := gb149) (o := .cells #[.int .i64 0, .slice none 0 0] 24 (0, 0)) (by (with_reducible repeat (first | refine blk_drewN ?_ _ | refine blk_drew ?_ | refine blk_alloc ?_ _)); exact BK149.out) hb); have n4_ := Aside0.mk (blk_below (g := gb155) (o := .cells #[.int .i64 t151, .slice (some ad156) x156001_1.length co22] 24 (0, 0)) (by (with_reducible repeat (first | refine blk_drewN ?_ _ | refine blk_drew ?_ | refine blk_alloc ?_ _)); exact BK155.out) hb); have n5_ := Aside0.mk (Kd.C_below (by repeat (first | (with_reducible exact HR156_1.out) | (with_reducible refine Kd.C_alloc ?_ _) | (with_reducible refine Kd.C_drewN ?_ _) | (with_reducible refine Kd.C_drew ?_) | exact HR156_1.out)) hb); have n6_ := Aside0.mk (below_step (by repeat (first | (with_reducible first | exact HB.out | apply below_alloc | apply pw_below_drewN | apply below_drew1 | refine below_set ?_ GE148.out | refine below_set ?_ GE149.out | refine below_set ?_ GE155.out) | exact HB.out)) hb); have n7_ := Aside0.mk (hbox); have n8_ := Aside0.mk ((by rw [hg]; exact (below_size (by repeat (first | (with_reducible first | exact HB.out | apply below_alloc | apply pw_below_drewN | apply below_drew1 | refine below_set ?_ GE148.out | refine below_set ?_ GE149.out | refine below_set ?_ GE155.out) | exact HB.out))) : w.heap.size ≤ gb157)); have n9_ := Aside0.mk ((by rw [hg]; exact (below_size (by repeat (first | (with_reducible first | exact HB.out | apply below_alloc | apply pw_below_drewN | apply below_drew1 | refine below_set ?_ GE148.out | refine below_set ?_ GE149.out | refine below_set ?_ GE155.out) | exact HB.out))) : w.heap.size ≤ gb157)); have n10_ := Aside0.mk ((by rw [hg]; exact Nat.ne_of_lt (blk_lt (g := gb148) (o := .cells #[.int .i64 a0_0, .slice A0_1 l0_1.length c0_1] 24 (0, 0)) (by (with_reducible repeat (first | refine blk_drewN ?_ _ | refine blk_drew ?_ | refine blk_alloc ?_ _)); exact BK148.out)) : gb148 ≠ gb157)); have n11_ := Aside0.mk ((by rw [hg]; exact Nat.ne_of_gt (blk_lt (g := gb148) (o := .cells #[.int .i64 a0_0, .slice A0_1 l0_1.length c0_1] 24 (0, 0)) (by (with_reducible repeat (first | refine blk_drewN ?_ _ | refine blk_drew ?_ | refine blk_alloc ?_ _)); exact BK148.out)) : gb157 ≠ gb148)); have n12_ := Aside0.mk ((by rw [hg]; exact Nat.ne_of_lt (blk_lt (g := gb149) (o := .cells #[.int .i64 0, .slice none 0 0] 24 (0, 0)) (by (with_reducible repeat (first | refine blk_drewN ?_ _ | refine blk_drew ?_ | refine blk_alloc ?_ _)); exact BK149.out)) : gb149 ≠ gb157)); have n13_ := Aside0.mk ((by rw [hg]; exact Nat.ne_of_gt (blk_lt (g := gb149) (o := .cells #[.int .i64 0, .slice none 0 0] 24 (0, 0)) (by (with_reducible repeat (first | refine blk_drewN ?_ _ | refine blk_drew ?_ | refine blk_alloc ?_ _)); exact BK149.out)) : gb157 ≠ gb149)); have n14_ := Aside0.mk ((by rw [hg]; exact Nat.ne_of_lt (blk_lt (g := gb155) (o := .cells #[.int .i64 t151, .slice (some ad156) x156001_1.length co22] 24 (0, 0)) (by (with_reducible repeat (first | refine blk_drewN ?_ _ | refine blk_drew ?_ | refine blk_alloc ?_ _)); exact BK155.out)) : gb155 ≠ gb157)); have n15_ := Aside0.mk ((by rw [hg]; exact Nat.ne_of_gt (blk_lt (g := gb155) (o := .cells #[.int .i64 t151, .slice (some ad156) x156001_1.length co22] 24 (0, 0)) (by (with_reducible repeat (first | refine blk_drewN ?_ _ | refine blk_drew ?_ | refine blk_alloc ?_ _)); exact BK155.out)) : gb157 ≠ gb155)); clear HO_156001; clear HL156_1; clear BK148; clear BK149; clear BK155; clear HR156_1; clear HB; have HO_156001 := n0_; have HL156_1 := n1_; have BK148 := n2_; have BK149 := n3_; have BK155 := n4_; have HR156_1 := n5_; have HB := n6_; have BK157 := n7_; have GW157 := n8_; have GE157 := n9_; have NB148_157 := n10_; have NB157_148 := n11_; have NB149_157 := n12_; have NB157_149 := n13_; have NB155_157 := n14_; have NB157_155 := n15_; clear n0_ n1_ n2_ n3_ n4_ n5_ n6_ n7_ n8_ n9_ n10_ n11_ n12_ n13_ n14_ n15_; clear hb hbox hg; have hnb43 := NB157_148.out; have hnc43 := NB148_157.out; have hnb44 := NB157_149.out; have hnc44 := NB149_157.out; have hnb45 := NB157_155.out; have hnc45 := NB155_157.out; have hcz46_0 : w42.cell? ⟨gb157, 0, none⟩ = some (.string (⟨#[]⟩ : ByteArray)) := (blk_cell BK157.out 0).trans rfl; have hcz46_1 : w42.cell? ⟨gb157, 1, none⟩ = some (.slice none 0 0) := (blk_cell BK157.out 1).trans rfl; have hcz46_2 : w42.cell? ⟨gb157, 2, none⟩ = some (.int .i64 0) := (blk_cell BK157.out 2).trans rfl; have hfz46_0 := blk_frozen BK157.out 0; have hfz46_1 := blk_frozen BK157.out 1; have hfz46_2 := blk_frozen BK157.out 2))
                        have n0_ : Aside0 (Kd.N k61 61 (((w42.setCell ⟨gb157, 0, none⟩ (.string ((rd_T61 x156001_1 x7_1).f0))).setCell ⟨gb157, 1, none⟩ (.slice A156_1 ((rd_T61 x156001_1 x7_1).f1).length c156_1)).setCell ⟨gb157, 2, none⟩ (.int .i64 ((rd_T61 x156001_1 x7_1).f2))) w.heap.size (fun k_ => (w.heap.size ≤ k_) ∧ k_ ≠ gb148 ∧ k_ ≠ gb149 ∧ k_ ≠ gb155 ∧ k_ ≠ gb157) (.slice (some ad156) x156001_1.length co22) x156001_1) := ⟨by (with_reducible repeat (first | apply Kd.N_alloc | apply Kd.N_drewN | apply Kd.N_drew)); exact Kd.N_mono (Kd.N_far (p := ⟨gb157, 2, none⟩) (Kd.N_far (p := ⟨gb157, 1, none⟩) (Kd.N_far (p := ⟨gb157, 0, none⟩) (Kd.N_mono HO_156001.out (fun k_ hk => (⟨hk, hk.2⟩ : _ ∧ k_ ≠ gb157))) (fun _ hk => hk.2) (.string ((rd_T61 x156001_1 x7_1).f0))) (fun _ hk => hk.2) (.slice A156_1 ((rd_T61 x156001_1 x7_1).f1).length c156_1)) (fun _ hk => hk.2) (.int .i64 ((rd_T61 x156001_1 x7_1).f2))) (fun _ hk => ⟨hk.1.1.1, ⟨hk.1.1.2.1, ⟨hk.1.1.2.2.1, ⟨hk.1.1.2.2.2, hk.1.2⟩⟩⟩⟩)⟩
                        have n1_ : Aside0 (Kd.V (Kd.int .u8) 5 (((w42.setCell ⟨gb157, 0, none⟩ (.string ((rd_T61 x156001_1 x7_1).f0))).setCell ⟨gb157, 1, none⟩ (.slice A156_1 ((rd_T61 x156001_1 x7_1).f1).length c156_1)).setCell ⟨gb157, 2, none⟩ (.int .i64 ((rd_T61 x156001_1 x7_1).f2))) w.heap.size (fun k_ => (w.heap.size ≤ k_) ∧ some k_ ≠ (.slice (some ad156) x156001_1.length co22 : Value).ownBlock ∧ k_ ≠ gb148 ∧ k_ ≠ gb149 ∧ k_ ≠ gb155 ∧ k_ ≠ gb157) (.slice A156_1 ((rd_T61 x156001_1 x7_1).f1).length c156_1) ((rd_T61 x156001_1 x7_1).f1)) := ⟨by (with_reducible repeat (first | apply Kd.V_alloc | apply Kd.V_drewN | apply Kd.V_drew)); exact Kd.V_mono (Kd.V_far (p := ⟨gb157, 2, none⟩) (Kd.V_far (p := ⟨gb157, 1, none⟩) (Kd.V_far (p := ⟨gb157, 0, none⟩) (Kd.V_mono HL156_1.out (fun k_ hk => (⟨hk, hk.2⟩ : _ ∧ k_ ≠ gb157))) (fun _ hk => hk.2) (.string ((rd_T61 x156001_1 x7_1).f0))) (fun _ hk => hk.2) (.slice A156_1 ((rd_T61 x156001_1 x7_1).f1).length c156_1)) (fun _ hk => hk.2) (.int .i64 ((rd_T61 x156001_1 x7_1).f2))) (fun _ hk => ⟨hk.1.1.1.1, ⟨hk.1.1.2, ⟨hk.1.1.1.2.1, ⟨hk.1.1.1.2.2.1, ⟨hk.1.1.1.2.2.2, hk.1.2⟩⟩⟩⟩⟩)⟩
                        have n2_ : Aside0 ((((w42.setCell ⟨gb157, 0, none⟩ (.string ((rd_T61 x156001_1 x7_1).f0))).setCell ⟨gb157, 1, none⟩ (.slice A156_1 ((rd_T61 x156001_1 x7_1).f1).length c156_1)).setCell ⟨gb157, 2, none⟩ (.int .i64 ((rd_T61 x156001_1 x7_1).f2))).heap[gb148]? = some (.cells #[.int .i64 a0_0, .slice A0_1 l0_1.length c0_1] 24 (0, 0))) := ⟨by (with_reducible repeat (first | refine blk_drewN ?_ _ | refine blk_drew ?_ | refine blk_alloc ?_ _)); refine blk_far ?_ NB148_157.out _; (with_reducible repeat (first | refine blk_drewN ?_ _ | refine blk_drew ?_ | refine blk_alloc ?_ _)); refine blk_far ?_ NB148_157.out _; (with_reducible repeat (first | refine blk_drewN ?_ _ | refine blk_drew ?_ | refine blk_alloc ?_ _)); refine blk_far ?_ NB148_157.out _; (with_reducible repeat (first | refine blk_drewN ?_ _ | refine blk_drew ?_ | refine blk_alloc ?_ _)); exact BK148.out⟩
                        have n3_ : Aside0 ((((w42.setCell ⟨gb157, 0, none⟩ (.string ((rd_T61 x156001_1 x7_1).f0))).setCell ⟨gb157, 1, none⟩ (.slice A156_1 ((rd_T61 x156001_1 x7_1).f1).length c156_1)).setCell ⟨gb157, 2, none⟩ (.int .i64 ((rd_T61 x156001_1 x7_1).f2))).heap[gb149]? = some (.cells #[.int .i64 0, .slice none 0 0] 24 (0, 0))) := ⟨by (with_reducible repeat (first | refine blk_drewN ?_ _ | refine blk_drew ?_ | refine blk_alloc ?_ _)); refine blk_far ?_ NB149_157.out _; (with_reducible repeat (first | refine blk_drewN ?_ _ | refine blk_drew ?_ | refine blk_alloc ?_ _)); refine blk_far ?_ NB149_157.out _; (with_reducible repeat (first | refine blk_drewN ?_ _ | refine blk_drew ?_ | refine blk_alloc ?_ _)); refine blk_far ?_ NB149_157.out _; (with_reducible repeat (first | refine blk_drewN ?_ _ | refine blk_drew ?_ | refine blk_alloc ?_ _)); exact BK149.out⟩
                        have n4_ : Aside0 ((((w42.setCell ⟨gb157, 0, none⟩ (.string ((rd_T61 x156001_1 x7_1).f0))).setCell ⟨gb157, 1, none⟩ (.slice A156_1 ((rd_T61 x156001_1 x7_1).f1).length c156_1)).setCell ⟨gb157, 2, none⟩ (.int .i64 ((rd_T61 x156001_1 x7_1).f2))).heap[gb155]? = some (.cells #[.int .i64 t151, .slice (some ad156) x156001_1.length co22] 24 (0, 0))) := ⟨by (with_reducible repeat (first | refine blk_drewN ?_ _ | refine blk_drew ?_ | refine blk_alloc ?_ _)); refine blk_far ?_ NB155_157.out _; (with_reducible repeat (first | refine blk_drewN ?_ _ | refine blk_drew ?_ | refine blk_alloc ?_ _)); refine blk_far ?_ NB155_157.out _; (with_reducible repeat (first | refine blk_drewN ?_ _ | refine blk_drew ?_ | refine blk_alloc ?_ _)); refine blk_far ?_ NB155_157.out _; (with_reducible repeat (first | refine blk_drewN ?_ _ | refine blk_drew ?_ | refine blk_alloc ?_ _)); exact BK155.out⟩
                        have n5_ : Aside0 ((((w42.setCell ⟨gb157, 0, none⟩ (.string ((rd_T61 x156001_1 x7_1).f0))).setCell ⟨gb157, 1, none⟩ (.slice A156_1 ((rd_T61 x156001_1 x7_1).f1).length c156_1)).setCell ⟨gb157, 2, none⟩ (.int .i64 ((rd_T61 x156001_1 x7_1).f2))).heap[gb157]? = some (.cells #[.string ((rd_T61 x156001_1 x7_1).f0), .slice A156_1 ((rd_T61 x156001_1 x7_1).f1).length c156_1, .int .i64 ((rd_T61 x156001_1 x7_1).f2)] 61 (0, 0))) := ⟨by (with_reducible repeat (first | refine blk_drewN ?_ _ | refine blk_drew ?_ | refine blk_alloc ?_ _)); refine blk_put (cs := #[.string ((rd_T61 x156001_1 x7_1).f0), .slice A156_1 ((rd_T61 x156001_1 x7_1).f1).length c156_1, .int .i64 0]) ?_ 2 _ rfl; (with_reducible repeat (first | refine blk_drewN ?_ _ | refine blk_drew ?_ | refine blk_alloc ?_ _)); refine blk_put (cs := #[.string ((rd_T61 x156001_1 x7_1).f0), .slice none 0 0, .int .i64 0]) ?_ 1 _ rfl; (with_reducible repeat (first | refine blk_drewN ?_ _ | refine blk_drew ?_ | refine blk_alloc ?_ _)); refine blk_put (cs := #[.string (⟨#[]⟩ : ByteArray), .slice none 0 0, .int .i64 0]) ?_ 0 _ rfl; (with_reducible repeat (first | refine blk_drewN ?_ _ | refine blk_drew ?_ | refine blk_alloc ?_ _)); exact BK157.out⟩
                        have n6_ : Aside0 (Below w.heap.size w (((w42.setCell ⟨gb157, 0, none⟩ (.string ((rd_T61 x156001_1 x7_1).f0))).setCell ⟨gb157, 1, none⟩ (.slice A156_1 ((rd_T61 x156001_1 x7_1).f1).length c156_1)).setCell ⟨gb157, 2, none⟩ (.int .i64 ((rd_T61 x156001_1 x7_1).f2)))) := ⟨by repeat (first | (with_reducible first | exact HB.out | apply below_alloc | apply pw_below_drewN | apply below_drew1 | refine below_set ?_ GE148.out | refine below_set ?_ GE149.out | refine below_set ?_ GE155.out | refine below_set ?_ GE157.out) | exact HB.out)⟩
                        (try clear HO_156001)
                        (try clear HL156_1)
                        (try clear BK148)
                        (try clear BK149)
                        (try clear BK155)
                        (try clear BK157)
                        (try clear HB)
                        generalize (((w42.setCell ⟨gb157, 0, none⟩ (.string ((rd_T61 x156001_1 x7_1).f0))).setCell ⟨gb157, 1, none⟩ (.slice A156_1 ((rd_T61 x156001_1 x7_1).f1).length c156_1)).setCell ⟨gb157, 2, none⟩ (.int .i64 ((rd_T61 x156001_1 x7_1).f2))) = w47 at n0_ n1_ n2_ n3_ n4_ n5_ n6_ ⊢
                        have HO_156001 := n0_
                        have HL156_1 := n1_
                        have BK148 := n2_
                        have BK149 := n3_
                        have BK155 := n4_
                        have BK157 := n5_
                        have HB := n6_
                        clear n0_ n1_ n2_ n3_ n4_ n5_ n6_
                        have n0_ := Aside0.mk (Kd.N_drew HO_156001.out)
                        have n1_ := Aside0.mk (Kd.V_drew HL156_1.out)
                        have n2_ := Aside0.mk (blk_drew BK148.out)
                        have n3_ := Aside0.mk (blk_drew BK149.out)
                        have n4_ := Aside0.mk (blk_drew BK155.out)
                        have n5_ := Aside0.mk (blk_drew BK157.out)
                        have n6_ := Aside0.mk (below_drew1 HB.out)
                        clear HO_156001
                        clear HL156_1
                        clear BK148
                        clear BK149
                        clear BK155
                        clear BK157
                        clear HB
                        have HO_156001 := n0_
                        have HL156_1 := n1_
                        have BK148 := n2_
                        have BK149 := n3_
                        have BK155 := n4_
                        have BK157 := n5_
                        have HB := n6_
                        clear n0_ n1_ n2_ n3_ n4_ n5_ n6_
                        have q49 : ((ji34) : Int) ≤ ((((rd_T61 x156001_1 x7_1).f1).length : Int) : Int) := of_decide_eq_true (by first | (with_reducible assumption) | assumption)
                        obtain ⟨i049, hi049, _, hsz49, _⟩ := info_parts info5
                        have hroom49 : ((rd_T61 x156001_1 x7_1).f1).length ≤ c156_1 := HC156_1.out
                        have hC49 : Kd.F (Kd.int .u8) _ _ A156_1 ((rd_T61 x156001_1 x7_1).f1).length ((rd_T61 x156001_1 x7_1).f1) := (Kd.V_at (base := w.heap.size) HL156_1.out).2.2
                        have hcut49 := cut_to (P := Try.prog) 25 5 .i64 Try.underlying25 hi049 A156_1 ((rd_T61 x156001_1 x7_1).f1).length c156_1 (ji34) (of_decide_eq_true (by first | (with_reducible assumption) | assumption)) q49 hroom49
                        have hr49 := Kd.F_take (m := ((ji34) : Int).toNat) hC49 (by omega)
                        have hy49 : y158.length = ((ji34) : Int).toNat := (by rw [Ny158.out, List.length_take]; omega)
                        rw [← Ny158.out] at hr49
                        rw [← hy49] at hcut49
                        have HO162 := Aside0.mk (show Kd.V (Kd.int .u8) 5 _ w.heap.size _ (.slice A156_1 y158.length c156_1) y158 from Kd.V_mk (by omega) hr49)
                        have HC162 := Aside0.mk (show y158.length ≤ c156_1 from by omega)
                        clear hr49 hC49 hroom49 hi049 hsz49
                        have KY49 := Aside0.mk hy49
                        clear hy49
                        replace q49 := eq_true q49
                        have p37 : 0 ≤ (x7_1 : Int) := of_decide_eq_true (by first | (with_reducible assumption) | assumption)
                        have q37 : (x7_1 : Int) < ((x156001_1.length : Int) : Int) := of_decide_eq_true (by first | (with_reducible assumption) | assumption)
                        obtain ⟨go37, co37, eo37, gb37, gl37, cl37, HG37⟩ := Kd.N_form HO_156001.out (by omega)
                        (first | cases eo37 | (injection eo37 with ea_ en_ ec_; (first | subst ea_ | (injection ea_ with ea_; subst ea_)); subst ec_; clear en_))
                        have GB37 := Aside0.mk gb37
                        have GG37 := Aside0.mk HG37
                        clear gb37 gl37 HG37
                        (first | simp only [add_plain] at hx156_0 | skip)
                        (first | simp only [add_plain] at hx156_1 | skip)
                        (first | simp only [add_plain] at hx156_2 | skip)
                        obtain ⟨ce37, hcl37, hM37, hcc37, hfr37⟩ := Kd.N_elem HO_156001.out z61 (x7_1 : Int) p37 q37
                        obtain ⟨ua37_1, uc37_1, rfl, ul37_1, ge37_1⟩ := k61_openF hM37
                        have hx37_0 : World.cell? _ ⟨go37, (x7_1 : Int).toNat * 3, none⟩ = some (.string ((rd_T61 x156001_1 x7_1).f0)) := hcc37 0 _ rfl
                        have hx37_1 : World.cell? _ ⟨go37, (x7_1 : Int).toNat * 3 + 1, none⟩ = some (.slice ua37_1 ((rd_T61 x156001_1 x7_1).f1).length uc37_1) := hcc37 1 _ rfl
                        have hx37_2 : World.cell? _ ⟨go37, (x7_1 : Int).toNat * 3 + 2, none⟩ = some (.int .i64 ((rd_T61 x156001_1 x7_1).f2)) := hcc37 2 _ rfl
                        have hf37_0 : World.frozen? _ ⟨go37, (x7_1 : Int).toNat * 3, none⟩ = false := hfr37 0
                        have hf37_1 : World.frozen? _ ⟨go37, (x7_1 : Int).toNat * 3 + 1, none⟩ = false := hfr37 1
                        have hf37_2 : World.frozen? _ ⟨go37, (x7_1 : Int).toNat * 3 + 2, none⟩ = false := hfr37 2
                        clear hcl37 hcc37 hfr37 hM37
                        replace p37 := eq_true p37
                        replace q37 := eq_true q37
                        have HX50 := Aside0.mk (show Kd.N k61 61 _ w.heap.size (fun k_ => (w.heap.size ≤ k_) ∧ k_ ≠ gb148 ∧ k_ ≠ gb149 ∧ k_ ≠ gb155 ∧ k_ ≠ gb157) (.slice (some ⟨go37, 0, none⟩) x156001_1.length co22) x156001_1 from (Kd.N_mono (HO_156001.out) (fun k_ hk => ⟨hk.1, ⟨hk.2.1, ⟨hk.2.2.1, ⟨hk.2.2.2.1, hk.2.2.2.2⟩⟩⟩⟩)))
                        obtain ⟨ce50, hcl50, hM50, hcc50, hfr50⟩ := Kd.N_elem HX50.out z61 (x7_1 : Int) (of_decide_eq_true (by first | (with_reducible assumption) | assumption)) (by have h_ : (x7_1 : Int) < ((x156001_1.length : Int) : Int) := of_decide_eq_true (by first | (with_reducible assumption) | assumption); first | exact h_ | (have e_ := (Kd.N_reads' HO_156001.out).1; omega) | simpa using h_)
                        obtain ⟨ua50_1, uc50_1, rfl, ul50_1, ge50_1⟩ := k61_openF hM50
                        have HP50 := (Kd.N_seg HX50.out (x7_1 : Int) (of_decide_eq_true (by first | (with_reducible assumption) | assumption)) (by have h_ : (x7_1 : Int) < ((x156001_1.length : Int) : Int) := of_decide_eq_true (by first | (with_reducible assumption) | assumption); first | exact h_ | (have e_ := (Kd.N_reads' HO_156001.out).1; omega) | simpa using h_) (seg := [.slice A156_1 y158.length c156_1]) (j := 1) hcl50 hcc50 (show 2 ≤ 3 from by decide) (x' := (⟨(rd_T61 x156001_1 x7_1).f0, y158, (rd_T61 x156001_1 x7_1).f2⟩ : S61)) (k61_mkF _ _ (⟨(rd_T61 x156001_1 x7_1).f0, y158, (rd_T61 x156001_1 x7_1).f2⟩ : S61) (Kd.V_reads' (Kd.V_mono (ok' := (fun k_ => ((fun k_ => (w.heap.size ≤ k_) ∧ k_ ≠ gb148 ∧ k_ ≠ gb149 ∧ k_ ≠ gb155 ∧ k_ ≠ gb157)) k_ ∧ k_ ≠ go37)) (HO162.out) (fun k_ hk => ⟨⟨hk.1, ⟨hk.2.2.1, ⟨hk.2.2.2.1, ⟨hk.2.2.2.2.1, hk.2.2.2.2.2⟩⟩⟩⟩, fun e_ => (hk.2.1) (by rw [e_]; rfl)⟩))).2.1 (Kd.V_F (Kd.V_mono (ok' := (fun k_ => ((fun k_ => (w.heap.size ≤ k_) ∧ k_ ≠ gb148 ∧ k_ ≠ gb149 ∧ k_ ≠ gb155 ∧ k_ ≠ gb157)) k_ ∧ k_ ≠ go37)) (HO162.out) (fun k_ hk => ⟨⟨hk.1, ⟨hk.2.2.1, ⟨hk.2.2.2.1, ⟨hk.2.2.2.2.1, hk.2.2.2.2.2⟩⟩⟩⟩, fun e_ => (hk.2.1) (by rw [e_]; rfl)⟩)))) (fun _ hk => hk)).1
                        rw [← Ny163.out] at HP50
                        have HQ50 := Aside0.mk HP50
                        clear hcl50 hcc50 hfr50 hM50 HP50
                        refine start_ (n := 13) (S := fun w' => w'.cell? ⟨gb155, 0, none⟩ = some (.int .i64 t151) ∧ w'.cell? ⟨gb155, 1, none⟩ = some (.slice (some ⟨go37, 0, none⟩) x156001_1.length co22) ∧ w'.cell? ⟨gb157, 0, none⟩ = some (.string ((rd_T61 x156001_1 x7_1).f0)) ∧ w'.cell? ⟨gb157, 1, none⟩ = some (.slice A156_1 ((rd_T61 x156001_1 x7_1).f1).length c156_1) ∧ w'.cell? ⟨gb157, 2, none⟩ = some (.int .i64 ((rd_T61 x156001_1 x7_1).f2))) (ds := [12]) #[false, false, false, false, false, false, false, false, false, false, false, false, false] (by kernel_rfl) rfl rfl ⟨(blk_cell BK155.out 0).trans rfl, (blk_cell BK155.out 1).trans rfl, (blk_cell BK157.out 0).trans rfl, (blk_cell BK157.out 1).trans rfl, (blk_cell BK157.out 2).trans rfl⟩ (fun hHeld => ?_); refine with_tabW dragnetref16_Crash.tab15 dragnetref16_Crash.bits15 (fun HT_ HW_ => ?_)
                        generalize w47.drew = w48 at HO_156001 HL156_1 BK148 BK149 BK155 BK157 HB GG37 HO162 HQ50 hf37_0 hf37_1 hf37_2 hx156_0 hx156_1 hx156_2 hx37_0 hx37_1 hx37_2 hHeld ⊢
                        refine pure_ (i := 0) (N := some 61) (v := ?_) (a' := ?_) #[true, false, false, false, false, false, false, false, false, false, false, false, false] rfl rfl (any_of HT_.out (by kernel_rfl)) (fun _ _ _ h => h) (Or.inl ⟨by rfl, ?_⟩) ?_ ?_
                        rotate_left
                        · intro w'
                          go_simp
                          with_reducible rfl
                        rotate_left
                        · simp only [Act.put, List.setIfInBounds_toArray, List.set_cons_zero, List.set_cons_succ, i64_w, i32_w]
                          rfl
                        refine pure_ (i := 2) (N := some 63) (v := ?_) (a' := ?_) #[true, false, true, false, false, false, false, false, false, false, false, false, false] rfl rfl (any_of HT_.out (by kernel_rfl)) (fun _ _ _ h => h) (Or.inl ⟨by rfl, ?_⟩) ?_ ?_
                        rotate_left
                        · intro w'
                          go_simp
                          with_reducible rfl
                        rotate_left
                        · simp only [Act.put, List.setIfInBounds_toArray, List.set_cons_zero, List.set_cons_succ, i64_w, i32_w]
                          rfl
                        refine pure_ (i := 3) (N := some 64) (v := ?_) (a' := ?_) #[true, false, true, true, false, false, false, false, false, false, false, false, false] rfl rfl (any_of HT_.out (by kernel_rfl)) (fun _ _ _ h => h) (Or.inl ⟨by rfl, ?_⟩) ?_ ?_
                        rotate_left
                        · intro w'
                          go_simp
                          with_reducible rfl
                        rotate_left
                        · simp only [Act.put, List.setIfInBounds_toArray, List.set_cons_zero, List.set_cons_succ, i64_w, i32_w]
                          rfl
                        refine pure_ (i := 5) (N := some 66) (v := ?_) (a' := ?_) #[true, false, true, true, false, true, false, false, false, false, false, false, false] rfl rfl (any_of HT_.out (by kernel_rfl)) (fun _ _ _ h => h) (Or.inl ⟨by rfl, ?_⟩) ?_ ?_
                        rotate_left
                        · intro w'
                          go_simp
                          with_reducible rfl
                        rotate_left
                        · simp only [Act.put, List.setIfInBounds_toArray, List.set_cons_zero, List.set_cons_succ, i64_w, i32_w]
                          rfl
                        refine pure_ (i := 7) (N := some 68) (v := ?_) (a' := ?_) #[true, false, true, true, false, true, false, true, false, false, false, false, false] rfl rfl (any_of HT_.out (by kernel_rfl)) (fun _ _ _ h => h) (Or.inl ⟨by rfl, ?_⟩) ?_ ?_
                        rotate_left
                        · intro w'
                          go_simp
                          with_reducible rfl
                        rotate_left
                        · simp only [Act.put, List.setIfInBounds_toArray, List.set_cons_zero, List.set_cons_succ, i64_w, i32_w]
                          rfl
                        refine take_ (i := 1) (N := some 62) (v := ?_) (a' := ?_) #[true, true, true, true, false, true, false, true, false, false, false, false, false] rfl rfl (take_ofW HT_.out HW_.out (by kernel_rfl)) (fun _ _ _ h => h) (Or.inl ⟨by rfl, ?_⟩) hHeld ?_ ?_
                        rotate_left
                        · rintro w' ⟨s0, s1, s2, s3, s4⟩
                          go_simp
                          with_reducible rfl
                        rotate_left
                        · simp only [Act.put, List.setIfInBounds_toArray, List.set_cons_zero, List.set_cons_succ, i64_w, i32_w]
                          rfl
                        refine take_ (i := 4) (N := some 65) (v := ?_) (a' := ?_) #[true, true, true, true, true, true, false, true, false, false, false, false, false] rfl rfl (take_ofW HT_.out HW_.out (by kernel_rfl)) (fun _ _ _ h => h) (Or.inl ⟨by rfl, ?_⟩) hHeld ?_ ?_
                        rotate_left
                        · rintro w' ⟨s0, s1, s2, s3, s4⟩
                          go_simp
                          with_reducible rfl
                        rotate_left
                        · simp only [Act.put, List.setIfInBounds_toArray, List.set_cons_zero, List.set_cons_succ, i64_w, i32_w]
                          rfl
                        refine take_ (i := 6) (N := some 67) (v := ?_) (a' := ?_) #[true, true, true, true, true, true, true, true, false, false, false, false, false] rfl rfl (take_ofW HT_.out HW_.out (by kernel_rfl)) (fun _ _ _ h => h) (Or.inl ⟨by rfl, ?_⟩) hHeld ?_ ?_
                        rotate_left
                        · rintro w' ⟨s0, s1, s2, s3, s4⟩
                          go_simp
                          with_reducible rfl
                        rotate_left
                        · simp only [Act.put, List.setIfInBounds_toArray, List.set_cons_zero, List.set_cons_succ, i64_w, i32_w]
                          rfl
                        refine pure_ (i := 8) (N := some 69) (v := ?_) (a' := ?_) #[true, true, true, true, true, true, true, true, true, false, false, false, false] rfl rfl (any_of HT_.out (by kernel_rfl)) (fun _ _ _ h => h) (Or.inl ⟨by rfl, ?_⟩) ?_ ?_
                        rotate_left
                        · intro w'
                          go_simp
                          with_reducible rfl
                        rotate_left
                        · simp only [Act.put, List.setIfInBounds_toArray, List.set_cons_zero, List.set_cons_succ, i64_w, i32_w]
                          rfl
                        refine pure_ (i := 9) (N := some 70) (v := ?_) (a' := ?_) #[true, true, true, true, true, true, true, true, true, true, false, false, false] rfl rfl (any_of HT_.out (by kernel_rfl)) (fun _ _ _ h => h) (Or.inl ⟨by rfl, ?_⟩) ?_ ?_
                        rotate_left
                        · intro w'
                          go_simp
                          with_reducible rfl
                        rotate_left
                        · simp only [Act.put, List.setIfInBounds_toArray, List.set_cons_zero, List.set_cons_succ, i64_w, i32_w]
                          rfl
                        refine pure_ (i := 10) (N := some 71) (v := ?_) (a' := ?_) #[true, true, true, true, true, true, true, true, true, true, true, false, false] rfl rfl (any_of HT_.out (by kernel_rfl)) (fun _ _ _ h => h) (Or.inl ⟨by rfl, ?_⟩) ?_ ?_
                        rotate_left
                        · intro w'
                          go_simp
                          with_reducible rfl
                        rotate_left
                        · simp only [Act.put, List.setIfInBounds_toArray, List.set_cons_zero, List.set_cons_succ, i64_w, i32_w]
                          rfl
                        refine pure_ (i := 11) (N := some 72) (v := ?_) (a' := ?_) #[true, true, true, true, true, true, true, true, true, true, true, true, false] rfl rfl (any_of HT_.out (by kernel_rfl)) (fun _ _ _ h => h) (Or.inl ⟨by rfl, ?_⟩) ?_ ?_
                        rotate_left
                        · intro w'
                          go_simp
                          with_reducible rfl
                        rotate_left
                        · simp only [Act.put, List.setIfInBounds_toArray, List.set_cons_zero, List.set_cons_succ, i64_w, i32_w]
                          rfl
                        refine last_ (i := 12) (N := none) #[true, true, true, true, true, true, true, true, true, true, true, true, true] rfl rfl (one_of HT_.out (by kernel_rfl)) (by decide) (fun K hK => ?_)
                        refine skip_ (w1 := ?_) (by rfl) rfl ?_ ?_
                        rotate_left
                        · go_simp
                          rfl
                        refine hK.out _ _ ?_
                        clear hK K
                        refine done_ (done_of HT_.out (by kernel_rfl)) ?_
                        have n0_ : Aside0 (Kd.N k61 61 (w48.setCell ⟨go37, (x7_1 : Int).toNat * 3 + 1, none⟩ (.slice A156_1 y158.length c156_1)) w.heap.size (fun k_ => (w.heap.size ≤ k_) ∧ k_ ≠ gb148 ∧ k_ ≠ gb149 ∧ k_ ≠ gb155 ∧ k_ ≠ gb157) (.slice (some ⟨go37, 0, none⟩) x156001_1.length co22) y163) := ⟨by (with_reducible repeat (first | apply Kd.N_alloc | apply Kd.N_drewN | apply Kd.N_drew)); exact HQ50.out⟩
                        have n1_ : Aside0 (Kd.V (Kd.int .u8) 5 (w48.setCell ⟨go37, (x7_1 : Int).toNat * 3 + 1, none⟩ (.slice A156_1 y158.length c156_1)) w.heap.size (fun k_ => (w.heap.size ≤ k_) ∧ some k_ ≠ (.slice (some ⟨go37, 0, none⟩) x156001_1.length co22 : Value).ownBlock ∧ k_ ≠ gb148 ∧ k_ ≠ gb149 ∧ k_ ≠ gb155 ∧ k_ ≠ gb157) (.slice A156_1 ((rd_T61 x156001_1 x7_1).f1).length c156_1) ((rd_T61 x156001_1 x7_1).f1)) := ⟨by (with_reducible repeat (first | apply Kd.V_alloc | apply Kd.V_drewN | apply Kd.V_drew)); exact Kd.V_mono (Kd.V_far (p := ⟨go37, (x7_1 : Int).toNat * 3 + 1, none⟩) (Kd.V_mono HL156_1.out (fun k_ hk => (⟨hk, fun e_ => hk.2.1 (by rw [e_]; rfl)⟩ : _ ∧ k_ ≠ go37))) (fun _ hk => hk.2) (.slice A156_1 y158.length c156_1)) (fun _ hk => ⟨hk.1.1, ⟨hk.1.2.1, ⟨hk.1.2.2.1, ⟨hk.1.2.2.2.1, ⟨hk.1.2.2.2.2.1, hk.1.2.2.2.2.2⟩⟩⟩⟩⟩)⟩
                        have n2_ : Aside0 (Kd.V (Kd.int .u8) 5 (w48.setCell ⟨go37, (x7_1 : Int).toNat * 3 + 1, none⟩ (.slice A156_1 y158.length c156_1)) w.heap.size (fun k_ => (w.heap.size ≤ k_) ∧ some k_ ≠ (.slice (some ⟨go37, 0, none⟩) x156001_1.length co22 : Value).ownBlock ∧ k_ ≠ gb148 ∧ k_ ≠ gb149 ∧ k_ ≠ gb155 ∧ k_ ≠ gb157) (.slice A156_1 y158.length c156_1) y158) := ⟨by (with_reducible repeat (first | apply Kd.V_alloc | apply Kd.V_drewN | apply Kd.V_drew)); exact Kd.V_mono (Kd.V_far (p := ⟨go37, (x7_1 : Int).toNat * 3 + 1, none⟩) (Kd.V_mono HO162.out (fun k_ hk => (⟨hk, fun e_ => hk.2.1 (by rw [e_]; rfl)⟩ : _ ∧ k_ ≠ go37))) (fun _ hk => hk.2) (.slice A156_1 y158.length c156_1)) (fun _ hk => ⟨hk.1.1, ⟨hk.1.2.1, ⟨hk.1.2.2.1, ⟨hk.1.2.2.2.1, ⟨hk.1.2.2.2.2.1, hk.1.2.2.2.2.2⟩⟩⟩⟩⟩)⟩
                        have n3_ : Aside0 ((w48.setCell ⟨go37, (x7_1 : Int).toNat * 3 + 1, none⟩ (.slice A156_1 y158.length c156_1)).heap[gb148]? = some (.cells #[.int .i64 a0_0, .slice A0_1 l0_1.length c0_1] 24 (0, 0))) := ⟨by (with_reducible repeat (first | refine blk_drewN ?_ _ | refine blk_drew ?_ | refine blk_alloc ?_ _)); refine blk_far ?_ (by first | (have h_ := Kd.N_away HO_156001.out (fun _ hk => hk.2.1); intro e_; exact h_ (by rw [e_]; rfl)) | (have h_ := Kd.N_away HO_156001.out (fun _ hk => hk.1.2.1); intro e_; exact h_ (by rw [e_]; rfl))) _; (with_reducible repeat (first | refine blk_drewN ?_ _ | refine blk_drew ?_ | refine blk_alloc ?_ _)); exact BK148.out⟩
                        have n4_ : Aside0 ((w48.setCell ⟨go37, (x7_1 : Int).toNat * 3 + 1, none⟩ (.slice A156_1 y158.length c156_1)).heap[gb149]? = some (.cells #[.int .i64 0, .slice none 0 0] 24 (0, 0))) := ⟨by (with_reducible repeat (first | refine blk_drewN ?_ _ | refine blk_drew ?_ | refine blk_alloc ?_ _)); refine blk_far ?_ (by first | (have h_ := Kd.N_away HO_156001.out (fun _ hk => hk.2.2.1); intro e_; exact h_ (by rw [e_]; rfl)) | (have h_ := Kd.N_away HO_156001.out (fun _ hk => hk.1.2.2.1); intro e_; exact h_ (by rw [e_]; rfl))) _; (with_reducible repeat (first | refine blk_drewN ?_ _ | refine blk_drew ?_ | refine blk_alloc ?_ _)); exact BK149.out⟩
                        have n5_ : Aside0 ((w48.setCell ⟨go37, (x7_1 : Int).toNat * 3 + 1, none⟩ (.slice A156_1 y158.length c156_1)).heap[gb155]? = some (.cells #[.int .i64 t151, .slice (some ⟨go37, 0, none⟩) x156001_1.length co22] 24 (0, 0))) := ⟨by (with_reducible repeat (first | refine blk_drewN ?_ _ | refine blk_drew ?_ | refine blk_alloc ?_ _)); refine blk_far ?_ (by first | (have h_ := Kd.N_away HO_156001.out (fun _ hk => hk.2.2.2.1); intro e_; exact h_ (by rw [e_]; rfl)) | (have h_ := Kd.N_away HO_156001.out (fun _ hk => hk.1.2.2.2.1); intro e_; exact h_ (by rw [e_]; rfl))) _; (with_reducible repeat (first | refine blk_drewN ?_ _ | refine blk_drew ?_ | refine blk_alloc ?_ _)); exact BK155.out⟩
                        have n6_ : Aside0 ((w48.setCell ⟨go37, (x7_1 : Int).toNat * 3 + 1, none⟩ (.slice A156_1 y158.length c156_1)).heap[gb157]? = some (.cells #[.string ((rd_T61 x156001_1 x7_1).f0), .slice A156_1 ((rd_T61 x156001_1 x7_1).f1).length c156_1, .int .i64 ((rd_T61 x156001_1 x7_1).f2)] 61 (0, 0))) := ⟨by (with_reducible repeat (first | refine blk_drewN ?_ _ | refine blk_drew ?_ | refine blk_alloc ?_ _)); refine blk_far ?_ (by first | (have h_ := Kd.N_away HO_156001.out (fun _ hk => hk.2.2.2.2); intro e_; exact h_ (by rw [e_]; rfl)) | (have h_ := Kd.N_away HO_156001.out (fun _ hk => hk.1.2.2.2.2); intro e_; exact h_ (by rw [e_]; rfl))) _; (with_reducible repeat (first | refine blk_drewN ?_ _ | refine blk_drew ?_ | refine blk_alloc ?_ _)); exact BK157.out⟩
                        have n7_ : Aside0 (Below w.heap.size w (w48.setCell ⟨go37, (x7_1 : Int).toNat * 3 + 1, none⟩ (.slice A156_1 y158.length c156_1))) := ⟨by repeat (first | (with_reducible first | exact HB.out | apply below_alloc | apply pw_below_drewN | apply below_drew1 | refine below_set ?_ GB37.out | refine below_set ?_ GE148.out | refine below_set ?_ GE149.out | refine below_set ?_ GE155.out | refine below_set ?_ GE157.out) | exact HB.out)⟩
                        (try clear HO_156001)
                        (try clear HL156_1)
                        (try clear HO162)
                        (try clear BK148)
                        (try clear BK149)
                        (try clear BK155)
                        (try clear BK157)
                        (try clear HB)
                        generalize (w48.setCell ⟨go37, (x7_1 : Int).toNat * 3 + 1, none⟩ (.slice A156_1 y158.length c156_1)) = w51 at n0_ n1_ n2_ n3_ n4_ n5_ n6_ n7_ ⊢
                        have HO_156001 := n0_
                        have HL156_1 := n1_
                        have HO162 := n2_
                        have BK148 := n3_
                        have BK149 := n4_
                        have BK155 := n5_
                        have BK157 := n6_
                        have HB := n7_
                        clear n0_ n1_ n2_ n3_ n4_ n5_ n6_ n7_
                        have hcz52_0 : w51.cell? ⟨gb155, 0, none⟩ = some (.int .i64 t151) := (blk_cell BK155.out 0).trans rfl
                        have hcz52_1 : w51.cell? ⟨gb155, 1, none⟩ = some (.slice (some ⟨go37, 0, none⟩) x156001_1.length co22) := (blk_cell BK155.out 1).trans rfl
                        have hfz52_0 := blk_frozen BK155.out 0
                        have hfz52_1 := blk_frozen BK155.out 1
                        have hcz53_0 : w51.cell? ⟨gb157, 0, none⟩ = some (.string ((rd_T61 x156001_1 x7_1).f0)) := (blk_cell BK157.out 0).trans rfl
                        have hcz53_1 : w51.cell? ⟨gb157, 1, none⟩ = some (.slice A156_1 ((rd_T61 x156001_1 x7_1).f1).length c156_1) := (blk_cell BK157.out 1).trans rfl
                        have hcz53_2 : w51.cell? ⟨gb157, 2, none⟩ = some (.int .i64 ((rd_T61 x156001_1 x7_1).f2)) := (blk_cell BK157.out 2).trans rfl
                        have hfz53_0 := blk_frozen BK157.out 0
                        have hfz53_1 := blk_frozen BK157.out 1
                        have hfz53_2 := blk_frozen BK157.out 2
                        have p38 : 0 ≤ (x7_1 : Int) := of_decide_eq_true (by first | (with_reducible assumption) | assumption)
                        have q38 : (x7_1 : Int) < ((x156001_1.length : Int) : Int) := of_decide_eq_true (by first | (with_reducible assumption) | assumption)
                        replace p38 := eq_true p38
                        replace q38 := eq_true q38
                        have HX54 := Aside0.mk (show Kd.N k61 61 w51 w.heap.size (fun k_ => (w.heap.size ≤ k_) ∧ k_ ≠ gb148 ∧ k_ ≠ gb149 ∧ k_ ≠ gb155 ∧ k_ ≠ gb157) (.slice (some ⟨go37, 0, none⟩) x156001_1.length co22) y163 from (by (with_reducible repeat (first | apply Kd.N_alloc | apply Kd.N_drewN | apply Kd.N_drew)); exact HO_156001.out))
                        obtain ⟨ce54, hcl54, hM54, hcc54, hfr54⟩ := Kd.N_elem HX54.out z61 (x7_1 : Int) (of_decide_eq_true (by first | (with_reducible assumption) | assumption)) (by have h_ : (x7_1 : Int) < ((x156001_1.length : Int) : Int) := of_decide_eq_true (by first | (with_reducible assumption) | assumption); first | exact h_ | (have e_ := (Kd.N_reads' HO_156001.out).1; omega) | simpa using h_)
                        obtain ⟨ua54_1, uc54_1, rfl, ul54_1, ge54_1⟩ := k61_openF hM54
                        have HP54 := Kd.N_seg HX54.out (x7_1 : Int) (of_decide_eq_true (by first | (with_reducible assumption) | assumption)) (by have h_ : (x7_1 : Int) < ((x156001_1.length : Int) : Int) := of_decide_eq_true (by first | (with_reducible assumption) | assumption); first | exact h_ | (have e_ := (Kd.N_reads' HO_156001.out).1; omega) | simpa using h_) (seg := [.int .i64 ji34]) (j := 2) hcl54 hcc54 (show 3 ≤ 3 from by decide) (x' := (⟨(rd_T61 y163 x7_1).f0, (rd_T61 y163 x7_1).f1, ji34⟩ : S61)) (k61_mkF _ _ (⟨(rd_T61 y163 x7_1).f0, (rd_T61 y163 x7_1).f1, ji34⟩ : S61) ul54_1 ge54_1) (fun _ hk => hk)
                        have hx54_2 := hcc54 2 _ rfl
                        (try simp only [show (k61).sz = 3 from rfl, Nat.mul_one, Nat.add_zero] at hx54_2)
                        have hf54_2 := hfr54 2
                        (try simp only [show (k61).sz = 3 from rfl, Nat.mul_one, Nat.add_zero] at hf54_2)
                        clear hcl54 hcc54 hfr54 hM54
                        try go_wp2_with (first | ((with_reducible refine gate_store (t := 3) (p := 81) rfl ?_); refine store_event (t := 3) (p := 81) (v := ?vo_w55) (w1 := (w51.setCell ⟨go37, (x7_1 : Int).toNat * 3 + 2, none⟩ (.int .i64 ji34))) ?hg ?ho ?hn ?hr ?_; (case ho => rfl); (case hg => rfl); (case hn => rfl); (case hr => first | (go_simp; done) | (go_simp; rfl)); intro w55 hw; have hg : w51.grownBy w55 (some go37) := (by rw [hw]; exact HP54.2); have hp_ : Kd.N k61 61 w55 w.heap.size (fun k_ => (w.heap.size ≤ k_) ∧ k_ ≠ gb148 ∧ k_ ≠ gb149 ∧ k_ ≠ gb155 ∧ k_ ≠ gb157) (.slice (some ⟨go37, 0, none⟩) x156001_1.length co22) y164 := (by rw [hw, Ny164.out]; exact HP54.1); clear HP54; have n0_ := Aside0.mk (hp_); have n1_ := Aside0.mk (blk_grown (g := gb148) (o := .cells #[.int .i64 a0_0, .slice A0_1 l0_1.length c0_1] 24 (0, 0)) (by (with_reducible repeat (first | refine blk_drewN ?_ _ | refine blk_drew ?_ | refine blk_alloc ?_ _)); exact BK148.out) hg (Kd.N_ne HO_156001.out BK148.out (by decide))); have n2_ := Aside0.mk (blk_grown (g := gb149) (o := .cells #[.int .i64 0, .slice none 0 0] 24 (0, 0)) (by (with_reducible repeat (first | refine blk_drewN ?_ _ | refine blk_drew ?_ | refine blk_alloc ?_ _)); exact BK149.out) hg (Kd.N_ne HO_156001.out BK149.out (by decide))); have n3_ := Aside0.mk (blk_grown (g := gb155) (o := .cells #[.int .i64 t151, .slice (some ⟨go37, 0, none⟩) x156001_1.length co22] 24 (0, 0)) (by (with_reducible repeat (first | refine blk_drewN ?_ _ | refine blk_drew ?_ | refine blk_alloc ?_ _)); exact BK155.out) hg (Kd.N_ne HO_156001.out BK155.out (by decide))); have n4_ := Aside0.mk (Kd.V_afterv (v := (.slice (some ⟨go37, 0, none⟩) x156001_1.length co22)) (v1 := (.slice (some ⟨go37, 0, none⟩) x156001_1.length co22)) (ok := (fun k_ => (w.heap.size ≤ k_) ∧ k_ ≠ gb148 ∧ k_ ≠ gb149 ∧ k_ ≠ gb155 ∧ k_ ≠ gb157)) (by (with_reducible repeat (first | apply Kd.V_alloc | apply Kd.V_drewN | apply Kd.V_drew)); exact Kd.V_mono HL156_1.out (fun _ hk => ⟨⟨hk.1, ⟨hk.2.2.1, ⟨hk.2.2.2.1, ⟨hk.2.2.2.2.1, hk.2.2.2.2.2⟩⟩⟩⟩, hk.2.1⟩)) hg (.inl rfl)); have n5_ := Aside0.mk (blk_grown (g := gb157) (o := .cells #[.string ((rd_T61 x156001_1 x7_1).f0), .slice A156_1 ((rd_T61 x156001_1 x7_1).f1).length c156_1, .int .i64 ((rd_T61 x156001_1 x7_1).f2)] 61 (0, 0)) (by (with_reducible repeat (first | refine blk_drewN ?_ _ | refine blk_drew ?_ | refine blk_alloc ?_ _)); exact BK157.out) hg (Kd.N_away HO_156001.out (fun _ hk => hk.2.2.2.2))); have n6_ := Aside0.mk (Kd.V_afterv (v := (.slice (some ⟨go37, 0, none⟩) x156001_1.length co22)) (v1 := (.slice (some ⟨go37, 0, none⟩) x156001_1.length co22)) (ok := (fun k_ => (w.heap.size ≤ k_) ∧ k_ ≠ gb148 ∧ k_ ≠ gb149 ∧ k_ ≠ gb155 ∧ k_ ≠ gb157)) (by (with_reducible repeat (first | apply Kd.V_alloc | apply Kd.V_drewN | apply Kd.V_drew)); exact Kd.V_mono HO162.out (fun _ hk => ⟨⟨hk.1, ⟨hk.2.2.1, ⟨hk.2.2.2.1, ⟨hk.2.2.2.2.1, hk.2.2.2.2.2⟩⟩⟩⟩, hk.2.1⟩)) hg (.inl rfl)); have n7_ := Aside0.mk ((by rw [hw]; exact below_set (HB.out) GB37.out : Below w.heap.size w w55)); clear HO_156001; clear BK148; clear BK149; clear BK155; clear HL156_1; clear BK157; clear HO162; clear HB; have HO_156001 := n0_; have BK148 := n1_; have BK149 := n2_; have BK155 := n3_; have HL156_1 := n4_; have BK157 := n5_; have HO162 := n6_; have HB := n7_; clear n0_ n1_ n2_ n3_ n4_ n5_ n6_ n7_; clear hg hw hp_))
                        go_roundg k2
                        case measure => have := HK1.out; have := HK2.out; omega
                        case rel => exact ⟨(wrap64 (x7_1 + 1)), (y164), (.slice (some ⟨go37, 0, none⟩) x156001_1.length co22), (by first | rfl | (simp; done) | (simp [*]; done)), H', ⟨by have := HK1.out; have := HK2.out; omega⟩, ⟨by (with_reducible repeat (first | apply Kd.N_alloc | apply Kd.N_drewN | apply Kd.N_drew)); exact Kd.N_mono HO_156001.out (fun _ hk => ⟨hk.1, ⟨hk.2.1, ⟨hk.2.2.1, hk.2.2.2.1⟩⟩⟩)⟩, ⟨by (with_reducible repeat (first | refine blk_drewN ?_ _ | refine blk_drew ?_ | refine blk_alloc ?_ _)); exact BK148.out⟩, ⟨by (with_reducible repeat (first | refine blk_drewN ?_ _ | refine blk_drew ?_ | refine blk_alloc ?_ _)); exact BK149.out⟩, ⟨by (with_reducible repeat (first | refine blk_drewN ?_ _ | refine blk_drew ?_ | refine blk_alloc ?_ _)); exact BK155.out⟩, ⟨by repeat (first | (with_reducible first | exact HB.out | apply below_alloc | apply pw_below_drewN | apply below_drew1 | refine below_set ?_ GE148.out | refine below_set ?_ GE149.out | refine below_set ?_ GE155.out | refine below_set ?_ GE157.out) | exact HB.out)⟩⟩
                      · rw [if_neg c36] at H
                        exact absurd H (by simp)
                    · rw [if_neg c35] at H
                      exact absurd H (by simp)
                  · rw [if_neg c32] at H
                    exact absurd H (by simp)
                · rw [if_neg c31] at H
                  exact absurd H (by simp)
        · rw [if_neg c18] at H
          have c18b0 : decide (x7_1 < (x156001_1.length : Int)) = false := decide_eq_false c18
          clear c18
          simp only [Option.some.injEq, Prod.mk.injEq] at H
          obtain ⟨rfl, rfl, rfl⟩ := H
          have hnb56 := NB155_148.out
          have hnc56 := NB148_155.out
          have hnb57 := NB155_149.out
          have hnc57 := NB149_155.out
          have hcz58_0 : wr.cell? ⟨gb155, 0, none⟩ = some (.int .i64 t151) := (blk_cell BK155.out 0).trans rfl
          have hcz58_1 : wr.cell? ⟨gb155, 1, none⟩ = some (u156001) := (blk_cell BK155.out 1).trans rfl
          have hfz58_0 := blk_frozen BK155.out 0
          have hfz58_1 := blk_frozen BK155.out 1
          obtain ⟨Ao59, co59, eo59⟩ := Kd.N_slice HO_156001.out
          subst eo59
          have hnb60 := NB149_148.out
          have hnc60 := NB148_149.out
          have hcz61_0 : wr.cell? ⟨gb149, 0, none⟩ = some (.int .i64 0) := (blk_cell BK149.out 0).trans rfl
          have hcz61_1 : wr.cell? ⟨gb149, 1, none⟩ = some (.slice none 0 0) := (blk_cell BK149.out 1).trans rfl
          have hfz61_0 := blk_frozen BK149.out 0
          have hfz61_1 := blk_frozen BK149.out 1
          go_wp2
          refine bodyPost_ret (results_ct rfl _ _ gb149 24 #[.int .i64 t151, .slice Ao59 x156001_1.length co59] (0, 0) _ rfl (by (with_reducible repeat (first | refine blk_drewN ?_ _ | refine blk_drew ?_ | refine blk_alloc ?_ _)); refine blk_put (cs := #[.int .i64 t151, .slice none 0 0]) ?_ 1 _ rfl; (with_reducible repeat (first | refine blk_drewN ?_ _ | refine blk_drew ?_ | refine blk_alloc ?_ _)); refine blk_put (cs := #[.int .i64 0, .slice none 0 0]) ?_ 0 _ rfl; (with_reducible repeat (first | refine blk_drewN ?_ _ | refine blk_drew ?_ | refine blk_alloc ?_ _)); exact BK149.out) Try.underlying24 rfl (by kernel_rfl)) rfl ?_
          exact ⟨_, by first | rfl | (simp [errW_none, errW_some] <;> rfl) | (simp [*, errW_none, errW_some] <;> rfl), by (with_reducible repeat (first | apply Kd.N_alloc | apply Kd.N_drewN | apply Kd.N_drew)); exact Kd.N_mono (Kd.N_far (p := ⟨gb149, 1, none⟩) (Kd.N_far (p := ⟨gb149, 0, none⟩) (Kd.N_mono HO_156001.out (fun k_ hk => (⟨hk, hk.2.2.1⟩ : _ ∧ k_ ≠ gb149))) (fun _ hk => hk.2) (.int .i64 t151)) (fun _ hk => hk.2) (.slice Ao59 x156001_1.length co59)) (fun _ hk => hk.1.1), by repeat (first | (with_reducible first | exact HB.out | apply below_alloc | apply pw_below_drewN | apply below_drew1 | refine below_set ?_ GE148.out | refine below_set ?_ GE149.out | refine below_set ?_ GE155.out) | exact HB.out)⟩
  · replace c4 := Bool.eq_false_iff.mpr c4
    subst c4
    have H1 : (some (0, ([] : List (S61)), 1)) = some (r1, r2, r3) := by rw [if_neg (show ¬ (false = true) by decide)] at H; exact H
    clear H
    have H := H1
    clear H1
    simp only [Option.some.injEq, Prod.mk.injEq] at H
    obtain ⟨rfl, rfl, rfl⟩ := H
    go_enter Try.func18, Try.ntmps18
    go_wp2_with (first | ((with_reducible refine gate_dst (N := 2) rfl ?_); refine box_event ?hg (N := 2) ?hd (cs := #[.int .i64 a0_0, .slice A0_1 l0_1.length c0_1]) (t := 24) ?hr ?_; (case hd => rfl); (case hg => rfl); (case hr => first | (go_simp; done) | (go_simp; rfl)); intro gb148 hg w62 hbox hb; have n0_ := Aside0.mk (below_step (by repeat (first | (with_reducible first | exact HB.out | apply below_alloc | apply pw_below_drewN | apply below_drew1) | exact HB.out)) hb); have n1_ := Aside0.mk (hbox); have n2_ := Aside0.mk ((by rw [hg]; exact (below_size (by repeat (first | (with_reducible first | exact HB.out | apply below_alloc | apply pw_below_drewN | apply below_drew1) | exact HB.out))) : w.heap.size ≤ gb148)); have n3_ := Aside0.mk ((by rw [hg]; exact (below_size (by repeat (first | (with_reducible first | exact HB.out | apply below_alloc | apply pw_below_drewN | apply below_drew1) | exact HB.out))) : w.heap.size ≤ gb148)); clear HB; have HB := n0_; have BK148 := n1_; have GW148 := n2_; have GE148 := n3_; clear n0_ n1_ n2_ n3_; clear hb hbox hg) | ((with_reducible refine gate_dst (N := 4) rfl ?_); refine box_event ?hg (N := 4) ?hd (cs := #[.int .i64 0, .slice none 0 0]) (t := 24) ?hr ?_; (case hd => rfl); (case hg => rfl); (case hr => first | (go_simp; done) | (go_simp; rfl)); intro gb149 hg w63 hbox hb; have n0_ := Aside0.mk (blk_below (g := gb148) (o := .cells #[.int .i64 a0_0, .slice A0_1 l0_1.length c0_1] 24 (0, 0)) (by (with_reducible repeat (first | refine blk_drewN ?_ _ | refine blk_drew ?_ | refine blk_alloc ?_ _)); exact BK148.out) hb); have n1_ := Aside0.mk (below_step (by repeat (first | (with_reducible first | exact HB.out | apply below_alloc | apply pw_below_drewN | apply below_drew1 | refine below_set ?_ GE148.out) | exact HB.out)) hb); have n2_ := Aside0.mk (hbox); have n3_ := Aside0.mk ((by rw [hg]; exact (below_size (by repeat (first | (with_reducible first | exact HB.out | apply below_alloc | apply pw_below_drewN | apply below_drew1 | refine below_set ?_ GE148.out) | exact HB.out))) : w.heap.size ≤ gb149)); have n4_ := Aside0.mk ((by rw [hg]; exact (below_size (by repeat (first | (with_reducible first | exact HB.out | apply below_alloc | apply pw_below_drewN | apply below_drew1 | refine below_set ?_ GE148.out) | exact HB.out))) : w.heap.size ≤ gb149)); have n5_ := Aside0.mk ((by rw [hg]; exact Nat.ne_of_lt (blk_lt (g := gb148) (o := .cells #[.int .i64 a0_0, .slice A0_1 l0_1.length c0_1] 24 (0, 0)) (by (with_reducible repeat (first | refine blk_drewN ?_ _ | refine blk_drew ?_ | refine blk_alloc ?_ _)); exact BK148.out)) : gb148 ≠ gb149)); have n6_ := Aside0.mk ((by rw [hg]; exact Nat.ne_of_gt (blk_lt (g := gb148) (o := .cells #[.int .i64 a0_0, .slice A0_1 l0_1.length c0_1] 24 (0, 0)) (by (with_reducible repeat (first | refine blk_drewN ?_ _ | refine blk_drew ?_ | refine blk_alloc ?_ _)); exact BK148.out)) : gb149 ≠ gb148)); clear BK148; clear HB; have BK148 := n0_; have HB := n1_; have BK149 := n2_; have GW149 := n3_; have GE149 := n4_; have NB148_149 := n5_; have NB149_148 := n6_; clear n0_ n1_ n2_ n3_ n4_ n5_ n6_; clear hb hbox hg; have hnb64 := NB148_149.out; have hnc64 := NB149_148.out; have hcz65_0 : w63.cell? ⟨gb148, 0, none⟩ = some (.int .i64 a0_0) := (blk_cell BK148.out 0).trans rfl; have hcz65_1 : w63.cell? ⟨gb148, 1, none⟩ = some (.slice A0_1 l0_1.length c0_1) := (blk_cell BK148.out 1).trans rfl; have hfz65_0 := blk_frozen BK148.out 0; have hfz65_1 := blk_frozen BK148.out 1) | ((with_reducible refine gate_callee (f := 22) rfl ?_); refine goesL_ (some 12) rfl rfl Try.func22 (by kernel_rfl) rfl #[.agg #[.int .i64 a0_0, .slice A0_1 l0_1.length c0_1]] rfl (by (try simp only [List.map_toArray, List.map_cons, List.map_nil]); first | done | rfl | (simp only [List.length_drop, List.length_take]; rfl)) ?_; (with_reducible refine (dragnetref16_Formed.calls a0_0 _ _ l0_1 false _ ?side1 ?side2 A3.out).mono ?_); (case side1 => repeat (first | exact (Kd.C_below HR0_1.out HB.out) | (with_reducible refine Kd.C_alloc ?_ _) | (with_reducible refine Kd.C_drewN ?_ _) | (with_reducible refine Kd.C_drew ?_))); (case side2 => exact HC0_1.out); rintro e w66 ⟨rfl, hb⟩; refine ⟨_, rfl, ?_⟩; have n0_ := Aside0.mk (blk_below (g := gb148) (o := .cells #[.int .i64 a0_0, .slice A0_1 l0_1.length c0_1] 24 (0, 0)) (by (with_reducible repeat (first | refine blk_drewN ?_ _ | refine blk_drew ?_ | refine blk_alloc ?_ _)); exact BK148.out) hb); have n1_ := Aside0.mk (blk_below (g := gb149) (o := .cells #[.int .i64 0, .slice none 0 0] 24 (0, 0)) (by (with_reducible repeat (first | refine blk_drewN ?_ _ | refine blk_drew ?_ | refine blk_alloc ?_ _)); exact BK149.out) hb); have n2_ := Aside0.mk (below_step (by repeat (first | (with_reducible first | exact HB.out | apply below_alloc | apply pw_below_drewN | apply below_drew1 | refine below_set ?_ GE148.out | refine below_set ?_ GE149.out) | exact HB.out)) hb); clear BK148; clear BK149; clear HB; have BK148 := n0_; have BK149 := n1_; have HB := n2_; clear n0_ n1_ n2_; (try clear hb); (try clear hb2); (try clear hk); (try clear hi); have hcz67_0 : w66.cell? ⟨gb149, 0, none⟩ = some (.int .i64 0) := (blk_cell BK149.out 0).trans rfl; have hcz67_1 : w66.cell? ⟨gb149, 1, none⟩ = some (.slice none 0 0) := (blk_cell BK149.out 1).trans rfl; have hfz67_0 := blk_frozen BK149.out 0; have hfz67_1 := blk_frozen BK149.out 1))
    refine bodyPost_ret (results_ct rfl _ _ gb149 24 #[.int .i64 0, .slice none 0 0] (0, 0) _ rfl (by (with_reducible repeat (first | refine blk_drewN ?_ _ | refine blk_drew ?_ | refine blk_alloc ?_ _)); refine blk_put (cs := #[.int .i64 0, .slice none 0 0]) ?_ 1 _ rfl; (with_reducible repeat (first | refine blk_drewN ?_ _ | refine blk_drew ?_ | refine blk_alloc ?_ _)); refine blk_put (cs := #[.int .i64 0, .slice none 0 0]) ?_ 0 _ rfl; (with_reducible repeat (first | refine blk_drewN ?_ _ | refine blk_drew ?_ | refine blk_alloc ?_ _)); exact BK149.out) Try.underlying24 rfl (by kernel_rfl)) rfl ?_
    exact ⟨_, by first | rfl | (simp [errW_none, errW_some] <;> rfl) | (simp [*, errW_none, errW_some] <;> rfl), by first | exact Kd.S_nil _ _ _ _ _ | exact Kd.N_nil _ _ _ _ _ | exact Kd.V_nil _ _ _ _ _ | exact Kd.Q_nil _ _ _ _ _ | exact Kd.R_nil _ _ _ _ _, by repeat (first | (with_reducible first | exact HB.out | apply below_alloc | apply pw_below_drewN | apply below_drew1 | refine below_set ?_ GE148.out | refine below_set ?_ GE149.out) | exact HB.out)⟩

end Go.Proofs.Ytopjdjljpkcdlaa.C
