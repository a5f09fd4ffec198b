/- Walks: each Go function that is told here comes to what the plain function beside it says, wherever that one answers. Written by a program of this session (wip/tools/pr.sh), after the manner of print.sh. -/
import Derived.Test.YtopjdjljpkcdlaaTdDx0
import Derived.Test.YtopjdjljpkcdlaaTdDx9
namespace Go.Proofs.Ytopjdjljpkcdlaa.D
open Go.RowKit Go.Proofs.YtopjdjljpkcdlaaW.PrintWords Go.Proofs.YtopjdjljpkcdlaaW.PrintLast Go.Proofs.YtopjdjljpkcdlaaW.PrintMore
attribute [local go_sem] max2_int min2_int max_two min_two -- for this text's walks alone
set_option linter.unusedVariables false
set_option linter.unusedSimpArgs false
attribute [local go_sem] gtr_str geq_str
def dragnetref16_with.l0 : Nat → Bool → Int → ByteArray → List Int → Int → Int → List (S61) → Int → List (S61) → Option (Int × (List (S61)))
 | 0, _, _, _, _, _, _, _, _, _ => none
 | k + 1, x7, x8, x161000, x161001, x161002, x167000, x167001, x168000, x168001 => if x8 < (x167001.length : Int) then (if x7 = true then (if 0 ≤ x8 then (if x168001.length < 2932031007402 then (dragnetref16_with.l0 k x7 (wrap64 (x8 + 1)) x161000 x161001 x161002 x167000 x167001 x168000 (x168001 ++ [(⟨(rd_T61 x167001 x8).f0, (rd_T61 x167001 x8).f1, (rd_T61 x167001 x8).f2⟩ : S61)])) else (none)) else (none)) else (if 0 ≤ x8 then (if (Op.bytesLess x161000.toList (((rd_T61 x167001 x8).f0).toList)) = true then (if x168001.length < 2932031007402 then ((some (x168001 ++ [(⟨x161000, x161001, x161002⟩ : S61)] : List (S61))).bind fun y173 => (if y173.length < 2932031007402 then (dragnetref16_with.l0 k true (wrap64 (x8 + 1)) x161000 x161001 x161002 x167000 x167001 x168000 (y173 ++ [(⟨(rd_T61 x167001 x8).f0, (rd_T61 x167001 x8).f1, (rd_T61 x167001 x8).f2⟩ : S61)])) else (none))) else (none)) else (if x168001.length < 2932031007402 then (dragnetref16_with.l0 k x7 (wrap64 (x8 + 1)) x161000 x161001 x161002 x167000 x167001 x168000 (x168001 ++ [(⟨(rd_T61 x167001 x8).f0, (rd_T61 x167001 x8).f1, (rd_T61 x167001 x8).f2⟩ : S61)])) else (none))) else (none))) else (if x7 = true then (some (x168000, x168001)) else (if x168001.length < 2932031007402 then (some (x168000, (x168001 ++ [(⟨x161000, x161001, x161002⟩ : S61)]))) else (none)))
def dragnetref16_with.f (k : Nat) (a0_0 : Int) (l0_1 : List (S61)) (a1_0 : ByteArray) (l1_1 : List Int) (a1_2 : Int) : Option (Int × (List (S61))) := (dragnetref16_without.f k a0_0 l0_1 a1_0).bind fun bt162 => (dragnetref16_with.l0 k false 0 a1_0 l1_1 a1_2 bt162.1 bt162.2 a0_0 ([] : List (S61)))
theorem dragnetref16_with.mono_l : ∀ k, (∀ y0 y1 y2 y3 y4 y5 y6 y7 y8, LeO (dragnetref16_with.l0 k y0 y1 y2 y3 y4 y5 y6 y7 y8) (dragnetref16_with.l0 (k + 1) y0 y1 y2 y3 y4 y5 y6 y7 y8))
 | 0 => fun _ _ _ _ _ _ _ _ _ r h => by simp [dragnetref16_with.l0] at h
 | k + 1 => by
  have ih0 := dragnetref16_with.mono_l k
  ·intro y0 y1 y2 y3 y4 y5 y6 y7 y8
   unfold dragnetref16_with.l0
   repeat' first
   | (with_reducible exact ih0 _ _ _ _ _ _ _ _ _)
   | (with_reducible exact dragnetref16_without.mono _ _ _ _)
   | (with_reducible exact LeO.refl _)
   | (with_reducible exact LeO.none _)
   | (with_reducible refine LeO.ite ?_ ?_)
   | (with_reducible refine LeO.bind ?_ (fun _ => ?_))
   | exact ih0 _ _ _ _ _ _ _ _ _
   | exact dragnetref16_without.mono _ _ _ _
   | exact LeO.none _
   | refine LeO.ite ?_ ?_
   | refine LeO.bind ?_ (fun _ => ?_)
theorem dragnetref16_with.mono : ∀ a0 a1 a2 a3 a4 k, LeO (dragnetref16_with.f k a0 a1 a2 a3 a4) (dragnetref16_with.f (k + 1) a0 a1 a2 a3 a4) := by
 intro a0 a1 a2 a3 a4 k
 have ih0 := dragnetref16_with.mono_l k
 unfold dragnetref16_with.f
 repeat' first
   | (with_reducible exact ih0 _ _ _ _ _ _ _ _ _)
   | (with_reducible exact dragnetref16_without.mono _ _ _ _)
   | (with_reducible exact LeO.refl _)
   | (with_reducible exact LeO.none _)
   | (with_reducible refine LeO.ite ?_ ?_)
   | (with_reducible refine LeO.bind ?_ (fun _ => ?_))
   | exact ih0 _ _ _ _ _ _ _ _ _
   | exact dragnetref16_without.mono _ _ _ _
   | exact LeO.none _
   | refine LeO.ite ?_ ?_
   | refine LeO.bind ?_ (fun _ => ?_)
def dragnetref16_with.T7 : Bool × List (List Nat × List Nat) := (true, [([], []), ([0], [0]), ([1], [1]), ([2], [2]), ([3, 2], [2, 3]), ([2], [2]), ([4, 5, 2], [2, 4, 5]), ([6, 2], [2, 6]), ([7, 2], [2, 7]), ([2], [2]), ([9, 2], [2, 9]), ([8, 10, 2], [2, 8, 10]), ([2, 11], [2, 11])])
def dragnetref16_with.B7 : List Nat := [0, 1, 3, 7, 15, 7, 63, 127, 255, 7, 519, 2047, 4095]
theorem dragnetref16_with.tab7 : rtab .any (opsOf Try.f39 7) = dragnetref16_with.T7 := by kernel_rfl
theorem dragnetref16_with.bits7 : waitsOk dragnetref16_with.T7.2 dragnetref16_with.B7 = true := by kernel_rfl
def dragnetref16_with.T10 : Bool × List (List Nat × List Nat) := (true, [([], []), ([0], [0]), ([], []), ([2], [2]), ([], []), ([3, 4], [3, 4]), ([5], [5]), ([6], [6]), ([1, 7], [1, 7]), ([0, 1, 2, 3, 4, 5, 6, 7, 8], []), ([9, 8, 8, 0, 1, 2, 3, 4, 5, 6, 7, 8], [8, 9])])
def dragnetref16_with.B10 : List Nat := [0, 1, 0, 4, 0, 28, 60, 124, 255, 511, 1023]
theorem dragnetref16_with.tab10 : rtab .any (opsOf Try.f39 10) = dragnetref16_with.T10 := by kernel_rfl
theorem dragnetref16_with.bits10 : waitsOk dragnetref16_with.T10.2 dragnetref16_with.B10 = true := by kernel_rfl
set_option maxHeartbeats 8000000 in
set_option maxRecDepth 100000 in
theorem dragnetref16_with.calls (k : Nat) (a0_0 : Int) (A0_1 : Option Addr) (c0_1 : Nat) (l0_1 : List (S61)) (a1_0 : ByteArray) (P1_1_ : Nat → Prop) (A1_1 : Option Addr) (c1_1 : Nat) (l1_1 : List Int) (a1_2 : Int) (r1 : Int) (r2 : List (S61)) (w : World) (hr0_1 : Kd.C k61 w A0_1 l0_1.length l0_1) (hc0_1 : l0_1.length ≤ c0_1) (hs1_1 : Kd.V (Kd.int .u8) 5 w w.heap.size (fun k_ => P1_1_ k_) (.slice A1_1 l1_1.length c1_1) l1_1) (h : dragnetref16_with.f k a0_0 l0_1 a1_0 l1_1 a1_2 = some (r1, r2)) :
  Calls Try.prog 39 #[.agg #[.int .i64 a0_0, .slice A0_1 l0_1.length c0_1], .agg #[.string a1_0, .slice A1_1 l1_1.length c1_1, .int .i64 a1_2]] w fun e w' => ∃ v1_ : Value, e = .returned (.agg #[.int .i64 r1, v1_]) ∧ Kd.N k61 61 w' w.heap.size (fun k_ => (P1_1_ k_ ∨ w.heap.size ≤ k_)) v1_ r2 ∧ Below w.heap.size w w' := by
 have hu24 := Try.underlying24
 have hu61 := Try.underlying61
 have HR0_1 := Aside0.mk hr0_1
 have HC0_1 := Aside0.mk hc0_1
 clear hr0_1 hc0_1
 have HO1_1 := Aside0.mk (show Kd.V (Kd.int .u8) 5 w w.heap.size (fun k_ => (P1_1_ k_ ∨ w.heap.size ≤ k_)) (.slice A1_1 l1_1.length c1_1) l1_1 from Kd.V_mono hs1_1 (fun k_ hk => .inl hk))
 have HB := Aside0.mk (Below.refl w.heap.size w)
 have H : ((dragnetref16_without.f k a0_0 l0_1 a1_0).bind fun bt162 => (dragnetref16_with.l0 k false 0 a1_0 l1_1 a1_2 bt162.1 bt162.2 a0_0 ([] : List (S61)))) = some (r1, r2) := h
 clear h
 replace H := Option.bind_eq_some_iff.mp H
 obtain ⟨⟨t162, t163⟩, A30, H⟩ := H
 replace H : (dragnetref16_with.l0 k false 0 a1_0 l1_1 a1_2 t162 t163 a0_0 ([] : List (S61))) = some (r1, r2) := H
 have A3 := Aside0.mk A30
 clear A30
 have H' := Aside0.mk H
 clear H
 go_enter Try.func39, Try.ntmps39
 go_wp2_with (first | ((with_reducible refine gate_dst (N := 2) rfl ?_); refine box_event ?hg (N := 2) ?hd (cs := #[.int .i64 a0_0, .slice A0_1 l0_1.length c0_1]) (t := 24) ?hr ?_; (case hd => rfl); (case hg => rfl); (case hr => first | (go_simp; done) | (go_simp; rfl)); intro gb159 hg w4 hbox hb; have n0_ := Aside0.mk (Kd.V_below (Kd.V_elderB (by (with_reducible repeat (first | apply Kd.V_alloc | apply Kd.V_drewN | apply Kd.V_drew)); exact HO1_1.out) gb159 (Nat.le_of_eq hg.symm)) hb); have n1_ := Aside0.mk (below_step (by repeat (first | (with_reducible first | exact HB.out | apply below_alloc | apply pw_below_drewN | apply below_drew1) | exact HB.out)) hb); have n2_ := Aside0.mk (hbox); have n3_ := Aside0.mk ((by rw [hg]; exact (below_size (by repeat (first | (with_reducible first | exact HB.out | apply below_alloc | apply pw_below_drewN | apply below_drew1) | exact HB.out))) : w.heap.size ≤ gb159)); have n4_ := Aside0.mk ((by rw [hg]; exact (below_size (by repeat (first | (with_reducible first | exact HB.out | apply below_alloc | apply pw_below_drewN | apply below_drew1) | exact HB.out))) : w.heap.size ≤ gb159)); clear HO1_1; clear HB; have HO1_1 := n0_; have HB := n1_; have BK159 := n2_; have GW159 := n3_; have GE159 := n4_; clear n0_ n1_ n2_ n3_ n4_; clear hb hbox hg) | ((with_reducible refine gate_dst (N := 3) rfl ?_); refine box_event ?hg (N := 3) ?hd (cs := #[.string a1_0, .slice A1_1 l1_1.length c1_1, .int .i64 a1_2]) (t := 61) ?hr ?_; (case hd => rfl); (case hg => rfl); (case hr => first | (go_simp; done) | (go_simp; rfl)); intro gb160 hg w5 hbox hb; have n0_ := Aside0.mk (Kd.V_below (Kd.V_elderB (by (with_reducible repeat (first | apply Kd.V_alloc | apply Kd.V_drewN | apply Kd.V_drew)); exact HO1_1.out) gb160 (Nat.le_of_eq hg.symm)) hb); have n1_ := Aside0.mk (blk_below (g := gb159) (o := .cells #[.int .i64 a0_0, .slice A0_1 l0_1.length c0_1] 24 (0, 0)) (by (with_reducible repeat (first | refine blk_drewN ?_ _ | refine blk_drew ?_ | refine blk_alloc ?_ _)); exact BK159.out) hb); have n2_ := Aside0.mk (below_step (by repeat (first | (with_reducible first | exact HB.out | apply below_alloc | apply pw_below_drewN | apply below_drew1 | refine below_set ?_ GE159.out) | exact HB.out)) hb); have n3_ := Aside0.mk (hbox); have n4_ := Aside0.mk ((by rw [hg]; exact (below_size (by repeat (first | (with_reducible first | exact HB.out | apply below_alloc | apply pw_below_drewN | apply below_drew1 | refine below_set ?_ GE159.out) | exact HB.out))) : w.heap.size ≤ gb160)); have n5_ := Aside0.mk ((by rw [hg]; exact (below_size (by repeat (first | (with_reducible first | exact HB.out | apply below_alloc | apply pw_below_drewN | apply below_drew1 | refine below_set ?_ GE159.out) | exact HB.out))) : w.heap.size ≤ gb160)); have n6_ := Aside0.mk ((by rw [hg]; exact Nat.ne_of_lt (blk_lt (g := gb159) (o := .cells #[.int .i64 a0_0, .slice A0_1 l0_1.length c0_1] 24 (0, 0)) (by (with_reducible repeat (first | refine blk_drewN ?_ _ | refine blk_drew ?_ | refine blk_alloc ?_ _)); exact BK159.out)) : gb159 ≠ gb160)); have n7_ := Aside0.mk ((by rw [hg]; exact Nat.ne_of_gt (blk_lt (g := gb159) (o := .cells #[.int .i64 a0_0, .slice A0_1 l0_1.length c0_1] 24 (0, 0)) (by (with_reducible repeat (first | refine blk_drewN ?_ _ | refine blk_drew ?_ | refine blk_alloc ?_ _)); exact BK159.out)) : gb160 ≠ gb159)); clear HO1_1; clear BK159; clear HB; have HO1_1 := n0_; have BK159 := n1_; have HB := n2_; have BK160 := n3_; have GW160 := n4_; have GE160 := n5_; have NB159_160 := n6_; have NB160_159 := n7_; clear n0_ n1_ n2_ n3_ n4_ n5_ n6_ n7_; clear hb hbox hg) | ((with_reducible refine gate_dst (N := 4) rfl ?_); refine box_event ?hg (N := 4) ?hd (cs := #[.int .i64 0, .slice none 0 0]) (t := 24) ?hr ?_; (case hd => rfl); (case hg => rfl); (case hr => first | (go_simp; done) | (go_simp; rfl)); intro gb161 hg w6 hbox hb; have n0_ := Aside0.mk (Kd.V_below (Kd.V_elderB (by (with_reducible repeat (first | apply Kd.V_alloc | apply Kd.V_drewN | apply Kd.V_drew)); exact HO1_1.out) gb161 (Nat.le_of_eq hg.symm)) hb); have n1_ := Aside0.mk (blk_below (g := gb159) (o := .cells #[.int .i64 a0_0, .slice A0_1 l0_1.length c0_1] 24 (0, 0)) (by (with_reducible repeat (first | refine blk_drewN ?_ _ | refine blk_drew ?_ | refine blk_alloc ?_ _)); exact BK159.out) hb); have n2_ := Aside0.mk (blk_below (g := gb160) (o := .cells #[.string a1_0, .slice A1_1 l1_1.length c1_1, .int .i64 a1_2] 61 (0, 0)) (by (with_reducible repeat (first | refine blk_drewN ?_ _ | refine blk_drew ?_ | refine blk_alloc ?_ _)); exact BK160.out) hb); have n3_ := Aside0.mk (below_step (by repeat (first | (with_reducible first | exact HB.out | apply below_alloc | apply pw_below_drewN | apply below_drew1 | refine below_set ?_ GE159.out | refine below_set ?_ GE160.out) | exact HB.out)) hb); have n4_ := Aside0.mk (hbox); have n5_ := Aside0.mk ((by rw [hg]; exact (below_size (by repeat (first | (with_reducible first | exact HB.out | apply below_alloc | apply pw_below_drewN | apply below_drew1 | refine below_set ?_ GE159.out | refine below_set ?_ GE160.out) | exact HB.out))) : w.heap.size ≤ gb161)); have n6_ := Aside0.mk ((by rw [hg]; exact (below_size (by repeat (first | (with_reducible first | exact HB.out | apply below_alloc | apply pw_below_drewN | apply below_drew1 | refine below_set ?_ GE159.out | refine below_set ?_ GE160.out) | exact HB.out))) : w.heap.size ≤ gb161)); have n7_ := Aside0.mk ((by rw [hg]; exact Nat.ne_of_lt (blk_lt (g := gb159) (o := .cells #[.int .i64 a0_0, .slice A0_1 l0_1.length c0_1] 24 (0, 0)) (by (with_reducible repeat (first | refine blk_drewN ?_ _ | refine blk_drew ?_ | refine blk_alloc ?_ _)); exact BK159.out)) : gb159 ≠ gb161)); have n8_ := Aside0.mk ((by rw [hg]; exact Nat.ne_of_gt (blk_lt (g := gb159) (o := .cells #[.int .i64 a0_0, .slice A0_1 l0_1.length c0_1] 24 (0, 0)) (by (with_reducible repeat (first | refine blk_drewN ?_ _ | refine blk_drew ?_ | refine blk_alloc ?_ _)); exact BK159.out)) : gb161 ≠ gb159)); have n9_ := Aside0.mk ((by rw [hg]; exact Nat.ne_of_lt (blk_lt (g := gb160) (o := .cells #[.string a1_0, .slice A1_1 l1_1.length c1_1, .int .i64 a1_2] 61 (0, 0)) (by (with_reducible repeat (first | refine blk_drewN ?_ _ | refine blk_drew ?_ | refine blk_alloc ?_ _)); exact BK160.out)) : gb160 ≠ gb161)); have n10_ := Aside0.mk ((by rw [hg]; exact Nat.ne_of_gt (blk_lt (g := gb160) (o := .cells #[.string a1_0, .slice A1_1 l1_1.length c1_1, .int .i64 a1_2] 61 (0, 0)) (by (with_reducible repeat (first | refine blk_drewN ?_ _ | refine blk_drew ?_ | refine blk_alloc ?_ _)); exact BK160.out)) : gb161 ≠ gb160)); clear HO1_1; clear BK159; clear BK160; clear HB; have HO1_1 := n0_; have BK159 := n1_; have BK160 := n2_; have HB := n3_; have BK161 := n4_; have GW161 := n5_; have GE161 := n6_; have NB159_161 := n7_; have NB161_159 := n8_; have NB160_161 := n9_; have NB161_160 := n10_; clear n0_ n1_ n2_ n3_ n4_ n5_ n6_ n7_ n8_ n9_ n10_; clear hb hbox hg; have hnb7 := NB159_160.out; have hnc7 := NB160_159.out; have hnb8 := NB159_161.out; have hnc8 := NB161_159.out; have hcz9_0 : w6.cell? ⟨gb159, 0, none⟩ = some (.int .i64 a0_0) := (blk_cell BK159.out 0).trans rfl; have hcz9_1 : w6.cell? ⟨gb159, 1, none⟩ = some (.slice A0_1 l0_1.length c0_1) := (blk_cell BK159.out 1).trans rfl; have hfz9_0 := blk_frozen BK159.out 0; have hfz9_1 := blk_frozen BK159.out 1; have hnb10 := NB160_161.out; have hnc10 := NB161_160.out; have hcz11_0 : w6.cell? ⟨gb160, 0, none⟩ = some (.string a1_0) := (blk_cell BK160.out 0).trans rfl; have hcz11_1 : w6.cell? ⟨gb160, 1, none⟩ = some (.slice A1_1 l1_1.length c1_1) := (blk_cell BK160.out 1).trans rfl; have hcz11_2 : w6.cell? ⟨gb160, 2, none⟩ = some (.int .i64 a1_2) := (blk_cell BK160.out 2).trans rfl; have hfz11_0 := blk_frozen BK160.out 0; have hfz11_1 := blk_frozen BK160.out 1; have hfz11_2 := blk_frozen BK160.out 2) | ((with_reducible refine gate_callee (f := 40) rfl ?_); refine goesL_ (some 12) rfl rfl Try.func40 (by kernel_rfl) rfl #[.agg #[.int .i64 a0_0, .slice A0_1 l0_1.length c0_1], .string a1_0] rfl (by (try simp only [List.map_toArray, List.map_cons, List.map_nil]); first | done | rfl | (simp only [List.length_drop, List.length_take]; rfl)) ?_; (with_reducible refine (dragnetref16_without.calls k a0_0 _ _ l0_1 a1_0 t162 t163 _ ?side1 ?side2 A3.out).mono ?_); (case side1 => repeat (first | exact (Kd.C_below HR0_1.out HB.out) | (with_reducible refine Kd.C_alloc ?_ _) | (with_reducible refine Kd.C_drewN ?_ _) | (with_reducible refine Kd.C_drew ?_))); (case side2 => exact HC0_1.out); rintro e w12 ⟨v164, rfl, ho0, hb⟩; refine ⟨_, rfl, ?_⟩; have n0_ := Aside0.mk (Kd.V_elder' (by (with_reducible repeat (first | apply Kd.V_alloc | apply Kd.V_drewN | apply Kd.V_drew)); exact HO1_1.out) (Kd.N_base ho0) hb); have n1_ := Aside0.mk (Kd.N_lower (Kd.N_mono (ok' := fun k_ => (P1_1_ k_ ∨ w.heap.size ≤ k_) ∧ k_ ≠ gb159 ∧ k_ ≠ gb160 ∧ k_ ≠ gb161) ho0 (fun k_ hk_ => ⟨(.inr (Nat.le_trans (below_size (by repeat (first | (with_reducible first | exact HB.out | apply below_alloc | apply pw_below_drewN | apply below_drew1 | refine below_set ?_ GE159.out | refine below_set ?_ GE160.out | refine below_set ?_ GE161.out) | exact HB.out))) hk_)), (Kd.freshB (g := gb159) (o := .cells #[.int .i64 a0_0, .slice A0_1 l0_1.length c0_1] 24 (0, 0)) (by (with_reducible repeat (first | refine blk_drewN ?_ _ | refine blk_drew ?_ | refine blk_alloc ?_ _)); exact BK159.out) k_ hk_), (Kd.freshB (g := gb160) (o := .cells #[.string a1_0, .slice A1_1 l1_1.length c1_1, .int .i64 a1_2] 61 (0, 0)) (by (with_reducible repeat (first | refine blk_drewN ?_ _ | refine blk_drew ?_ | refine blk_alloc ?_ _)); exact BK160.out) k_ hk_), (Kd.freshB (g := gb161) (o := .cells #[.int .i64 0, .slice none 0 0] 24 (0, 0)) (by (with_reducible repeat (first | refine blk_drewN ?_ _ | refine blk_drew ?_ | refine blk_alloc ?_ _)); exact BK161.out) k_ hk_)⟩)) (below_size (by repeat (first | (with_reducible first | exact HB.out | apply below_alloc | apply pw_below_drewN | apply below_drew1 | refine below_set ?_ GE159.out | refine below_set ?_ GE160.out | refine below_set ?_ GE161.out) | exact HB.out)))); have n2_ := Aside0.mk (blk_below (g := gb159) (o := .cells #[.int .i64 a0_0, .slice A0_1 l0_1.length c0_1] 24 (0, 0)) (by (with_reducible repeat (first | refine blk_drewN ?_ _ | refine blk_drew ?_ | refine blk_alloc ?_ _)); exact BK159.out) hb); have n3_ := Aside0.mk (blk_below (g := gb160) (o := .cells #[.string a1_0, .slice A1_1 l1_1.length c1_1, .int .i64 a1_2] 61 (0, 0)) (by (with_reducible repeat (first | refine blk_drewN ?_ _ | refine blk_drew ?_ | refine blk_alloc ?_ _)); exact BK160.out) hb); have n4_ := Aside0.mk (blk_below (g := gb161) (o := .cells #[.int .i64 0, .slice none 0 0] 24 (0, 0)) (by (with_reducible repeat (first | refine blk_drewN ?_ _ | refine blk_drew ?_ | refine blk_alloc ?_ _)); exact BK161.out) hb); have n5_ := Aside0.mk (below_step (by repeat (first | (with_reducible first | exact HB.out | apply below_alloc | apply pw_below_drewN | apply below_drew1 | refine below_set ?_ GE159.out | refine below_set ?_ GE160.out | refine below_set ?_ GE161.out) | exact HB.out)) hb); clear HO1_1; clear BK159; clear BK160; clear BK161; clear HB; have HO1_1 := n0_; have HO165 := n1_; have BK159 := n2_; have BK160 := n3_; have BK161 := n4_; have HB := n5_; clear n0_ n1_ n2_ n3_ n4_ n5_; (try clear hb); (try clear hb2); (try clear hk); (try clear hi); (try clear ho0)) | ((with_reducible refine gate_dst (N := 5) rfl ?_); refine box_event ?hg (N := 5) ?hd (cs := #[.int .i64 0, .slice none 0 0]) (t := 24) ?hr ?_; (case hd => rfl); (case hg => rfl); (case hr => first | (go_simp; done) | (go_simp; rfl)); intro gb166 hg w13 hbox hb; have n0_ := Aside0.mk (Kd.V_below (Kd.V_elderB (by (with_reducible repeat (first | apply Kd.V_alloc | apply Kd.V_drewN | apply Kd.V_drew)); exact HO1_1.out) gb166 (Nat.le_of_eq hg.symm)) hb); have n1_ := Aside0.mk (Kd.N_below (Kd.N_elderB (by (with_reducible repeat (first | apply Kd.N_alloc | apply Kd.N_drewN | apply Kd.N_drew)); exact HO165.out) gb166 (Nat.le_of_eq hg.symm)) hb); have n2_ := Aside0.mk (blk_below (g := gb159) (o := .cells #[.int .i64 a0_0, .slice A0_1 l0_1.length c0_1] 24 (0, 0)) (by (with_reducible repeat (first | refine blk_drewN ?_ _ | refine blk_drew ?_ | refine blk_alloc ?_ _)); exact BK159.out) hb); have n3_ := Aside0.mk (blk_below (g := gb160) (o := .cells #[.string a1_0, .slice A1_1 l1_1.length c1_1, .int .i64 a1_2] 61 (0, 0)) (by (with_reducible repeat (first | refine blk_drewN ?_ _ | refine blk_drew ?_ | refine blk_alloc ?_ _)); exact BK160.out) hb); have n4_ := Aside0.mk (blk_below (g := gb161) (o := .cells #[.int .i64 0, .slice none 0 0] 24 (0, 0)) (by (with_reducible repeat (first | refine blk_drewN ?_ _ | refine blk_drew ?_ | refine blk_alloc ?_ _)); exact BK161.out) hb); have n5_ := Aside0.mk (below_step (by repeat (first | (with_reducible first | exact HB.out | apply below_alloc | apply pw_below_drewN | apply below_drew1 | refine below_set ?_ GE159.out | refine below_set ?_ GE160.out | refine below_set ?_ GE161.out) | exact HB.out)) hb); have n6_ := Aside0.mk (hbox); have n7_ := Aside0.mk ((by rw [hg]; exact (below_size (by repeat (first | (with_reducible first | exact HB.out | apply below_alloc | apply pw_below_drewN | apply below_drew1 | refine below_set ?_ GE159.out | refine below_set ?_ GE160.out | refine below_set ?_ GE161.out) | exact HB.out))) : w.heap.size ≤ gb166)); have n8_ := Aside0.mk ((by rw [hg]; exact (below_size (by repeat (first | (with_reducible first | exact HB.out | apply below_alloc | apply pw_below_drewN | apply below_drew1 | refine below_set ?_ GE159.out | refine below_set ?_ GE160.out | refine below_set ?_ GE161.out) | exact HB.out))) : w.heap.size ≤ gb166)); have n9_ := Aside0.mk ((by rw [hg]; exact Nat.ne_of_lt (blk_lt (g := gb159) (o := .cells #[.int .i64 a0_0, .slice A0_1 l0_1.length c0_1] 24 (0, 0)) (by (with_reducible repeat (first | refine blk_drewN ?_ _ | refine blk_drew ?_ | refine blk_alloc ?_ _)); exact BK159.out)) : gb159 ≠ gb166)); have n10_ := Aside0.mk ((by rw [hg]; exact Nat.ne_of_gt (blk_lt (g := gb159) (o := .cells #[.int .i64 a0_0, .slice A0_1 l0_1.length c0_1] 24 (0, 0)) (by (with_reducible repeat (first | refine blk_drewN ?_ _ | refine blk_drew ?_ | refine blk_alloc ?_ _)); exact BK159.out)) : gb166 ≠ gb159)); have n11_ := Aside0.mk ((by rw [hg]; exact Nat.ne_of_lt (blk_lt (g := gb160) (o := .cells #[.string a1_0, .slice A1_1 l1_1.length c1_1, .int .i64 a1_2] 61 (0, 0)) (by (with_reducible repeat (first | refine blk_drewN ?_ _ | refine blk_drew ?_ | refine blk_alloc ?_ _)); exact BK160.out)) : gb160 ≠ gb166)); have n12_ := Aside0.mk ((by rw [hg]; exact Nat.ne_of_gt (blk_lt (g := gb160) (o := .cells #[.string a1_0, .slice A1_1 l1_1.length c1_1, .int .i64 a1_2] 61 (0, 0)) (by (with_reducible repeat (first | refine blk_drewN ?_ _ | refine blk_drew ?_ | refine blk_alloc ?_ _)); exact BK160.out)) : gb166 ≠ gb160)); have n13_ := Aside0.mk ((by rw [hg]; exact Nat.ne_of_lt (blk_lt (g := gb161) (o := .cells #[.int .i64 0, .slice none 0 0] 24 (0, 0)) (by (with_reducible repeat (first | refine blk_drewN ?_ _ | refine blk_drew ?_ | refine blk_alloc ?_ _)); exact BK161.out)) : gb161 ≠ gb166)); have n14_ := Aside0.mk ((by rw [hg]; exact Nat.ne_of_gt (blk_lt (g := gb161) (o := .cells #[.int .i64 0, .slice none 0 0] 24 (0, 0)) (by (with_reducible repeat (first | refine blk_drewN ?_ _ | refine blk_drew ?_ | refine blk_alloc ?_ _)); exact BK161.out)) : gb166 ≠ gb161)); clear HO1_1; clear HO165; clear BK159; clear BK160; clear BK161; clear HB; have HO1_1 := n0_; have HO165 := n1_; have BK159 := n2_; have BK160 := n3_; have BK161 := n4_; have HB := n5_; have BK166 := n6_; have GW166 := n7_; have GE166 := n8_; have NB159_166 := n9_; have NB166_159 := n10_; have NB160_166 := n11_; have NB166_160 := n12_; have NB161_166 := n13_; have NB166_161 := n14_; clear n0_ n1_ n2_ n3_ n4_ n5_ n6_ n7_ n8_ n9_ n10_ n11_ n12_ n13_ n14_; clear hb hbox hg; have hnb14 := NB166_159.out; have hnc14 := NB159_166.out; have hnb15 := NB166_160.out; have hnc15 := NB160_166.out; have hnb16 := NB166_161.out; have hnc16 := NB161_166.out; have hcz17_0 : w13.cell? ⟨gb166, 0, none⟩ = some (.int .i64 0) := (blk_cell BK166.out 0).trans rfl; have hcz17_1 : w13.cell? ⟨gb166, 1, none⟩ = some (.slice none 0 0) := (blk_cell BK166.out 1).trans rfl; have hfz17_0 := blk_frozen BK166.out 0; have hfz17_1 := blk_frozen BK166.out 1; obtain ⟨Ao18, co18, eo18⟩ := Kd.N_slice HO165.out; subst eo18; have hcz19_0 : w13.cell? ⟨gb159, 0, none⟩ = some (.int .i64 a0_0) := (blk_cell BK159.out 0).trans rfl; have hcz19_1 : w13.cell? ⟨gb159, 1, none⟩ = some (.slice A0_1 l0_1.length c0_1) := (blk_cell BK159.out 1).trans rfl; have hfz19_0 := blk_frozen BK159.out 0; have hfz19_1 := blk_frozen BK159.out 1) | ((with_reducible refine gate_dst (N := 6) rfl ?_); refine box_event ?hg (N := 6) ?hd (cs := #[.int .i64 0, .slice none 0 0]) (t := 24) ?hr ?_; (case hd => rfl); (case hg => rfl); (case hr => first | (go_simp; done) | (go_simp; rfl)); intro gb167 hg w20 hbox hb; have n0_ := Aside0.mk (Kd.V_below (Kd.V_elderB (by (with_reducible repeat (first | apply Kd.V_alloc | apply Kd.V_drewN | apply Kd.V_drew)); exact (Kd.V_mono (Kd.V_far (p := ⟨gb166, 1, none⟩) (Kd.V_far (p := ⟨gb166, 0, none⟩) (Kd.V_mono HO1_1.out (fun k_ hk => (⟨hk, hk.2⟩ : _ ∧ k_ ≠ gb166))) (fun _ hk => hk.2) (.int .i64 t162)) (fun _ hk => hk.2) (.slice Ao18 t163.length co18)) (fun _ h_ => h_.1))) gb167 (Nat.le_of_eq hg.symm)) hb); have n1_ := Aside0.mk (Kd.N_below (Kd.N_elderB (by (with_reducible repeat (first | apply Kd.N_alloc | apply Kd.N_drewN | apply Kd.N_drew)); exact (Kd.N_mono (Kd.N_far (p := ⟨gb166, 1, none⟩) (Kd.N_far (p := ⟨gb166, 0, none⟩) (Kd.N_mono HO165.out (fun k_ hk => (⟨hk, hk.2⟩ : _ ∧ k_ ≠ gb166))) (fun _ hk => hk.2) (.int .i64 t162)) (fun _ hk => hk.2) (.slice Ao18 t163.length co18)) (fun _ h_ => h_.1))) gb167 (Nat.le_of_eq hg.symm)) hb); have n2_ := Aside0.mk (blk_below (g := gb159) (o := .cells #[.int .i64 a0_0, .slice A0_1 l0_1.length c0_1] 24 (0, 0)) (by (with_reducible repeat (first | refine blk_drewN ?_ _ | refine blk_drew ?_ | refine blk_alloc ?_ _)); refine blk_far ?_ NB159_166.out _; (with_reducible repeat (first | refine blk_drewN ?_ _ | refine blk_drew ?_ | refine blk_alloc ?_ _)); refine blk_far ?_ NB159_166.out _; (with_reducible repeat (first | refine blk_drewN ?_ _ | refine blk_drew ?_ | refine blk_alloc ?_ _)); exact BK159.out) hb); have n3_ := Aside0.mk (blk_below (g := gb160) (o := .cells #[.string a1_0, .slice A1_1 l1_1.length c1_1, .int .i64 a1_2] 61 (0, 0)) (by (with_reducible repeat (first | refine blk_drewN ?_ _ | refine blk_drew ?_ | refine blk_alloc ?_ _)); refine blk_far ?_ NB160_166.out _; (with_reducible repeat (first | refine blk_drewN ?_ _ | refine blk_drew ?_ | refine blk_alloc ?_ _)); refine blk_far ?_ NB160_166.out _; (with_reducible repeat (first | refine blk_drewN ?_ _ | refine blk_drew ?_ | refine blk_alloc ?_ _)); exact BK160.out) hb); have n4_ := Aside0.mk (blk_below (g := gb161) (o := .cells #[.int .i64 0, .slice none 0 0] 24 (0, 0)) (by (with_reducible repeat (first | refine blk_drewN ?_ _ | refine blk_drew ?_ | refine blk_alloc ?_ _)); refine blk_far ?_ NB161_166.out _; (with_reducible repeat (first | refine blk_drewN ?_ _ | refine blk_drew ?_ | refine blk_alloc ?_ _)); refine blk_far ?_ NB161_166.out _; (with_reducible repeat (first | refine blk_drewN ?_ _ | refine blk_drew ?_ | refine blk_alloc ?_ _)); exact BK161.out) hb); have n5_ := Aside0.mk (blk_below (g := gb166) (o := .cells #[.int .i64 t162, .slice Ao18 t163.length co18] 24 (0, 0)) (by (with_reducible repeat (first | refine blk_drewN ?_ _ | refine blk_drew ?_ | refine blk_alloc ?_ _)); refine blk_put (cs := #[.int .i64 t162, .slice none 0 0]) ?_ 1 _ rfl; (with_reducible repeat (first | refine blk_drewN ?_ _ | refine blk_drew ?_ | refine blk_alloc ?_ _)); refine blk_put (cs := #[.int .i64 0, .slice none 0 0]) ?_ 0 _ rfl; (with_reducible repeat (first | refine blk_drewN ?_ _ | refine blk_drew ?_ | refine blk_alloc ?_ _)); exact BK166.out) hb); have n6_ := Aside0.mk (below_step (by repeat (first | (with_reducible first | exact HB.out | apply below_alloc | apply pw_below_drewN | apply below_drew1 | refine below_set ?_ GE159.out | refine below_set ?_ GE160.out | refine below_set ?_ GE161.out | refine below_set ?_ GE166.out) | exact HB.out)) hb); have n7_ := Aside0.mk (hbox); have n8_ := Aside0.mk ((by rw [hg]; exact (below_size (by repeat (first | (with_reducible first | exact HB.out | apply below_alloc | apply pw_below_drewN | apply below_drew1 | refine below_set ?_ GE159.out | refine below_set ?_ GE160.out | refine below_set ?_ GE161.out | refine below_set ?_ GE166.out) | exact HB.out))) : w.heap.size ≤ gb167)); have n9_ := Aside0.mk ((by rw [hg]; exact (below_size (by repeat (first | (with_reducible first | exact HB.out | apply below_alloc | apply pw_below_drewN | apply below_drew1 | refine below_set ?_ GE159.out | refine below_set ?_ GE160.out | refine below_set ?_ GE161.out | refine below_set ?_ GE166.out) | exact HB.out))) : w.heap.size ≤ gb167)); have n10_ := Aside0.mk ((by rw [hg]; exact Nat.ne_of_lt (blk_lt (g := gb159) (o := .cells #[.int .i64 a0_0, .slice A0_1 l0_1.length c0_1] 24 (0, 0)) (by (with_reducible repeat (first | refine blk_drewN ?_ _ | refine blk_drew ?_ | refine blk_alloc ?_ _)); refine blk_far ?_ NB159_166.out _; (with_reducible repeat (first | refine blk_drewN ?_ _ | refine blk_drew ?_ | refine blk_alloc ?_ _)); refine blk_far ?_ NB159_166.out _; (with_reducible repeat (first | refine blk_drewN ?_ _ | refine blk_drew ?_ | refine blk_alloc ?_ _)); exact BK159.out)) : gb159 ≠ gb167)); have n11_ := Aside0.mk ((by rw [hg]; exact Nat.ne_of_gt (blk_lt (g := gb159) (o := .cells #[.int .i64 a0_0, .slice A0_1 l0_1.length c0_1] 24 (0, 0)) (by (with_reducible repeat (first | refine blk_drewN ?_ _ | refine blk_drew ?_ | refine blk_alloc ?_ _)); refine blk_far ?_ NB159_166.out _; (with_reducible repeat (first | refine blk_drewN ?_ _ | refine blk_drew ?_ | refine blk_alloc ?_ _)); refine blk_far ?_ NB159_166.out _; (with_reducible repeat (first | refine blk_drewN ?_ _ | refine blk_drew ?_ | refine blk_alloc ?_ _)); exact BK159.out)) : gb167 ≠ gb159)); have n12_ := Aside0.mk ((by rw [hg]; exact Nat.ne_of_lt (blk_lt (g := gb160) (o := .cells #[.string a1_0, .slice A1_1 l1_1.length c1_1, .int .i64 a1_2] 61 (0, 0)) (by (with_reducible repeat (first | refine blk_drewN ?_ _ | refine blk_drew ?_ | refine blk_alloc ?_ _)); refine blk_far ?_ NB160_166.out _; (with_reducible repeat (first | refine blk_drewN ?_ _ | refine blk_drew ?_ | refine blk_alloc ?_ _)); refine blk_far ?_ NB160_166.out _; (with_reducible repeat (first | refine blk_drewN ?_ _ | refine blk_drew ?_ | refine blk_alloc ?_ _)); exact BK160.out)) : gb160 ≠ gb167)); have n13_ := Aside0.mk ((by rw [hg]; exact Nat.ne_of_gt (blk_lt (g := gb160) (o := .cells #[.string a1_0, .slice A1_1 l1_1.length c1_1, .int .i64 a1_2] 61 (0, 0)) (by (with_reducible repeat (first | refine blk_drewN ?_ _ | refine blk_drew ?_ | refine blk_alloc ?_ _)); refine blk_far ?_ NB160_166.out _; (with_reducible repeat (first | refine blk_drewN ?_ _ | refine blk_drew ?_ | refine blk_alloc ?_ _)); refine blk_far ?_ NB160_166.out _; (with_reducible repeat (first | refine blk_drewN ?_ _ | refine blk_drew ?_ | refine blk_alloc ?_ _)); exact BK160.out)) : gb167 ≠ gb160)); have n14_ := Aside0.mk ((by rw [hg]; exact Nat.ne_of_lt (blk_lt (g := gb161) (o := .cells #[.int .i64 0, .slice none 0 0] 24 (0, 0)) (by (with_reducible repeat (first | refine blk_drewN ?_ _ | refine blk_drew ?_ | refine blk_alloc ?_ _)); refine blk_far ?_ NB161_166.out _; (with_reducible repeat (first | refine blk_drewN ?_ _ | refine blk_drew ?_ | refine blk_alloc ?_ _)); refine blk_far ?_ NB161_166.out _; (with_reducible repeat (first | refine blk_drewN ?_ _ | refine blk_drew ?_ | refine blk_alloc ?_ _)); exact BK161.out)) : gb161 ≠ gb167)); have n15_ := Aside0.mk ((by rw [hg]; exact Nat.ne_of_gt (blk_lt (g := gb161) (o := .cells #[.int .i64 0, .slice none 0 0] 24 (0, 0)) (by (with_reducible repeat (first | refine blk_drewN ?_ _ | refine blk_drew ?_ | refine blk_alloc ?_ _)); refine blk_far ?_ NB161_166.out _; (with_reducible repeat (first | refine blk_drewN ?_ _ | refine blk_drew ?_ | refine blk_alloc ?_ _)); refine blk_far ?_ NB161_166.out _; (with_reducible repeat (first | refine blk_drewN ?_ _ | refine blk_drew ?_ | refine blk_alloc ?_ _)); exact BK161.out)) : gb167 ≠ gb161)); have n16_ := Aside0.mk ((by rw [hg]; exact Nat.ne_of_lt (blk_lt (g := gb166) (o := .cells #[.int .i64 t162, .slice Ao18 t163.length co18] 24 (0, 0)) (by (with_reducible repeat (first | refine blk_drewN ?_ _ | refine blk_drew ?_ | refine blk_alloc ?_ _)); refine blk_put (cs := #[.int .i64 t162, .slice none 0 0]) ?_ 1 _ rfl; (with_reducible repeat (first | refine blk_drewN ?_ _ | refine blk_drew ?_ | refine blk_alloc ?_ _)); refine blk_put (cs := #[.int .i64 0, .slice none 0 0]) ?_ 0 _ rfl; (with_reducible repeat (first | refine blk_drewN ?_ _ | refine blk_drew ?_ | refine blk_alloc ?_ _)); exact BK166.out)) : gb166 ≠ gb167)); have n17_ := Aside0.mk ((by rw [hg]; exact Nat.ne_of_gt (blk_lt (g := gb166) (o := .cells #[.int .i64 t162, .slice Ao18 t163.length co18] 24 (0, 0)) (by (with_reducible repeat (first | refine blk_drewN ?_ _ | refine blk_drew ?_ | refine blk_alloc ?_ _)); refine blk_put (cs := #[.int .i64 t162, .slice none 0 0]) ?_ 1 _ rfl; (with_reducible repeat (first | refine blk_drewN ?_ _ | refine blk_drew ?_ | refine blk_alloc ?_ _)); refine blk_put (cs := #[.int .i64 0, .slice none 0 0]) ?_ 0 _ rfl; (with_reducible repeat (first | refine blk_drewN ?_ _ | refine blk_drew ?_ | refine blk_alloc ?_ _)); exact BK166.out)) : gb167 ≠ gb166)); clear HO1_1; clear HO165; clear BK159; clear BK160; clear BK161; clear BK166; clear HB; have HO1_1 := n0_; have HO165 := n1_; have BK159 := n2_; have BK160 := n3_; have BK161 := n4_; have BK166 := n5_; have HB := n6_; have BK167 := n7_; have GW167 := n8_; have GE167 := n9_; have NB159_167 := n10_; have NB167_159 := n11_; have NB160_167 := n12_; have NB167_160 := n13_; have NB161_167 := n14_; have NB167_161 := n15_; have NB166_167 := n16_; have NB167_166 := n17_; clear n0_ n1_ n2_ n3_ n4_ n5_ n6_ n7_ n8_ n9_ n10_ n11_ n12_ n13_ n14_ n15_ n16_ n17_; clear hb hbox hg; have hnb21 := NB167_159.out; have hnc21 := NB159_167.out; have hnb22 := NB167_160.out; have hnc22 := NB160_167.out; have hnb23 := NB167_161.out; have hnc23 := NB161_167.out; have hnb24 := NB167_166.out; have hnc24 := NB166_167.out; have hcz25_0 : w20.cell? ⟨gb167, 0, none⟩ = some (.int .i64 0) := (blk_cell BK167.out 0).trans rfl; have hcz25_1 : w20.cell? ⟨gb167, 1, none⟩ = some (.slice none 0 0) := (blk_cell BK167.out 1).trans rfl; have hfz25_0 := blk_frozen BK167.out 0; have hfz25_1 := blk_frozen BK167.out 1))
 go_loopg [7, 8] k (fun kq v7 v8 w' => ∃ (x7_1 : Bool) (x8_1 : Int) (x168001_1 : List (S61)) (u168001 : Value), v7 = .bool x7_1 ∧ v8 = .int .i64 x8_1 ∧ Aside0 (dragnetref16_with.l0 kq x7_1 x8_1 a1_0 l1_1 a1_2 t162 t163 a0_0 x168001_1 = some (r1, r2)) ∧ Aside0 (kq ≤ k) ∧ Aside0 (Kd.V (Kd.int .u8) 5 w' w.heap.size (fun k_ => (P1_1_ k_ ∨ w.heap.size ≤ k_) ∧ some k_ ≠ ((.slice Ao18 t163.length co18) : Value).ownBlock ∧ some k_ ≠ (u168001 : Value).ownBlock ∧ k_ ≠ gb159 ∧ k_ ≠ gb160 ∧ k_ ≠ gb161 ∧ k_ ≠ gb166 ∧ k_ ≠ gb167) (.slice A1_1 l1_1.length c1_1) l1_1) ∧ Aside0 (Kd.N k61 61 w' w.heap.size (fun k_ => (P1_1_ k_ ∨ w.heap.size ≤ k_) ∧ some k_ ≠ (u168001 : Value).ownBlock ∧ k_ ≠ gb159 ∧ k_ ≠ gb160 ∧ k_ ≠ gb161 ∧ k_ ≠ gb166 ∧ k_ ≠ gb167) (.slice Ao18 t163.length co18) t163) ∧ Aside0 (Kd.N k61 61 w' w.heap.size (fun k_ => (P1_1_ k_ ∨ w.heap.size ≤ k_) ∧ some k_ ≠ ((.slice Ao18 t163.length co18) : Value).ownBlock ∧ k_ ≠ gb159 ∧ k_ ≠ gb160 ∧ k_ ≠ gb161 ∧ k_ ≠ gb166 ∧ k_ ≠ gb167) u168001 x168001_1) ∧ Aside0 (w'.heap[gb159]? = some (.cells #[.int .i64 a0_0, (.slice A0_1 l0_1.length c0_1)] 24 (0, 0))) ∧ Aside0 (w'.heap[gb160]? = some (.cells #[.string a1_0, (.slice A1_1 l1_1.length c1_1), .int .i64 a1_2] 61 (0, 0))) ∧ Aside0 (w'.heap[gb161]? = some (.cells #[.int .i64 0, (.slice none 0 0)] 24 (0, 0))) ∧ Aside0 (w'.heap[gb166]? = some (.cells #[.int .i64 t162, (.slice Ao18 t163.length co18)] 24 (0, 0))) ∧ Aside0 (w'.heap[gb167]? = some (.cells #[.int .i64 a0_0, u168001] 24 (0, 0))) ∧ Aside0 (Below w.heap.size w w'))
 case atStart => exact ⟨(false), (0), (([] : List (S61))), (.slice none 0 0), (by first | rfl | (simp; done) | (simp [*]; done)), (by first | rfl | (simp; done) | (simp [*]; done)), H', ⟨Nat.le_refl _⟩, ⟨by (with_reducible repeat (first | apply Kd.V_alloc | apply Kd.V_drewN | apply Kd.V_drew)); exact Kd.V_mono (Kd.V_far (p := ⟨gb167, 1, none⟩) (Kd.V_far (p := ⟨gb167, 0, none⟩) (Kd.V_mono HO1_1.out (fun k_ hk => (⟨hk, hk.2⟩ : _ ∧ k_ ≠ gb167))) (fun _ hk => hk.2) (.int .i64 a0_0)) (fun _ hk => hk.2) (.slice none 0 0)) (fun _ hk => ⟨hk.1.1.1.1.1.1.1, ⟨hk.1.1.1.2, ⟨(by simp [Value.ownBlock]), ⟨hk.1.1.1.1.1.1.2, ⟨hk.1.1.1.1.1.2, ⟨hk.1.1.1.1.2, ⟨hk.1.1.2, hk.1.2⟩⟩⟩⟩⟩⟩⟩)⟩, ⟨by (with_reducible repeat (first | apply Kd.N_alloc | apply Kd.N_drewN | apply Kd.N_drew)); exact Kd.N_mono (Kd.N_far (p := ⟨gb167, 1, none⟩) (Kd.N_far (p := ⟨gb167, 0, none⟩) (Kd.N_mono HO165.out (fun k_ hk => (⟨hk, hk.2⟩ : _ ∧ k_ ≠ gb167))) (fun _ hk => hk.2) (.int .i64 a0_0)) (fun _ hk => hk.2) (.slice none 0 0)) (fun _ hk => ⟨hk.1.1.1.1, ⟨(by simp [Value.ownBlock]), ⟨hk.1.1.1.2.1, ⟨hk.1.1.1.2.2.1, ⟨hk.1.1.1.2.2.2, ⟨hk.1.1.2, hk.1.2⟩⟩⟩⟩⟩⟩)⟩, ⟨by first | exact Kd.S_nil _ _ _ _ _ | exact Kd.N_nil _ _ _ _ _ | exact Kd.V_nil _ _ _ _ _ | exact Kd.Q_nil _ _ _ _ _ | exact Kd.R_nil _ _ _ _ _⟩, ⟨by (with_reducible repeat (first | refine blk_drewN ?_ _ | refine blk_drew ?_ | refine blk_alloc ?_ _)); refine blk_far ?_ NB159_167.out _; (with_reducible repeat (first | refine blk_drewN ?_ _ | refine blk_drew ?_ | refine blk_alloc ?_ _)); refine blk_far ?_ NB159_167.out _; (with_reducible repeat (first | refine blk_drewN ?_ _ | refine blk_drew ?_ | refine blk_alloc ?_ _)); exact BK159.out⟩, ⟨by (with_reducible repeat (first | refine blk_drewN ?_ _ | refine blk_drew ?_ | refine blk_alloc ?_ _)); refine blk_far ?_ NB160_167.out _; (with_reducible repeat (first | refine blk_drewN ?_ _ | refine blk_drew ?_ | refine blk_alloc ?_ _)); refine blk_far ?_ NB160_167.out _; (with_reducible repeat (first | refine blk_drewN ?_ _ | refine blk_drew ?_ | refine blk_alloc ?_ _)); exact BK160.out⟩, ⟨by (with_reducible repeat (first | refine blk_drewN ?_ _ | refine blk_drew ?_ | refine blk_alloc ?_ _)); refine blk_far ?_ NB161_167.out _; (with_reducible repeat (first | refine blk_drewN ?_ _ | refine blk_drew ?_ | refine blk_alloc ?_ _)); refine blk_far ?_ NB161_167.out _; (with_reducible repeat (first | refine blk_drewN ?_ _ | refine blk_drew ?_ | refine blk_alloc ?_ _)); exact BK161.out⟩, ⟨by (with_reducible repeat (first | refine blk_drewN ?_ _ | refine blk_drew ?_ | refine blk_alloc ?_ _)); refine blk_far ?_ NB166_167.out _; (with_reducible repeat (first | refine blk_drewN ?_ _ | refine blk_drew ?_ | refine blk_alloc ?_ _)); refine blk_far ?_ NB166_167.out _; (with_reducible repeat (first | refine blk_drewN ?_ _ | refine blk_drew ?_ | refine blk_alloc ?_ _)); exact BK166.out⟩, ⟨by (with_reducible repeat (first | refine blk_drewN ?_ _ | refine blk_drew ?_ | refine blk_alloc ?_ _)); refine blk_put (cs := #[.int .i64 a0_0, .slice none 0 0]) ?_ 1 _ rfl; (with_reducible repeat (first | refine blk_drewN ?_ _ | refine blk_drew ?_ | refine blk_alloc ?_ _)); refine blk_put (cs := #[.int .i64 0, .slice none 0 0]) ?_ 0 _ rfl; (with_reducible repeat (first | refine blk_drewN ?_ _ | refine blk_drew ?_ | refine blk_alloc ?_ _)); exact BK167.out⟩, ⟨by repeat (first | (with_reducible first | exact HB.out | apply below_alloc | apply pw_below_drewN | apply below_drew1 | refine below_set ?_ GE159.out | refine below_set ?_ GE160.out | refine below_set ?_ GE161.out | refine below_set ?_ GE166.out | refine below_set ?_ GE167.out) | exact HB.out)⟩⟩
 case round =>
  clear H'
  try clear c1
  try clear c2
  try clear p2
  try clear c3
  try clear c4
  try clear c7
  try clear c8
  try clear c10
  try clear c14
  try clear c15
  try clear c16
  try clear c21
  try clear c22
  try clear c23
  try clear c24
  try clear hcz11_0
  try clear hcz11_1
  try clear hcz11_2
  try clear hcz17_0
  try clear hcz17_1
  try clear hcz19_0
  try clear hcz19_1
  try clear hcz25_0
  try clear hcz25_1
  try clear hcz9_0
  try clear hcz9_1
  try clear hfz11_0
  try clear hfz11_1
  try clear hfz11_2
  try clear hfz17_0
  try clear hfz17_1
  try clear hfz19_0
  try clear hfz19_1
  try clear hfz25_0
  try clear hfz25_1
  try clear hfz9_0
  try clear hfz9_1
  obtain ⟨x7_1, x8_1, x168001_1, u168001, rfl, rfl, HA, HK1, HO_161001, HO_167001, HO_168001, BK159, BK160, BK161, BK166, BK167, HB⟩ := hrel
  cases gk with
  | zero => exact absurd HA.out (by simp [dragnetref16_with.l0])
  | succ k1 =>
   have H := HA.out
   clear HA
   simp only [dragnetref16_with.l0] at H
   by_cases c26 : x8_1 < (t163.length : Int)
   ·rw [if_pos c26] at H
    have c26b0 : decide (x8_1 < (t163.length : Int)) = true := decide_eq_true c26
    clear c26
    by_cases c27 : x7_1 = true
    ·subst c27
     have H1 : (if 0 ≤ x8_1 then (if x168001_1.length < 2932031007402 then (dragnetref16_with.l0 k1 true (wrap64 (x8_1 + 1)) a1_0 l1_1 a1_2 t162 t163 a0_0 (x168001_1 ++ [(⟨(rd_T61 t163 x8_1).f0, (rd_T61 t163 x8_1).f1, (rd_T61 t163 x8_1).f2⟩ : S61)])) else (none)) else (none)) = some (r1, r2) := by rw [if_pos rfl] at H; exact H
     clear H
     have H := H1
     clear H1
     by_cases c28 : 0 ≤ x8_1
     ·rw [if_pos c28] at H
      have c28b0 : decide (0 ≤ x8_1) = true := decide_eq_true c28
      clear c28
      by_cases c29 : x168001_1.length < 2932031007402
      ·rw [if_pos c29] at H
       have LMc29 := Aside0.mk c29
       clear c29
       obtain ⟨y170, hy170⟩ : ∃ y_ : List (S61), y_ = (x168001_1 ++ [(⟨(rd_T61 t163 x8_1).f0, (rd_T61 t163 x8_1).f1, (rd_T61 t163 x8_1).f2⟩ : S61)]) := ⟨_, rfl⟩
       replace H : (dragnetref16_with.l0 k1 true (wrap64 (x8_1 + 1)) a1_0 l1_1 a1_2 t162 t163 a0_0 y170) = some (r1, r2) := by first | (rw [hy170]; with_reducible exact H) | (have H2_ := (Option.bind_some _ _).symm.trans H; rw [hy170]; with_reducible exact H2_) | (have H2_ := (Option.bind_some _ _).symm.trans H; with_reducible exact H2_) | with_reducible exact H | (rw [hy170]; exact H) | exact H
       have Ny170 := Aside0.mk hy170
       clear hy170
       have H' := Aside0.mk H
       clear H
       have hnb30 := NB166_159.out
       have hnc30 := NB159_166.out
       have hnb31 := NB166_160.out
       have hnc31 := NB160_166.out
       have hnb32 := NB166_161.out
       have hnc32 := NB161_166.out
       have hnb33 := NB166_167.out
       have hnc33 := NB167_166.out
       have hcz34_0 : wr.cell? ⟨gb166, 0, none⟩ = some (.int .i64 t162) := (blk_cell BK166.out 0).trans rfl
       have hcz34_1 : wr.cell? ⟨gb166, 1, none⟩ = some (.slice Ao18 t163.length co18) := (blk_cell BK166.out 1).trans rfl
       have hfz34_0 := blk_frozen BK166.out 0
       have hfz34_1 := blk_frozen BK166.out 1
       try go_wp2
       have n0_ := Aside0.mk (Kd.V_drew HO_161001.out)
       have n1_ := Aside0.mk (Kd.N_drew HO_167001.out)
       have n2_ := Aside0.mk (Kd.N_drew HO_168001.out)
       have n3_ := Aside0.mk (blk_drew BK159.out)
       have n4_ := Aside0.mk (blk_drew BK160.out)
       have n5_ := Aside0.mk (blk_drew BK161.out)
       have n6_ := Aside0.mk (blk_drew BK166.out)
       have n7_ := Aside0.mk (blk_drew BK167.out)
       have n8_ := Aside0.mk (below_drew1 HB.out)
       clear HO_161001
       clear HO_167001
       clear HO_168001
       clear BK159
       clear BK160
       clear BK161
       clear BK166
       clear BK167
       clear HB
       have HO_161001 := n0_
       have HO_167001 := n1_
       have HO_168001 := n2_
       have BK159 := n3_
       have BK160 := n4_
       have BK161 := n5_
       have BK166 := n6_
       have BK167 := n7_
       have HB := n8_
       clear n0_ n1_ n2_ n3_ n4_ n5_ n6_ n7_ n8_
       refine start_ (n := 13) (S := fun w' => True) (ds := []) #[false, false, false, false, false, false, false, false, false, false, false, false, false] (by kernel_rfl) rfl rfl trivial (fun hHeld => ?_); refine with_tabW dragnetref16_with.tab7 dragnetref16_with.bits7 (fun HT_ HW_ => ?_)
       generalize wr.drew = w35 at HO_161001 HO_167001 HO_168001 BK159 BK160 BK161 BK166 BK167 HB hHeld ⊢
       refine pure_ (i := 0) (N := some 23) (v := ?_) (a' := ?_) #[true, false, false, false, false, false, false, false, false, false, false, false, false] rfl rfl (any_of HT_.out (by kernel_rfl)) (fun _ _ _ h => h) (Or.inl ⟨by rfl, ?_⟩) ?_ ?_
       rotate_left
       ·intro w'
        go_simp
        with_reducible rfl
       rotate_left
       ·simp only [Act.put, List.setIfInBounds_toArray, List.set_cons_zero, List.set_cons_succ, i64_w, i32_w]
        rfl
       refine pure_ (i := 1) (N := some 24) (v := ?_) (a' := ?_) #[true, true, false, false, false, false, false, false, false, false, false, false, false] rfl rfl (any_of HT_.out (by kernel_rfl)) (fun _ _ _ h => h) (Or.inl ⟨by rfl, ?_⟩) ?_ ?_
       rotate_left
       ·intro w'
        go_simp
        with_reducible rfl
       rotate_left
       ·simp only [Act.put, List.setIfInBounds_toArray, List.set_cons_zero, List.set_cons_succ, i64_w, i32_w]
        rfl
       refine pure_ (i := 2) (N := some 25) (v := ?_) (a' := ?_) #[true, true, true, false, false, false, false, false, false, false, false, false, false] rfl rfl (any_of HT_.out (by kernel_rfl)) (fun _ _ _ h => h) (Or.inl ⟨by rfl, ?_⟩) ?_ ?_
       rotate_left
       ·intro w'
        go_simp
        with_reducible rfl
       rotate_left
       ·simp only [Act.put, List.setIfInBounds_toArray, List.set_cons_zero, List.set_cons_succ, i64_w, i32_w]
        rfl
       refine pure_ (i := 3) (N := some 26) (v := undef) (a' := ?_) #[true, true, true, true, false, false, false, false, false, false, false, false, false] rfl rfl (any_of HT_.out (by kernel_rfl)) (fun _ _ _ h => h) (Or.inr ⟨by rfl, rfl⟩) ?_ ?_
       rotate_left
       ·simp only [Act.put, List.setIfInBounds_toArray, List.set_cons_zero, List.set_cons_succ, i64_w, i32_w]
        rfl
       refine pure_ (i := 4) (N := some 27) (v := undef) (a' := ?_) #[true, true, true, true, true, false, false, false, false, false, false, false, false] rfl rfl (any_of HT_.out (by kernel_rfl)) (fun _ _ _ h => h) (Or.inr ⟨by rfl, rfl⟩) ?_ ?_
       rotate_left
       ·simp only [Act.put, List.setIfInBounds_toArray, List.set_cons_zero, List.set_cons_succ, i64_w, i32_w]
        rfl
       refine pure_ (i := 5) (N := some 28) (v := undef) (a' := ?_) #[true, true, true, true, true, true, false, false, false, false, false, false, false] rfl rfl (any_of HT_.out (by kernel_rfl)) (fun _ _ _ h => h) (Or.inr ⟨by rfl, rfl⟩) ?_ ?_
       rotate_left
       ·simp only [Act.put, List.setIfInBounds_toArray, List.set_cons_zero, List.set_cons_succ, i64_w, i32_w]
        rfl
       refine pure_ (i := 6) (N := some 29) (v := undef) (a' := ?_) #[true, true, true, true, true, true, true, false, false, false, false, false, false] rfl rfl (any_of HT_.out (by kernel_rfl)) (fun _ _ _ h => h) (Or.inr ⟨by rfl, rfl⟩) ?_ ?_
       rotate_left
       ·simp only [Act.put, List.setIfInBounds_toArray, List.set_cons_zero, List.set_cons_succ, i64_w, i32_w]
        rfl
       refine pure_ (i := 7) (N := some 30) (v := undef) (a' := ?_) #[true, true, true, true, true, true, true, true, false, false, false, false, false] rfl rfl (any_of HT_.out (by kernel_rfl)) (fun _ _ _ h => h) (Or.inr ⟨by rfl, rfl⟩) ?_ ?_
       rotate_left
       ·simp only [Act.put, List.setIfInBounds_toArray, List.set_cons_zero, List.set_cons_succ, i64_w, i32_w]
        rfl
       refine pure_ (i := 8) (N := some 31) (v := undef) (a' := ?_) #[true, true, true, true, true, true, true, true, true, false, false, false, false] rfl rfl (any_of HT_.out (by kernel_rfl)) (fun _ _ _ h => h) (Or.inr ⟨by rfl, rfl⟩) ?_ ?_
       rotate_left
       ·simp only [Act.put, List.setIfInBounds_toArray, List.set_cons_zero, List.set_cons_succ, i64_w, i32_w]
        rfl
       refine pure_ (i := 9) (N := some 32) (v := undef) (a' := ?_) #[true, true, true, true, true, true, true, true, true, true, false, false, false] rfl rfl (any_of HT_.out (by kernel_rfl)) (fun _ _ _ h => h) (Or.inr ⟨by rfl, rfl⟩) ?_ ?_
       rotate_left
       ·simp only [Act.put, List.setIfInBounds_toArray, List.set_cons_zero, List.set_cons_succ, i64_w, i32_w]
        rfl
       refine pure_ (i := 10) (N := some 33) (v := undef) (a' := ?_) #[true, true, true, true, true, true, true, true, true, true, true, false, false] rfl rfl (any_of HT_.out (by kernel_rfl)) (fun _ _ _ h => h) (Or.inr ⟨by rfl, rfl⟩) ?_ ?_
       rotate_left
       ·simp only [Act.put, List.setIfInBounds_toArray, List.set_cons_zero, List.set_cons_succ, i64_w, i32_w]
        rfl
       refine pure_ (i := 11) (N := some 34) (v := undef) (a' := ?_) #[true, true, true, true, true, true, true, true, true, true, true, true, false] rfl rfl (any_of HT_.out (by kernel_rfl)) (fun _ _ _ h => h) (Or.inr ⟨by rfl, rfl⟩) ?_ ?_
       rotate_left
       ·simp only [Act.put, List.setIfInBounds_toArray, List.set_cons_zero, List.set_cons_succ, i64_w, i32_w]
        rfl
       refine pure_ (i := 12) (N := some 35) (v := ?_) (a' := ?_) #[true, true, true, true, true, true, true, true, true, true, true, true, true] rfl rfl (any_of HT_.out (by kernel_rfl)) (fun _ _ _ h => h) (Or.inl ⟨by rfl, ?_⟩) ?_ ?_
       rotate_left
       ·intro w'
        go_simp
        with_reducible rfl
       rotate_left
       ·simp only [Act.put, List.setIfInBounds_toArray, List.set_cons_zero, List.set_cons_succ, i64_w, i32_w]
        rfl
       refine done_ (done_of HT_.out (by kernel_rfl)) ?_
       try go_wp2
       have n0_ := Aside0.mk (Kd.V_drew HO_161001.out)
       have n1_ := Aside0.mk (Kd.N_drew HO_167001.out)
       have n2_ := Aside0.mk (Kd.N_drew HO_168001.out)
       have n3_ := Aside0.mk (blk_drew BK159.out)
       have n4_ := Aside0.mk (blk_drew BK160.out)
       have n5_ := Aside0.mk (blk_drew BK161.out)
       have n6_ := Aside0.mk (blk_drew BK166.out)
       have n7_ := Aside0.mk (blk_drew BK167.out)
       have n8_ := Aside0.mk (below_drew1 HB.out)
       clear HO_161001
       clear HO_167001
       clear HO_168001
       clear BK159
       clear BK160
       clear BK161
       clear BK166
       clear BK167
       clear HB
       have HO_161001 := n0_
       have HO_167001 := n1_
       have HO_168001 := n2_
       have BK159 := n3_
       have BK160 := n4_
       have BK161 := n5_
       have BK166 := n6_
       have BK167 := n7_
       have HB := n8_
       clear n0_ n1_ n2_ n3_ n4_ n5_ n6_ n7_ n8_
       have p169 : 0 ≤ (x8_1 : Int) := of_decide_eq_true (by first | (with_reducible assumption) | assumption)
       have q169 : x8_1 < (t163.length : Int) := of_decide_eq_true (by first | (with_reducible assumption) | assumption)
       obtain ⟨ad169, A169_1, c169_1, e169, hx169_0, hx169_1, hx169_2, hl169_1, hi169_1⟩ := at_T61 (Kd.N_reads' HO_167001.out).2.2 x8_1 p169 q169
       cases e169
       obtain ⟨ce169, hce169, hMe169, hcc169⟩ := Kd.N_get HO_167001.out z61 x8_1 p169 (by first | exact q169 | exact of_decide_eq_true (by first | (with_reducible assumption) | assumption) | (have e_ := (Kd.N_reads' HO_167001.out).1; omega))
       obtain ⟨ua169_1, uc169_1, rfl, ul169_1, ge169_1⟩ := k61_openF hMe169
       have hv169_1 := hcc169 1 _ rfl
       rw [add_field _ _ 1 (by omega)] at hv169_1
       replace hv169_1 := Option.some.inj (hv169_1.symm.trans hx169_1)
       injection hv169_1 with hva_ hvn_ hvc_
       rw [hva_] at ge169_1
       rw [hvc_] at ul169_1
       have HL169_1 := Aside0.mk (show Kd.V (Kd.int .u8) 5 _ w.heap.size _ _ ((rd_T61 t163 x8_1).f1) from Kd.V_mk ul169_1 ge169_1)
       clear hva_ hvn_ hvc_ ge169_1 ul169_1
       clear hcc169 hce169
       have HR169_1 := Aside0.mk hi169_1
       have HC169_1 := Aside0.mk hl169_1
       clear hi169_1 hl169_1
       replace p169 := eq_true p169
       replace q169 := eq_true q169
       refine start_ (n := 11) (S := fun w' => w'.cell? ⟨gb167, 0, none⟩ = some (.int .i64 a0_0) ∧ w'.cell? ⟨gb167, 1, none⟩ = some (u168001) ∧ w'.cell? ⟨gb166, 0, none⟩ = some (.int .i64 t162) ∧ w'.cell? ⟨gb166, 1, none⟩ = some (.slice (some ad169) t163.length co18) ∧ w'.cell? (ad169.add ((x8_1).toNat * 3)) = some (.string ((rd_T61 t163 x8_1).f0)) ∧ w'.cell? ⟨(ad169.add ((x8_1).toNat * 3)).block, (ad169.add ((x8_1).toNat * 3)).off + 1, none⟩ = some (.slice A169_1 ((rd_T61 t163 x8_1).f1).length c169_1) ∧ w'.cell? ⟨(ad169.add ((x8_1).toNat * 3)).block, (ad169.add ((x8_1).toNat * 3)).off + 2, none⟩ = some (.int .i64 ((rd_T61 t163 x8_1).f2))) (ds := [8, 10]) #[false, false, false, false, false, false, false, false, false, false, false] (by kernel_rfl) rfl rfl ⟨(blk_cell BK167.out 0).trans rfl, (blk_cell BK167.out 1).trans rfl, (blk_cell BK166.out 0).trans rfl, (blk_cell BK166.out 1).trans rfl, hx169_0, hx169_1, hx169_2⟩ (fun hHeld => ?_); refine with_tabW dragnetref16_with.tab10 dragnetref16_with.bits10 (fun HT_ HW_ => ?_)
       generalize w35.drew = w36 at HO_161001 HO_167001 HO_168001 BK159 BK160 BK161 BK166 BK167 HB HL169_1 HR169_1 hx169_0 hx169_1 hx169_2 hHeld ⊢
       refine pure_ (i := 0) (N := some 42) (v := ?_) (a' := ?_) #[true, false, false, false, false, false, false, false, false, false, false] rfl rfl (any_of HT_.out (by kernel_rfl)) (fun _ _ _ h => h) (Or.inl ⟨by rfl, ?_⟩) ?_ ?_
       rotate_left
       ·intro w'
        go_simp
        with_reducible rfl
       rotate_left
       ·simp only [Act.put, List.setIfInBounds_toArray, List.set_cons_zero, List.set_cons_succ, i64_w, i32_w]
        rfl
       refine pure_ (i := 2) (N := some 44) (v := ?_) (a' := ?_) #[true, false, true, false, false, false, false, false, false, false, false] rfl rfl (any_of HT_.out (by kernel_rfl)) (fun _ _ _ h => h) (Or.inl ⟨by rfl, ?_⟩) ?_ ?_
       rotate_left
       ·intro w'
        go_simp
        with_reducible rfl
       rotate_left
       ·simp only [Act.put, List.setIfInBounds_toArray, List.set_cons_zero, List.set_cons_succ, i64_w, i32_w]
        rfl
       refine pure_ (i := 4) (N := some 46) (v := ?_) (a' := ?_) #[true, false, true, false, true, false, false, false, false, false, false] rfl rfl (any_of HT_.out (by kernel_rfl)) (fun _ _ _ h => h) (Or.inl ⟨by rfl, ?_⟩) ?_ ?_
       rotate_left
       ·intro w'
        go_simp
        with_reducible rfl
       rotate_left
       ·simp only [Act.put, List.setIfInBounds_toArray, List.set_cons_zero, List.set_cons_succ, i64_w, i32_w]
        rfl
       refine take_ (i := 1) (N := some 43) (v := ?_) (a' := ?_) #[true, true, true, false, true, false, false, false, false, false, false] rfl rfl (take_ofW HT_.out HW_.out (by kernel_rfl)) (fun _ _ _ h => h) (Or.inl ⟨by rfl, ?_⟩) hHeld ?_ ?_
       rotate_left
       ·rintro w' ⟨s0, s1, s2, s3, s4, s5, s6⟩
        go_simp
        with_reducible rfl
       rotate_left
       ·simp only [Act.put, List.setIfInBounds_toArray, List.set_cons_zero, List.set_cons_succ, i64_w, i32_w]
        rfl
       refine take_ (i := 3) (N := some 45) (v := ?_) (a' := ?_) #[true, true, true, true, true, false, false, false, false, false, false] rfl rfl (take_ofW HT_.out HW_.out (by kernel_rfl)) (fun _ _ _ h => h) (Or.inl ⟨by rfl, ?_⟩) hHeld ?_ ?_
       rotate_left
       ·rintro w' ⟨s0, s1, s2, s3, s4, s5, s6⟩
        go_simp
        with_reducible rfl
       rotate_left
       ·simp only [Act.put, List.setIfInBounds_toArray, List.set_cons_zero, List.set_cons_succ, i64_w, i32_w]
        rfl
       refine pure_ (i := 5) (N := some 47) (v := ?_) (a' := ?_) #[true, true, true, true, true, true, false, false, false, false, false] rfl rfl (any_of HT_.out (by kernel_rfl)) (fun _ _ _ h => h) (Or.inl ⟨by rfl, ?_⟩) ?_ ?_
       rotate_left
       ·intro w'
        go_simp
        with_reducible rfl
       rotate_left
       ·simp only [Act.put, List.setIfInBounds_toArray, List.set_cons_zero, List.set_cons_succ, i64_w, i32_w]
        rfl
       refine take_ (i := 6) (N := some 48) (v := ?_) (a' := ?_) #[true, true, true, true, true, true, true, false, false, false, false] rfl rfl (take_ofW HT_.out HW_.out (by kernel_rfl)) (fun _ _ _ h => h) (Or.inl ⟨by rfl, ?_⟩) hHeld ?_ ?_
       rotate_left
       ·rintro w' ⟨s0, s1, s2, s3, s4, s5, s6⟩
        go_simp
        with_reducible rfl
       rotate_left
       ·simp only [Act.put, List.setIfInBounds_toArray, List.set_cons_zero, List.set_cons_succ, i64_w, i32_w]
        rfl
       refine one_ (i := 7) (N := some 49) #[true, true, true, true, true, true, true, true, false, false, false] rfl rfl (one_of HT_.out (by kernel_rfl)) (by decide) (fun K hK => ?_)
       refine value_ (w1 := ?_) (v := ?_) (by rfl) rfl ?_ ?_
       rotate_left 2
       ·go_simp
        constructor
        ·rfl
        ·rfl
       refine hK.out _ _ ⟨(blk_cell (blk_alloc BK167.out _) 0).trans rfl, (blk_cell (blk_alloc BK167.out _) 1).trans rfl, (blk_cell (blk_alloc BK166.out _) 0).trans rfl, (blk_cell (blk_alloc BK166.out _) 1).trans rfl, (World.cell?_alloc_lt _ _ _ (World.block_lt_of_cell? _ _ (hHeld.2.2.2.2.1))).trans (hHeld.2.2.2.2.1), (World.cell?_alloc_lt _ _ _ (World.block_lt_of_cell? _ _ (hHeld.2.2.2.2.2.1))).trans (hHeld.2.2.2.2.2.1), (World.cell?_alloc_lt _ _ _ (World.block_lt_of_cell? _ _ (hHeld.2.2.2.2.2.2))).trans (hHeld.2.2.2.2.2.2)⟩ (fun hHeld => ?_)
       clear hK K
       refine norm_ (a' := ?_) ?_ ?_
       rotate_left
       ·show Act.put _ (some 49) _ = _
        simp only [Act.put, List.setIfInBounds_toArray, List.set_cons_zero, List.set_cons_succ, i64_w, i32_w]
        rfl
       refine last_ (i := 8) (N := some 50) #[true, true, true, true, true, true, true, true, true, false, false] rfl rfl (one_of HT_.out (by kernel_rfl)) (by decide) (fun K hK => ?_)
       refine Kd.N_append_step k61 (w0 := w) w.heap.size (by rfl) (.tmp 43) (.tmp 49) 22 61 (.agg #[(.string ⟨#[]⟩), (.slice none 0 0), (.int .i64 0)]) 48 rfl Try.underlying22 info61 rfl (by decide) (by omega) u168001 x168001_1 (⟨(rd_T61 t163 x8_1).f0, (rd_T61 t163 x8_1).f1, (rd_T61 t163 x8_1).f2⟩ : S61) [.string ((rd_T61 t163 x8_1).f0), .slice A169_1 ((rd_T61 t163 x8_1).f1).length c169_1, .int .i64 ((rd_T61 t163 x8_1).f2)] (fun k_ => (P1_1_ k_ ∨ w.heap.size ≤ k_) ∧ some k_ ≠ (.slice (some ad169) t163.length co18 : Value).ownBlock ∧ k_ ≠ gb159 ∧ k_ ≠ gb160 ∧ k_ ≠ gb161 ∧ k_ ≠ gb166 ∧ k_ ≠ gb167) (fun k_ => ((fun k_ => (P1_1_ k_ ∨ w.heap.size ≤ k_) ∧ some k_ ≠ (.slice (some ad169) t163.length co18 : Value).ownBlock ∧ k_ ≠ gb159 ∧ k_ ≠ gb160 ∧ k_ ≠ gb161 ∧ k_ ≠ gb166 ∧ k_ ≠ gb167)) k_ ∧ some k_ ≠ (u168001 : Value).ownBlock) rfl rfl ?aP (fun _ hk => hk) ?aF ?aO ?aB ?aS ?aL ?_
       (case aP => exact (k61_mkF _ _ (⟨(rd_T61 t163 x8_1).f0, (rd_T61 t163 x8_1).f1, (rd_T61 t163 x8_1).f2⟩ : S61) (Kd.V_reads' (Kd.V_mono (ok' := (fun k_ => ((fun k_ => (P1_1_ k_ ∨ w.heap.size ≤ k_) ∧ some k_ ≠ (.slice (some ad169) t163.length co18 : Value).ownBlock ∧ k_ ≠ gb159 ∧ k_ ≠ gb160 ∧ k_ ≠ gb161 ∧ k_ ≠ gb166 ∧ k_ ≠ gb167)) k_ ∧ some k_ ≠ (u168001 : Value).ownBlock)) (HL169_1.out) (fun k_ hk => ⟨⟨hk.1.1, ⟨hk.2, ⟨hk.1.2.2.1, ⟨hk.1.2.2.2.1, ⟨hk.1.2.2.2.2.1, ⟨hk.1.2.2.2.2.2.1, hk.1.2.2.2.2.2.2⟩⟩⟩⟩⟩⟩, hk.1.2.1⟩))).2.1 (Kd.V_F (Kd.V_mono (ok' := (fun k_ => ((fun k_ => (P1_1_ k_ ∨ w.heap.size ≤ k_) ∧ some k_ ≠ (.slice (some ad169) t163.length co18 : Value).ownBlock ∧ k_ ≠ gb159 ∧ k_ ≠ gb160 ∧ k_ ≠ gb161 ∧ k_ ≠ gb166 ∧ k_ ≠ gb167)) k_ ∧ some k_ ≠ (u168001 : Value).ownBlock)) (HL169_1.out) (fun k_ hk => ⟨⟨hk.1.1, ⟨hk.2, ⟨hk.1.2.2.1, ⟨hk.1.2.2.2.1, ⟨hk.1.2.2.2.2.1, ⟨hk.1.2.2.2.2.2.1, hk.1.2.2.2.2.2.2⟩⟩⟩⟩⟩⟩, hk.1.2.1⟩)))))
       (case aB => exact (by repeat (first | (with_reducible first | exact HB.out | apply below_alloc | apply pw_below_drewN | apply below_drew1 | refine below_set ?_ GE159.out | refine below_set ?_ GE160.out | refine below_set ?_ GE161.out | refine below_set ?_ GE166.out | refine below_set ?_ GE167.out) | exact HB.out)))
       (case aF => exact (fun k_ hk => ⟨(.inr (Nat.le_trans (below_size (by repeat (first | (with_reducible first | exact HB.out | apply below_alloc | apply pw_below_drewN | apply below_drew1 | refine below_set ?_ GE159.out | refine below_set ?_ GE160.out | refine below_set ?_ GE161.out | refine below_set ?_ GE166.out | refine below_set ?_ GE167.out) | exact HB.out))) hk)), Kd.fresh' (Kd.N_lt (by (with_reducible repeat (first | apply Kd.N_alloc | apply Kd.N_drewN | apply Kd.N_drew)); exact HO_167001.out)) k_ hk, Kd.freshB (g := gb159) (o := .cells #[.int .i64 a0_0, .slice A0_1 l0_1.length c0_1] 24 (0, 0)) (by (with_reducible repeat (first | refine blk_drewN ?_ _ | refine blk_drew ?_ | refine blk_alloc ?_ _)); exact BK159.out) k_ hk, Kd.freshB (g := gb160) (o := .cells #[.string a1_0, .slice A1_1 l1_1.length c1_1, .int .i64 a1_2] 61 (0, 0)) (by (with_reducible repeat (first | refine blk_drewN ?_ _ | refine blk_drew ?_ | refine blk_alloc ?_ _)); exact BK160.out) k_ hk, Kd.freshB (g := gb161) (o := .cells #[.int .i64 0, .slice none 0 0] 24 (0, 0)) (by (with_reducible repeat (first | refine blk_drewN ?_ _ | refine blk_drew ?_ | refine blk_alloc ?_ _)); exact BK161.out) k_ hk, Kd.freshB (g := gb166) (o := .cells #[.int .i64 t162, .slice (some ad169) t163.length co18] 24 (0, 0)) (by (with_reducible repeat (first | refine blk_drewN ?_ _ | refine blk_drew ?_ | refine blk_alloc ?_ _)); exact BK166.out) k_ hk, Kd.freshB (g := gb167) (o := .cells #[.int .i64 a0_0, u168001] 24 (0, 0)) (by (with_reducible repeat (first | refine blk_drewN ?_ _ | refine blk_drew ?_ | refine blk_alloc ?_ _)); exact BK167.out) k_ hk⟩))
       (case aO => exact (by (with_reducible repeat (first | apply Kd.N_alloc | apply Kd.N_drewN | apply Kd.N_drew)); exact HO_168001.out))
       (case aS => exact (below_size (by repeat (first | (with_reducible first | exact HB.out | apply below_alloc | apply pw_below_drewN | apply below_drew1 | refine below_set ?_ GE159.out | refine below_set ?_ GE160.out | refine below_set ?_ GE161.out | refine below_set ?_ GE166.out | refine below_set ?_ GE167.out) | exact HB.out))))
       (case aL => have := LMc29.out; omega)
       intro v171 w37 ho hb hg hat
       rw [← Ny170.out] at ho
       have n0_ := Aside0.mk (Kd.V_afterv (ok := (fun k_ => (P1_1_ k_ ∨ w.heap.size ≤ k_) ∧ some k_ ≠ (.slice (some ad169) t163.length co18 : Value).ownBlock ∧ k_ ≠ gb159 ∧ k_ ≠ gb160 ∧ k_ ≠ gb161 ∧ k_ ≠ gb166 ∧ k_ ≠ gb167)) (by (with_reducible repeat (first | apply Kd.V_alloc | apply Kd.V_drewN | apply Kd.V_drew)); exact Kd.V_mono HO_161001.out (fun _ hk => ⟨⟨hk.1, ⟨hk.2.1, ⟨hk.2.2.2.1, ⟨hk.2.2.2.2.1, ⟨hk.2.2.2.2.2.1, ⟨hk.2.2.2.2.2.2.1, hk.2.2.2.2.2.2.2⟩⟩⟩⟩⟩⟩, hk.2.2.1⟩)) hg hat)
       have n1_ := Aside0.mk (Kd.N_afterv (ok := (fun k_ => (P1_1_ k_ ∨ w.heap.size ≤ k_) ∧ k_ ≠ gb159 ∧ k_ ≠ gb160 ∧ k_ ≠ gb161 ∧ k_ ≠ gb166 ∧ k_ ≠ gb167)) (by (with_reducible repeat (first | apply Kd.N_alloc | apply Kd.N_drewN | apply Kd.N_drew)); exact Kd.N_mono HO_167001.out (fun _ hk => ⟨⟨hk.1, ⟨hk.2.2.1, ⟨hk.2.2.2.1, ⟨hk.2.2.2.2.1, ⟨hk.2.2.2.2.2.1, hk.2.2.2.2.2.2⟩⟩⟩⟩⟩, hk.2.1⟩)) hg hat)
       have n2_ := Aside0.mk (blk_grown (g := gb159) (o := .cells #[.int .i64 a0_0, .slice A0_1 l0_1.length c0_1] 24 (0, 0)) (by (with_reducible repeat (first | refine blk_drewN ?_ _ | refine blk_drew ?_ | refine blk_alloc ?_ _)); exact BK159.out) hg (Kd.N_ne HO_168001.out BK159.out (by decide)))
       have n3_ := Aside0.mk (blk_grown (g := gb160) (o := .cells #[.string a1_0, .slice A1_1 l1_1.length c1_1, .int .i64 a1_2] 61 (0, 0)) (by (with_reducible repeat (first | refine blk_drewN ?_ _ | refine blk_drew ?_ | refine blk_alloc ?_ _)); exact BK160.out) hg (Kd.N_away HO_168001.out (fun _ hk => hk.2.2.2.1)))
       have n4_ := Aside0.mk (blk_grown (g := gb161) (o := .cells #[.int .i64 0, .slice none 0 0] 24 (0, 0)) (by (with_reducible repeat (first | refine blk_drewN ?_ _ | refine blk_drew ?_ | refine blk_alloc ?_ _)); exact BK161.out) hg (Kd.N_ne HO_168001.out BK161.out (by decide)))
       have n5_ := Aside0.mk (blk_grown (g := gb166) (o := .cells #[.int .i64 t162, .slice (some ad169) t163.length co18] 24 (0, 0)) (by (with_reducible repeat (first | refine blk_drewN ?_ _ | refine blk_drew ?_ | refine blk_alloc ?_ _)); exact BK166.out) hg (Kd.N_ne HO_168001.out BK166.out (by decide)))
       have n6_ := Aside0.mk (blk_grown (g := gb167) (o := .cells #[.int .i64 a0_0, u168001] 24 (0, 0)) (by (with_reducible repeat (first | refine blk_drewN ?_ _ | refine blk_drew ?_ | refine blk_alloc ?_ _)); exact BK167.out) hg (Kd.N_ne HO_168001.out BK167.out (by decide)))
       have n7_ := Aside0.mk (Kd.V_afterv (ok := (fun k_ => (P1_1_ k_ ∨ w.heap.size ≤ k_) ∧ some k_ ≠ (.slice (some ad169) t163.length co18 : Value).ownBlock ∧ k_ ≠ gb159 ∧ k_ ≠ gb160 ∧ k_ ≠ gb161 ∧ k_ ≠ gb166 ∧ k_ ≠ gb167)) (by (with_reducible repeat (first | apply Kd.V_alloc | apply Kd.V_drewN | apply Kd.V_drew)); exact Kd.V_mono HL169_1.out (fun _ hk => ⟨⟨hk.1.1, ⟨hk.2, ⟨hk.1.2.2.1, ⟨hk.1.2.2.2.1, ⟨hk.1.2.2.2.2.1, ⟨hk.1.2.2.2.2.2.1, hk.1.2.2.2.2.2.2⟩⟩⟩⟩⟩⟩, hk.1.2.1⟩)) hg hat)
       have n8_ := Aside0.mk (hb)
       have n9_ := Aside0.mk (ho)
       clear HO_161001
       clear HO_167001
       clear BK159
       clear BK160
       clear BK161
       clear BK166
       clear BK167
       clear HL169_1
       clear HB
       clear HO_168001
       have HO_161001 := n0_
       have HO_167001 := n1_
       have BK159 := n2_
       have BK160 := n3_
       have BK161 := n4_
       have BK166 := n5_
       have BK167 := n6_
       have HL169_1 := n7_
       have HB := n8_
       have HO172 := n9_
       clear n0_ n1_ n2_ n3_ n4_ n5_ n6_ n7_ n8_ n9_
       clear ho hb hg hat
       obtain ⟨Ao38, co38, eo38⟩ := Kd.N_slice HO172.out
       (first | subst eo38 | (injection eo38 with f1_ f2_ f3_; have f4_ := f1_.symm; have f5_ := f3_.symm; clear f1_ f2_ f3_; subst f4_; subst f5_))
       refine hK.out _ _ ?_
       clear hK K
       refine norm_ (a' := ?_) ?_ ?_
       rotate_left
       ·show Act.put _ (some 50) _ = _
        simp only [Act.put, List.setIfInBounds_toArray, List.set_cons_zero, List.set_cons_succ, i64_w, i32_w]
        rfl
       refine pure_ (i := 9) (N := some 51) (v := ?_) (a' := ?_) #[true, true, true, true, true, true, true, true, true, true, false] rfl rfl (any_of HT_.out (by kernel_rfl)) (fun _ _ _ h => h) (Or.inl ⟨by rfl, ?_⟩) ?_ ?_
       rotate_left
       ·intro w'
        go_simp
        with_reducible rfl
       rotate_left
       ·simp only [Act.put, List.setIfInBounds_toArray, List.set_cons_zero, List.set_cons_succ, i64_w, i32_w]
        rfl
       refine last_ (i := 10) (N := none) #[true, true, true, true, true, true, true, true, true, true, true] rfl rfl (one_of HT_.out (by kernel_rfl)) (by decide) (fun K hK => ?_)
       have hs39 : w37.cell? ⟨gb167, 1, none⟩ = some (u168001) := (blk_cell BK167.out 1).trans rfl
       have hfs39 := blk_frozen BK167.out 1
       have hns39_0 := NB159_167.out
       have hns39_1 := NB160_167.out
       have hns39_2 := NB161_167.out
       have hns39_3 := NB166_167.out
       have hms39_0 := NB167_159.out
       have hms39_1 := NB167_160.out
       have hms39_2 := NB167_161.out
       have hms39_3 := NB167_166.out
       refine skip_ (w1 := ?_) (by rfl) rfl ?_ ?_
       rotate_left
       ·go_simp
        rfl
       refine hK.out _ _ ?_
       clear hK K
       refine done_ (done_of HT_.out (by kernel_rfl)) ?_
       try go_wp2
       go_roundg k1
       case measure => have := HK1.out; omega
       case rel => exact ⟨(true), (wrap64 (x8_1 + 1)), (y170), (.slice Ao38 y170.length co38), (by first | rfl | (simp; done) | (simp [*]; done)), (by first | rfl | (simp; done) | (simp [*]; done)), H', ⟨by have := HK1.out; omega⟩, ⟨by (with_reducible repeat (first | apply Kd.V_alloc | apply Kd.V_drewN | apply Kd.V_drew)); exact Kd.V_mono (Kd.V_far (p := ⟨gb167, 1, none⟩) (Kd.V_mono HO_161001.out (fun k_ hk => (⟨hk, hk.1.2.2.2.2.2.2⟩ : _ ∧ k_ ≠ gb167))) (fun _ hk => hk.2) (.slice Ao38 y170.length co38)) (fun _ hk => ⟨hk.1.1.1, ⟨hk.1.1.2.1, ⟨hk.1.2, ⟨hk.1.1.2.2.1, ⟨hk.1.1.2.2.2.1, ⟨hk.1.1.2.2.2.2.1, ⟨hk.1.1.2.2.2.2.2.1, hk.1.1.2.2.2.2.2.2⟩⟩⟩⟩⟩⟩⟩)⟩, ⟨by (with_reducible repeat (first | apply Kd.N_alloc | apply Kd.N_drewN | apply Kd.N_drew)); exact Kd.N_mono (Kd.N_far (p := ⟨gb167, 1, none⟩) (Kd.N_mono HO_167001.out (fun k_ hk => (⟨hk, hk.1.2.2.2.2.2⟩ : _ ∧ k_ ≠ gb167))) (fun _ hk => hk.2) (.slice Ao38 y170.length co38)) (fun _ hk => ⟨hk.1.1.1, ⟨hk.1.2, ⟨hk.1.1.2.1, ⟨hk.1.1.2.2.1, ⟨hk.1.1.2.2.2.1, ⟨hk.1.1.2.2.2.2.1, hk.1.1.2.2.2.2.2⟩⟩⟩⟩⟩⟩)⟩, ⟨by (with_reducible repeat (first | apply Kd.N_alloc | apply Kd.N_drewN | apply Kd.N_drew)); exact Kd.N_mono (Kd.N_far (p := ⟨gb167, 1, none⟩) (Kd.N_mono HO172.out (fun k_ hk => (⟨hk, hk.2.2.2.2.2.2⟩ : _ ∧ k_ ≠ gb167))) (fun _ hk => hk.2) (.slice Ao38 y170.length co38)) (fun _ hk => ⟨hk.1.1, ⟨hk.1.2.1, ⟨hk.1.2.2.1, ⟨hk.1.2.2.2.1, ⟨hk.1.2.2.2.2.1, ⟨hk.1.2.2.2.2.2.1, hk.1.2.2.2.2.2.2⟩⟩⟩⟩⟩⟩)⟩, ⟨by (with_reducible repeat (first | refine blk_drewN ?_ _ | refine blk_drew ?_ | refine blk_alloc ?_ _)); refine blk_far ?_ NB159_167.out _; (with_reducible repeat (first | refine blk_drewN ?_ _ | refine blk_drew ?_ | refine blk_alloc ?_ _)); exact BK159.out⟩, ⟨by (with_reducible repeat (first | refine blk_drewN ?_ _ | refine blk_drew ?_ | refine blk_alloc ?_ _)); refine blk_far ?_ NB160_167.out _; (with_reducible repeat (first | refine blk_drewN ?_ _ | refine blk_drew ?_ | refine blk_alloc ?_ _)); exact BK160.out⟩, ⟨by (with_reducible repeat (first | refine blk_drewN ?_ _ | refine blk_drew ?_ | refine blk_alloc ?_ _)); refine blk_far ?_ NB161_167.out _; (with_reducible repeat (first | refine blk_drewN ?_ _ | refine blk_drew ?_ | refine blk_alloc ?_ _)); exact BK161.out⟩, ⟨by (with_reducible repeat (first | refine blk_drewN ?_ _ | refine blk_drew ?_ | refine blk_alloc ?_ _)); refine blk_far ?_ NB166_167.out _; (with_reducible repeat (first | refine blk_drewN ?_ _ | refine blk_drew ?_ | refine blk_alloc ?_ _)); exact BK166.out⟩, ⟨by (with_reducible repeat (first | refine blk_drewN ?_ _ | refine blk_drew ?_ | refine blk_alloc ?_ _)); refine blk_put (cs := #[.int .i64 a0_0, u168001]) ?_ 1 _ rfl; (with_reducible repeat (first | refine blk_drewN ?_ _ | refine blk_drew ?_ | refine blk_alloc ?_ _)); exact BK167.out⟩, ⟨by repeat (first | (with_reducible first | exact HB.out | apply below_alloc | apply pw_below_drewN | apply below_drew1 | refine below_set ?_ GE159.out | refine below_set ?_ GE160.out | refine below_set ?_ GE161.out | refine below_set ?_ GE166.out | refine below_set ?_ GE167.out) | exact HB.out)⟩⟩
      ·rw [if_neg c29] at H
       exact absurd H (by simp)
     ·rw [if_neg c28] at H
      exact absurd H (by simp)
    ·replace c27 := Bool.eq_false_iff.mpr c27
     subst c27
     have H1 : (if 0 ≤ x8_1 then (if (Op.bytesLess a1_0.toList (((rd_T61 t163 x8_1).f0).toList)) = true then (if x168001_1.length < 2932031007402 then ((some (x168001_1 ++ [(⟨a1_0, l1_1, a1_2⟩ : S61)] : List (S61))).bind fun y173 => (if y173.length < 2932031007402 then (dragnetref16_with.l0 k1 true (wrap64 (x8_1 + 1)) a1_0 l1_1 a1_2 t162 t163 a0_0 (y173 ++ [(⟨(rd_T61 t163 x8_1).f0, (rd_T61 t163 x8_1).f1, (rd_T61 t163 x8_1).f2⟩ : S61)])) else (none))) else (none)) else (if x168001_1.length < 2932031007402 then (dragnetref16_with.l0 k1 false (wrap64 (x8_1 + 1)) a1_0 l1_1 a1_2 t162 t163 a0_0 (x168001_1 ++ [(⟨(rd_T61 t163 x8_1).f0, (rd_T61 t163 x8_1).f1, (rd_T61 t163 x8_1).f2⟩ : S61)])) else (none))) else (none)) = some (r1, r2) := by rw [if_neg (show ¬ (false = true) by decide)] at H; exact H
     clear H
     have H := H1
     clear H1
     by_cases c40 : 0 ≤ x8_1
     ·rw [if_pos c40] at H
      have c40b0 : decide (0 ≤ x8_1) = true := decide_eq_true c40
      clear c40
      by_cases c41 : (Op.bytesLess a1_0.toList (((rd_T61 t163 x8_1).f0).toList)) = true
      ·rw [if_pos c41] at H
       have c41b0 : (Op.bytesLess a1_0.toList (((rd_T61 t163 x8_1).f0).toList)) = true := c41
       clear c41
       by_cases c42 : x168001_1.length < 2932031007402
       ·rw [if_pos c42] at H
        have LMc42 := Aside0.mk c42
        clear c42
        obtain ⟨y173, hy173⟩ : ∃ y_ : List (S61), y_ = (x168001_1 ++ [(⟨a1_0, l1_1, a1_2⟩ : S61)]) := ⟨_, rfl⟩
        replace H : (if y173.length < 2932031007402 then (dragnetref16_with.l0 k1 true (wrap64 (x8_1 + 1)) a1_0 l1_1 a1_2 t162 t163 a0_0 (y173 ++ [(⟨(rd_T61 t163 x8_1).f0, (rd_T61 t163 x8_1).f1, (rd_T61 t163 x8_1).f2⟩ : S61)])) else (none)) = some (r1, r2) := by first | (rw [hy173]; with_reducible exact H) | (have H2_ := (Option.bind_some _ _).symm.trans H; rw [hy173]; with_reducible exact H2_) | (have H2_ := (Option.bind_some _ _).symm.trans H; with_reducible exact H2_) | with_reducible exact H | (rw [hy173]; exact H) | exact H
        have Ny173 := Aside0.mk hy173
        clear hy173
        by_cases c43 : y173.length < 2932031007402
        ·rw [if_pos c43] at H
         have LMc43 := Aside0.mk c43
         clear c43
         obtain ⟨y177, hy177⟩ : ∃ y_ : List (S61), y_ = (y173 ++ [(⟨(rd_T61 t163 x8_1).f0, (rd_T61 t163 x8_1).f1, (rd_T61 t163 x8_1).f2⟩ : S61)]) := ⟨_, rfl⟩
         replace H : (dragnetref16_with.l0 k1 true (wrap64 (x8_1 + 1)) a1_0 l1_1 a1_2 t162 t163 a0_0 y177) = some (r1, r2) := by first | (rw [hy177]; with_reducible exact H) | (have H2_ := (Option.bind_some _ _).symm.trans H; rw [hy177]; with_reducible exact H2_) | (have H2_ := (Option.bind_some _ _).symm.trans H; with_reducible exact H2_) | with_reducible exact H | (rw [hy177]; exact H) | exact H
         have Ny177 := Aside0.mk hy177
         clear hy177
         have H' := Aside0.mk H
         clear H
         have hnb44 := NB166_159.out
         have hnc44 := NB159_166.out
         have hnb45 := NB166_160.out
         have hnc45 := NB160_166.out
         have hnb46 := NB166_161.out
         have hnc46 := NB161_166.out
         have hnb47 := NB166_167.out
         have hnc47 := NB167_166.out
         have hcz48_0 : wr.cell? ⟨gb166, 0, none⟩ = some (.int .i64 t162) := (blk_cell BK166.out 0).trans rfl
         have hcz48_1 : wr.cell? ⟨gb166, 1, none⟩ = some (.slice Ao18 t163.length co18) := (blk_cell BK166.out 1).trans rfl
         have hfz48_0 := blk_frozen BK166.out 0
         have hfz48_1 := blk_frozen BK166.out 1
         try go_wp2
         have n0_ := Aside0.mk (Kd.V_drew HO_161001.out)
         have n1_ := Aside0.mk (Kd.N_drew HO_167001.out)
         have n2_ := Aside0.mk (Kd.N_drew HO_168001.out)
         have n3_ := Aside0.mk (blk_drew BK159.out)
         have n4_ := Aside0.mk (blk_drew BK160.out)
         have n5_ := Aside0.mk (blk_drew BK161.out)
         have n6_ := Aside0.mk (blk_drew BK166.out)
         have n7_ := Aside0.mk (blk_drew BK167.out)
         have n8_ := Aside0.mk (below_drew1 HB.out)
         clear HO_161001
         clear HO_167001
         clear HO_168001
         clear BK159
         clear BK160
         clear BK161
         clear BK166
         clear BK167
         clear HB
         have HO_161001 := n0_
         have HO_167001 := n1_
         have HO_168001 := n2_
         have BK159 := n3_
         have BK160 := n4_
         have BK161 := n5_
         have BK166 := n6_
         have BK167 := n7_
         have HB := n8_
         clear n0_ n1_ n2_ n3_ n4_ n5_ n6_ n7_ n8_
         have p168 : 0 ≤ (x8_1 : Int) := of_decide_eq_true (by first | (with_reducible assumption) | assumption)
         have q168 : x8_1 < (t163.length : Int) := of_decide_eq_true (by first | (with_reducible assumption) | assumption)
         obtain ⟨ad168, A168_1, c168_1, e168, hx168_0, hx168_1, hx168_2, hl168_1, hi168_1⟩ := at_T61 (Kd.N_reads' HO_167001.out).2.2 x8_1 p168 q168
         cases e168
         obtain ⟨ce168, hce168, hMe168, hcc168⟩ := Kd.N_get HO_167001.out z61 x8_1 p168 (by first | exact q168 | exact of_decide_eq_true (by first | (with_reducible assumption) | assumption) | (have e_ := (Kd.N_reads' HO_167001.out).1; omega))
         obtain ⟨ua168_1, uc168_1, rfl, ul168_1, ge168_1⟩ := k61_openF hMe168
         have hv168_1 := hcc168 1 _ rfl
         rw [add_field _ _ 1 (by omega)] at hv168_1
         replace hv168_1 := Option.some.inj (hv168_1.symm.trans hx168_1)
         injection hv168_1 with hva_ hvn_ hvc_
         rw [hva_] at ge168_1
         rw [hvc_] at ul168_1
         have HL168_1 := Aside0.mk (show Kd.V (Kd.int .u8) 5 _ w.heap.size _ _ ((rd_T61 t163 x8_1).f1) from Kd.V_mk ul168_1 ge168_1)
         clear hva_ hvn_ hvc_ ge168_1 ul168_1
         clear hcc168 hce168
         have HR168_1 := Aside0.mk hi168_1
         have HC168_1 := Aside0.mk hl168_1
         clear hi168_1 hl168_1
         replace p168 := eq_true p168
         replace q168 := eq_true q168
         refine start_ (n := 13) (S := fun w' => w'.cell? ⟨gb166, 0, none⟩ = some (.int .i64 t162) ∧ w'.cell? ⟨gb166, 1, none⟩ = some (.slice (some ad168) t163.length co18) ∧ w'.cell? ⟨gb160, 0, none⟩ = some (.string a1_0) ∧ w'.cell? ⟨gb160, 1, none⟩ = some (.slice A1_1 l1_1.length c1_1) ∧ w'.cell? ⟨gb160, 2, none⟩ = some (.int .i64 a1_2) ∧ w'.cell? (ad168.add ((x8_1).toNat * 3)) = some (.string ((rd_T61 t163 x8_1).f0)) ∧ w'.cell? ⟨(ad168.add ((x8_1).toNat * 3)).block, (ad168.add ((x8_1).toNat * 3)).off + 1, none⟩ = some (.slice A168_1 ((rd_T61 t163 x8_1).f1).length c168_1) ∧ w'.cell? ⟨(ad168.add ((x8_1).toNat * 3)).block, (ad168.add ((x8_1).toNat * 3)).off + 2, none⟩ = some (.int .i64 ((rd_T61 t163 x8_1).f2))) (ds := []) #[false, false, false, false, false, false, false, false, false, false, false, false, false] (by kernel_rfl) rfl rfl ⟨(blk_cell BK166.out 0).trans rfl, (blk_cell BK166.out 1).trans rfl, (blk_cell BK160.out 0).trans rfl, (blk_cell BK160.out 1).trans rfl, (blk_cell BK160.out 2).trans rfl, hx168_0, hx168_1, hx168_2⟩ (fun hHeld => ?_); refine with_tabW dragnetref16_with.tab7 dragnetref16_with.bits7 (fun HT_ HW_ => ?_)
         generalize wr.drew = w49 at HO_161001 HO_167001 HO_168001 BK159 BK160 BK161 BK166 BK167 HB HL168_1 HR168_1 hx168_0 hx168_1 hx168_2 hHeld ⊢
         refine pure_ (i := 0) (N := some 23) (v := ?_) (a' := ?_) #[true, false, false, false, false, false, false, false, false, false, false, false, false] rfl rfl (any_of HT_.out (by kernel_rfl)) (fun _ _ _ h => h) (Or.inl ⟨by rfl, ?_⟩) ?_ ?_
         rotate_left
         ·intro w'
          go_simp
          with_reducible rfl
         rotate_left
         ·simp only [Act.put, List.setIfInBounds_toArray, List.set_cons_zero, List.set_cons_succ, i64_w, i32_w]
          rfl
         refine pure_ (i := 1) (N := some 24) (v := ?_) (a' := ?_) #[true, true, false, false, false, false, false, false, false, false, false, false, false] rfl rfl (any_of HT_.out (by kernel_rfl)) (fun _ _ _ h => h) (Or.inl ⟨by rfl, ?_⟩) ?_ ?_
         rotate_left
         ·intro w'
          go_simp
          with_reducible rfl
         rotate_left
         ·simp only [Act.put, List.setIfInBounds_toArray, List.set_cons_zero, List.set_cons_succ, i64_w, i32_w]
          rfl
         refine pure_ (i := 2) (N := some 25) (v := ?_) (a' := ?_) #[true, true, true, false, false, false, false, false, false, false, false, false, false] rfl rfl (any_of HT_.out (by kernel_rfl)) (fun _ _ _ h => h) (Or.inl ⟨by rfl, ?_⟩) ?_ ?_
         rotate_left
         ·intro w'
          go_simp
          with_reducible rfl
         rotate_left
         ·simp only [Act.put, List.setIfInBounds_toArray, List.set_cons_zero, List.set_cons_succ, i64_w, i32_w]
          rfl
         refine pure_ (i := 3) (N := some 26) (v := ?_) (a' := ?_) #[true, true, true, true, false, false, false, false, false, false, false, false, false] rfl rfl (any_of HT_.out (by kernel_rfl)) (fun _ _ _ h => h) (Or.inl ⟨by rfl, ?_⟩) ?_ ?_
         rotate_left
         ·intro w'
          go_simp
          with_reducible rfl
         rotate_left
         ·simp only [Act.put, List.setIfInBounds_toArray, List.set_cons_zero, List.set_cons_succ, i64_w, i32_w]
          rfl
         refine pure_ (i := 5) (N := some 28) (v := ?_) (a' := ?_) #[true, true, true, true, false, true, false, false, false, false, false, false, false] rfl rfl (any_of HT_.out (by kernel_rfl)) (fun _ _ _ h => h) (Or.inl ⟨by rfl, ?_⟩) ?_ ?_
         rotate_left
         ·intro w'
          go_simp
          with_reducible rfl
         rotate_left
         ·simp only [Act.put, List.setIfInBounds_toArray, List.set_cons_zero, List.set_cons_succ, i64_w, i32_w]
          rfl
         refine pure_ (i := 9) (N := some 32) (v := ?_) (a' := ?_) #[true, true, true, true, false, true, false, false, false, true, false, false, false] rfl rfl (any_of HT_.out (by kernel_rfl)) (fun _ _ _ h => h) (Or.inl ⟨by rfl, ?_⟩) ?_ ?_
         rotate_left
         ·intro w'
          go_simp
          with_reducible rfl
         rotate_left
         ·simp only [Act.put, List.setIfInBounds_toArray, List.set_cons_zero, List.set_cons_succ, i64_w, i32_w]
          rfl
         refine take_ (i := 4) (N := some 27) (v := ?_) (a' := ?_) #[true, true, true, true, true, true, false, false, false, true, false, false, false] rfl rfl (take_ofW HT_.out HW_.out (by kernel_rfl)) (fun _ _ _ h => h) (Or.inl ⟨by rfl, ?_⟩) hHeld ?_ ?_
         rotate_left
         ·rintro w' ⟨s0, s1, s2, s3, s4, s5, s6, s7⟩
          go_simp
          with_reducible rfl
         rotate_left
         ·simp only [Act.put, List.setIfInBounds_toArray, List.set_cons_zero, List.set_cons_succ, i64_w, i32_w]
          rfl
         refine pure_ (i := 6) (N := some 29) (v := ?_) (a' := ?_) #[true, true, true, true, true, true, true, false, false, true, false, false, false] rfl rfl (any_of HT_.out (by kernel_rfl)) (fun _ _ _ h => h) (Or.inl ⟨by rfl, ?_⟩) ?_ ?_
         rotate_left
         ·intro w'
          go_simp
          with_reducible rfl
         rotate_left
         ·simp only [Act.put, List.setIfInBounds_toArray, List.set_cons_zero, List.set_cons_succ, i64_w, i32_w]
          rfl
         refine pure_ (i := 7) (N := some 30) (v := ?_) (a' := ?_) #[true, true, true, true, true, true, true, true, false, true, false, false, false] rfl rfl (any_of HT_.out (by kernel_rfl)) (fun _ _ _ h => h) (Or.inl ⟨by rfl, ?_⟩) ?_ ?_
         rotate_left
         ·intro w'
          go_simp
          with_reducible rfl
         rotate_left
         ·simp only [Act.put, List.setIfInBounds_toArray, List.set_cons_zero, List.set_cons_succ, i64_w, i32_w]
          rfl
         refine take_ (i := 8) (N := some 31) (v := ?_) (a' := ?_) #[true, true, true, true, true, true, true, true, true, true, false, false, false] rfl rfl (take_ofW HT_.out HW_.out (by kernel_rfl)) (fun _ _ _ h => h) (Or.inl ⟨by rfl, ?_⟩) hHeld ?_ ?_
         rotate_left
         ·rintro w' ⟨s0, s1, s2, s3, s4, s5, s6, s7⟩
          go_simp
          with_reducible rfl
         rotate_left
         ·simp only [Act.put, List.setIfInBounds_toArray, List.set_cons_zero, List.set_cons_succ, i64_w, i32_w]
          rfl
         refine take_ (i := 10) (N := some 33) (v := ?_) (a' := ?_) #[true, true, true, true, true, true, true, true, true, true, true, false, false] rfl rfl (take_ofW HT_.out HW_.out (by kernel_rfl)) (fun _ _ _ h => h) (Or.inl ⟨by rfl, ?_⟩) hHeld ?_ ?_
         rotate_left
         ·rintro w' ⟨s0, s1, s2, s3, s4, s5, s6, s7⟩
          go_simp
          with_reducible rfl
         rotate_left
         ·simp only [Act.put, List.setIfInBounds_toArray, List.set_cons_zero, List.set_cons_succ, i64_w, i32_w]
          rfl
         refine pure_ (i := 11) (N := some 34) (v := ?_) (a' := ?_) #[true, true, true, true, true, true, true, true, true, true, true, true, false] rfl rfl (any_of HT_.out (by kernel_rfl)) (fun _ _ _ h => h) (Or.inl ⟨by rfl, ?_⟩) ?_ ?_
         rotate_left
         ·intro w'
          go_simp
          with_reducible rfl
         rotate_left
         ·simp only [Act.put, List.setIfInBounds_toArray, List.set_cons_zero, List.set_cons_succ, i64_w, i32_w]
          rfl
         refine pure_ (i := 12) (N := some 35) (v := ?_) (a' := ?_) #[true, true, true, true, true, true, true, true, true, true, true, true, true] rfl rfl (any_of HT_.out (by kernel_rfl)) (fun _ _ _ h => h) (Or.inl ⟨by rfl, ?_⟩) ?_ ?_
         rotate_left
         ·intro w'
          go_simp
          with_reducible rfl
         rotate_left
         ·simp only [Act.put, List.setIfInBounds_toArray, List.set_cons_zero, List.set_cons_succ, i64_w, i32_w]
          rfl
         refine done_ (done_of HT_.out (by kernel_rfl)) ?_
         have hnb50 := NB167_159.out
         have hnc50 := NB159_167.out
         have hnb51 := NB167_160.out
         have hnc51 := NB160_167.out
         have hnb52 := NB167_161.out
         have hnc52 := NB161_167.out
         have hcz53_0 : w49.cell? ⟨gb167, 0, none⟩ = some (.int .i64 a0_0) := (blk_cell BK167.out 0).trans rfl
         have hcz53_1 : w49.cell? ⟨gb167, 1, none⟩ = some (u168001) := (blk_cell BK167.out 1).trans rfl
         have hfz53_0 := blk_frozen BK167.out 0
         have hfz53_1 := blk_frozen BK167.out 1
         have hnb54 := NB160_159.out
         have hnc54 := NB159_160.out
         have hnb55 := NB160_161.out
         have hnc55 := NB161_160.out
         have hcz56_0 : w49.cell? ⟨gb160, 0, none⟩ = some (.string a1_0) := (blk_cell BK160.out 0).trans rfl
         have hcz56_1 : w49.cell? ⟨gb160, 1, none⟩ = some (.slice A1_1 l1_1.length c1_1) := (blk_cell BK160.out 1).trans rfl
         have hcz56_2 : w49.cell? ⟨gb160, 2, none⟩ = some (.int .i64 a1_2) := (blk_cell BK160.out 2).trans rfl
         have hfz56_0 := blk_frozen BK160.out 0
         have hfz56_1 := blk_frozen BK160.out 1
         have hfz56_2 := blk_frozen BK160.out 2
         try go_wp2_with (first | ((with_reducible refine gate_builtin (b := .append) (xs := #[.tmp 37, .tmp 39]) rfl ?_); at_builtin; refine Kd.N_append k61 (w0 := w) w.heap.size rfl (.tmp 37) (.tmp 39) 22 61 (.agg #[(.string ⟨#[]⟩), (.slice none 0 0), (.int .i64 0)]) 48 rfl Try.underlying22 info61 rfl (by decide) (by omega) u168001 x168001_1 (⟨a1_0, l1_1, a1_2⟩ : S61) [.string a1_0, .slice A1_1 l1_1.length c1_1, .int .i64 a1_2] (fun k_ => (P1_1_ k_ ∨ w.heap.size ≤ k_) ∧ some k_ ≠ (.slice (some ad168) t163.length co18 : Value).ownBlock ∧ k_ ≠ gb159 ∧ k_ ≠ gb160 ∧ k_ ≠ gb161 ∧ k_ ≠ gb166 ∧ k_ ≠ gb167) (fun k_ => ((fun k_ => (P1_1_ k_ ∨ w.heap.size ≤ k_) ∧ some k_ ≠ (.slice (some ad168) t163.length co18 : Value).ownBlock ∧ k_ ≠ gb159 ∧ k_ ≠ gb160 ∧ k_ ≠ gb161 ∧ k_ ≠ gb166 ∧ k_ ≠ gb167)) k_ ∧ some k_ ≠ (u168001 : Value).ownBlock) rfl rfl ?aP (fun _ hk => hk) ?aF ?aO ?aB ?aS ?aL ?_; (case aP => exact (k61_mkF _ _ (⟨a1_0, l1_1, a1_2⟩ : S61) (Kd.V_reads' (Kd.V_mono (ok' := (fun k_ => ((fun k_ => (P1_1_ k_ ∨ w.heap.size ≤ k_) ∧ some k_ ≠ (.slice (some ad168) t163.length co18 : Value).ownBlock ∧ k_ ≠ gb159 ∧ k_ ≠ gb160 ∧ k_ ≠ gb161 ∧ k_ ≠ gb166 ∧ k_ ≠ gb167)) k_ ∧ some k_ ≠ (u168001 : Value).ownBlock)) (HO_161001.out) (fun k_ hk => ⟨⟨hk.1, ⟨hk.2.1, ⟨hk.2.2.2.1, ⟨hk.2.2.2.2.1, ⟨hk.2.2.2.2.2.1, ⟨hk.2.2.2.2.2.2.1, hk.2.2.2.2.2.2.2⟩⟩⟩⟩⟩⟩, hk.2.2.1⟩))).2.1 (Kd.V_F (Kd.V_mono (ok' := (fun k_ => ((fun k_ => (P1_1_ k_ ∨ w.heap.size ≤ k_) ∧ some k_ ≠ (.slice (some ad168) t163.length co18 : Value).ownBlock ∧ k_ ≠ gb159 ∧ k_ ≠ gb160 ∧ k_ ≠ gb161 ∧ k_ ≠ gb166 ∧ k_ ≠ gb167)) k_ ∧ some k_ ≠ (u168001 : Value).ownBlock)) (HO_161001.out) (fun k_ hk => ⟨⟨hk.1, ⟨hk.2.1, ⟨hk.2.2.2.1, ⟨hk.2.2.2.2.1, ⟨hk.2.2.2.2.2.1, ⟨hk.2.2.2.2.2.2.1, hk.2.2.2.2.2.2.2⟩⟩⟩⟩⟩⟩, hk.2.2.1⟩))))); (case aB => exact (by repeat (first | (with_reducible first | exact HB.out | apply below_alloc | apply pw_below_drewN | apply below_drew1 | refine below_set ?_ GE159.out | refine below_set ?_ GE160.out | refine below_set ?_ GE161.out | refine below_set ?_ GE166.out | refine below_set ?_ GE167.out) | exact HB.out))); (case aF => exact (fun k_ hk => ⟨(.inr (Nat.le_trans (below_size (by repeat (first | (with_reducible first | exact HB.out | apply below_alloc | apply pw_below_drewN | apply below_drew1 | refine below_set ?_ GE159.out | refine below_set ?_ GE160.out | refine below_set ?_ GE161.out | refine below_set ?_ GE166.out | refine below_set ?_ GE167.out) | exact HB.out))) hk)), Kd.fresh' (Kd.N_lt (by (with_reducible repeat (first | apply Kd.N_alloc | apply Kd.N_drewN | apply Kd.N_drew)); exact HO_167001.out)) k_ hk, Kd.freshB (g := gb159) (o := .cells #[.int .i64 a0_0, .slice A0_1 l0_1.length c0_1] 24 (0, 0)) (by (with_reducible repeat (first | refine blk_drewN ?_ _ | refine blk_drew ?_ | refine blk_alloc ?_ _)); exact BK159.out) k_ hk, Kd.freshB (g := gb160) (o := .cells #[.string a1_0, .slice A1_1 l1_1.length c1_1, .int .i64 a1_2] 61 (0, 0)) (by (with_reducible repeat (first | refine blk_drewN ?_ _ | refine blk_drew ?_ | refine blk_alloc ?_ _)); exact BK160.out) k_ hk, Kd.freshB (g := gb161) (o := .cells #[.int .i64 0, .slice none 0 0] 24 (0, 0)) (by (with_reducible repeat (first | refine blk_drewN ?_ _ | refine blk_drew ?_ | refine blk_alloc ?_ _)); exact BK161.out) k_ hk, Kd.freshB (g := gb166) (o := .cells #[.int .i64 t162, .slice (some ad168) t163.length co18] 24 (0, 0)) (by (with_reducible repeat (first | refine blk_drewN ?_ _ | refine blk_drew ?_ | refine blk_alloc ?_ _)); exact BK166.out) k_ hk, Kd.freshB (g := gb167) (o := .cells #[.int .i64 a0_0, u168001] 24 (0, 0)) (by (with_reducible repeat (first | refine blk_drewN ?_ _ | refine blk_drew ?_ | refine blk_alloc ?_ _)); exact BK167.out) k_ hk⟩)); (case aO => exact (by (with_reducible repeat (first | apply Kd.N_alloc | apply Kd.N_drewN | apply Kd.N_drew)); exact HO_168001.out)); (case aS => exact (below_size (by repeat (first | (with_reducible first | exact HB.out | apply below_alloc | apply pw_below_drewN | apply below_drew1 | refine below_set ?_ GE159.out | refine below_set ?_ GE160.out | refine below_set ?_ GE161.out | refine below_set ?_ GE166.out | refine below_set ?_ GE167.out) | exact HB.out)))); (case aL => have := LMc42.out; omega); intro v174 w57 ho hb hg hat; rw [← Ny173.out] at ho; have n0_ := Aside0.mk (Kd.V_afterv (ok := (fun k_ => (P1_1_ k_ ∨ w.heap.size ≤ k_) ∧ some k_ ≠ (.slice (some ad168) t163.length co18 : Value).ownBlock ∧ k_ ≠ gb159 ∧ k_ ≠ gb160 ∧ k_ ≠ gb161 ∧ k_ ≠ gb166 ∧ k_ ≠ gb167)) (by (with_reducible repeat (first | apply Kd.V_alloc | apply Kd.V_drewN | apply Kd.V_drew)); exact Kd.V_mono HO_161001.out (fun _ hk => ⟨⟨hk.1, ⟨hk.2.1, ⟨hk.2.2.2.1, ⟨hk.2.2.2.2.1, ⟨hk.2.2.2.2.2.1, ⟨hk.2.2.2.2.2.2.1, hk.2.2.2.2.2.2.2⟩⟩⟩⟩⟩⟩, hk.2.2.1⟩)) hg hat); have n1_ := Aside0.mk (Kd.N_afterv (ok := (fun k_ => (P1_1_ k_ ∨ w.heap.size ≤ k_) ∧ k_ ≠ gb159 ∧ k_ ≠ gb160 ∧ k_ ≠ gb161 ∧ k_ ≠ gb166 ∧ k_ ≠ gb167)) (by (with_reducible repeat (first | apply Kd.N_alloc | apply Kd.N_drewN | apply Kd.N_drew)); exact Kd.N_mono HO_167001.out (fun _ hk => ⟨⟨hk.1, ⟨hk.2.2.1, ⟨hk.2.2.2.1, ⟨hk.2.2.2.2.1, ⟨hk.2.2.2.2.2.1, hk.2.2.2.2.2.2⟩⟩⟩⟩⟩, hk.2.1⟩)) hg hat); have n2_ := Aside0.mk (blk_grown (g := gb159) (o := .cells #[.int .i64 a0_0, .slice A0_1 l0_1.length c0_1] 24 (0, 0)) (by (with_reducible repeat (first | refine blk_drewN ?_ _ | refine blk_drew ?_ | refine blk_alloc ?_ _)); exact BK159.out) hg (Kd.N_ne HO_168001.out BK159.out (by decide))); have n3_ := Aside0.mk (blk_grown (g := gb160) (o := .cells #[.string a1_0, .slice A1_1 l1_1.length c1_1, .int .i64 a1_2] 61 (0, 0)) (by (with_reducible repeat (first | refine blk_drewN ?_ _ | refine blk_drew ?_ | refine blk_alloc ?_ _)); exact BK160.out) hg (Kd.N_away HO_168001.out (fun _ hk => hk.2.2.2.1))); have n4_ := Aside0.mk (blk_grown (g := gb161) (o := .cells #[.int .i64 0, .slice none 0 0] 24 (0, 0)) (by (with_reducible repeat (first | refine blk_drewN ?_ _ | refine blk_drew ?_ | refine blk_alloc ?_ _)); exact BK161.out) hg (Kd.N_ne HO_168001.out BK161.out (by decide))); have n5_ := Aside0.mk (blk_grown (g := gb166) (o := .cells #[.int .i64 t162, .slice (some ad168) t163.length co18] 24 (0, 0)) (by (with_reducible repeat (first | refine blk_drewN ?_ _ | refine blk_drew ?_ | refine blk_alloc ?_ _)); exact BK166.out) hg (Kd.N_ne HO_168001.out BK166.out (by decide))); have n6_ := Aside0.mk (blk_grown (g := gb167) (o := .cells #[.int .i64 a0_0, u168001] 24 (0, 0)) (by (with_reducible repeat (first | refine blk_drewN ?_ _ | refine blk_drew ?_ | refine blk_alloc ?_ _)); exact BK167.out) hg (Kd.N_ne HO_168001.out BK167.out (by decide))); have n7_ := Aside0.mk (Kd.V_afterv (ok := (fun k_ => (P1_1_ k_ ∨ w.heap.size ≤ k_) ∧ some k_ ≠ (.slice (some ad168) t163.length co18 : Value).ownBlock ∧ k_ ≠ gb159 ∧ k_ ≠ gb160 ∧ k_ ≠ gb161 ∧ k_ ≠ gb166 ∧ k_ ≠ gb167)) (by (with_reducible repeat (first | apply Kd.V_alloc | apply Kd.V_drewN | apply Kd.V_drew)); exact Kd.V_mono HL168_1.out (fun _ hk => ⟨⟨hk.1.1, ⟨hk.2, ⟨hk.1.2.2.1, ⟨hk.1.2.2.2.1, ⟨hk.1.2.2.2.2.1, ⟨hk.1.2.2.2.2.2.1, hk.1.2.2.2.2.2.2⟩⟩⟩⟩⟩⟩, hk.1.2.1⟩)) hg hat); have n8_ := Aside0.mk (hb); have n9_ := Aside0.mk (ho); clear HO_161001; clear HO_167001; clear BK159; clear BK160; clear BK161; clear BK166; clear BK167; clear HL168_1; clear HB; clear HO_168001; have HO_161001 := n0_; have HO_167001 := n1_; have BK159 := n2_; have BK160 := n3_; have BK161 := n4_; have BK166 := n5_; have BK167 := n6_; have HL168_1 := n7_; have HB := n8_; have HO175 := n9_; clear n0_ n1_ n2_ n3_ n4_ n5_ n6_ n7_ n8_ n9_; clear ho hb hg hat; obtain ⟨Ao58, co58, eo58⟩ := Kd.N_slice HO175.out; subst eo58; have hcz59_0 : w57.cell? ⟨gb167, 0, none⟩ = some (.int .i64 a0_0) := (blk_cell BK167.out 0).trans rfl; have hcz59_1 : w57.cell? ⟨gb167, 1, none⟩ = some (u168001) := (blk_cell BK167.out 1).trans rfl; have hfz59_0 := blk_frozen BK167.out 0; have hfz59_1 := blk_frozen BK167.out 1))
         have n0_ : Aside0 (Kd.V (Kd.int .u8) 5 (w57.setCell ⟨gb167, 1, none⟩ (.slice Ao58 y173.length co58)) w.heap.size (fun k_ => (P1_1_ k_ ∨ w.heap.size ≤ k_) ∧ some k_ ≠ (.slice (some ad168) t163.length co18 : Value).ownBlock ∧ some k_ ≠ (.slice Ao58 y173.length co58 : Value).ownBlock ∧ k_ ≠ gb159 ∧ k_ ≠ gb160 ∧ k_ ≠ gb161 ∧ k_ ≠ gb166 ∧ k_ ≠ gb167) (.slice A1_1 l1_1.length c1_1) l1_1) := ⟨by (with_reducible repeat (first | apply Kd.V_alloc | apply Kd.V_drewN | apply Kd.V_drew)); exact Kd.V_mono (Kd.V_far (p := ⟨gb167, 1, none⟩) (Kd.V_mono HO_161001.out (fun k_ hk => (⟨hk, hk.1.2.2.2.2.2.2⟩ : _ ∧ k_ ≠ gb167))) (fun _ hk => hk.2) (.slice Ao58 y173.length co58)) (fun _ hk => ⟨hk.1.1.1, ⟨hk.1.1.2.1, ⟨hk.1.2, ⟨hk.1.1.2.2.1, ⟨hk.1.1.2.2.2.1, ⟨hk.1.1.2.2.2.2.1, ⟨hk.1.1.2.2.2.2.2.1, hk.1.1.2.2.2.2.2.2⟩⟩⟩⟩⟩⟩⟩)⟩
         have n1_ : Aside0 (Kd.N k61 61 (w57.setCell ⟨gb167, 1, none⟩ (.slice Ao58 y173.length co58)) w.heap.size (fun k_ => (P1_1_ k_ ∨ w.heap.size ≤ k_) ∧ some k_ ≠ (.slice Ao58 y173.length co58 : Value).ownBlock ∧ k_ ≠ gb159 ∧ k_ ≠ gb160 ∧ k_ ≠ gb161 ∧ k_ ≠ gb166 ∧ k_ ≠ gb167) (.slice (some ad168) t163.length co18) t163) := ⟨by (with_reducible repeat (first | apply Kd.N_alloc | apply Kd.N_drewN | apply Kd.N_drew)); exact Kd.N_mono (Kd.N_far (p := ⟨gb167, 1, none⟩) (Kd.N_mono HO_167001.out (fun k_ hk => (⟨hk, hk.1.2.2.2.2.2⟩ : _ ∧ k_ ≠ gb167))) (fun _ hk => hk.2) (.slice Ao58 y173.length co58)) (fun _ hk => ⟨hk.1.1.1, ⟨hk.1.2, ⟨hk.1.1.2.1, ⟨hk.1.1.2.2.1, ⟨hk.1.1.2.2.2.1, ⟨hk.1.1.2.2.2.2.1, hk.1.1.2.2.2.2.2⟩⟩⟩⟩⟩⟩)⟩
         have n2_ : Aside0 (Kd.V (Kd.int .u8) 5 (w57.setCell ⟨gb167, 1, none⟩ (.slice Ao58 y173.length co58)) w.heap.size (fun k_ => (P1_1_ k_ ∨ w.heap.size ≤ k_) ∧ some k_ ≠ (.slice (some ad168) t163.length co18 : Value).ownBlock ∧ some k_ ≠ (.slice Ao58 y173.length co58 : Value).ownBlock ∧ k_ ≠ gb159 ∧ k_ ≠ gb160 ∧ k_ ≠ gb161 ∧ k_ ≠ gb166 ∧ k_ ≠ gb167) (.slice A168_1 ((rd_T61 t163 x8_1).f1).length c168_1) ((rd_T61 t163 x8_1).f1)) := ⟨by (with_reducible repeat (first | apply Kd.V_alloc | apply Kd.V_drewN | apply Kd.V_drew)); exact Kd.V_mono (Kd.V_far (p := ⟨gb167, 1, none⟩) (Kd.V_mono HL168_1.out (fun k_ hk => (⟨hk, hk.1.2.2.2.2.2.2⟩ : _ ∧ k_ ≠ gb167))) (fun _ hk => hk.2) (.slice Ao58 y173.length co58)) (fun _ hk => ⟨hk.1.1.1, ⟨hk.1.1.2.1, ⟨hk.1.2, ⟨hk.1.1.2.2.1, ⟨hk.1.1.2.2.2.1, ⟨hk.1.1.2.2.2.2.1, ⟨hk.1.1.2.2.2.2.2.1, hk.1.1.2.2.2.2.2.2⟩⟩⟩⟩⟩⟩⟩)⟩
         have n3_ : Aside0 (Kd.N k61 61 (w57.setCell ⟨gb167, 1, none⟩ (.slice Ao58 y173.length co58)) w.heap.size (fun k_ => (P1_1_ k_ ∨ w.heap.size ≤ k_) ∧ some k_ ≠ (.slice (some ad168) t163.length co18 : Value).ownBlock ∧ k_ ≠ gb159 ∧ k_ ≠ gb160 ∧ k_ ≠ gb161 ∧ k_ ≠ gb166 ∧ k_ ≠ gb167) (.slice Ao58 y173.length co58) y173) := ⟨by (with_reducible repeat (first | apply Kd.N_alloc | apply Kd.N_drewN | apply Kd.N_drew)); exact Kd.N_mono (Kd.N_far (p := ⟨gb167, 1, none⟩) (Kd.N_mono HO175.out (fun k_ hk => (⟨hk, hk.2.2.2.2.2.2⟩ : _ ∧ k_ ≠ gb167))) (fun _ hk => hk.2) (.slice Ao58 y173.length co58)) (fun _ hk => ⟨hk.1.1, ⟨hk.1.2.1, ⟨hk.1.2.2.1, ⟨hk.1.2.2.2.1, ⟨hk.1.2.2.2.2.1, ⟨hk.1.2.2.2.2.2.1, hk.1.2.2.2.2.2.2⟩⟩⟩⟩⟩⟩)⟩
         have n4_ : Aside0 ((w57.setCell ⟨gb167, 1, none⟩ (.slice Ao58 y173.length co58)).heap[gb159]? = some (.cells #[.int .i64 a0_0, .slice A0_1 l0_1.length c0_1] 24 (0, 0))) := ⟨by (with_reducible repeat (first | refine blk_drewN ?_ _ | refine blk_drew ?_ | refine blk_alloc ?_ _)); refine blk_far ?_ NB159_167.out _; (with_reducible repeat (first | refine blk_drewN ?_ _ | refine blk_drew ?_ | refine blk_alloc ?_ _)); exact BK159.out⟩
         have n5_ : Aside0 ((w57.setCell ⟨gb167, 1, none⟩ (.slice Ao58 y173.length co58)).heap[gb160]? = some (.cells #[.string a1_0, .slice A1_1 l1_1.length c1_1, .int .i64 a1_2] 61 (0, 0))) := ⟨by (with_reducible repeat (first | refine blk_drewN ?_ _ | refine blk_drew ?_ | refine blk_alloc ?_ _)); refine blk_far ?_ NB160_167.out _; (with_reducible repeat (first | refine blk_drewN ?_ _ | refine blk_drew ?_ | refine blk_alloc ?_ _)); exact BK160.out⟩
         have n6_ : Aside0 ((w57.setCell ⟨gb167, 1, none⟩ (.slice Ao58 y173.length co58)).heap[gb161]? = some (.cells #[.int .i64 0, .slice none 0 0] 24 (0, 0))) := ⟨by (with_reducible repeat (first | refine blk_drewN ?_ _ | refine blk_drew ?_ | refine blk_alloc ?_ _)); refine blk_far ?_ NB161_167.out _; (with_reducible repeat (first | refine blk_drewN ?_ _ | refine blk_drew ?_ | refine blk_alloc ?_ _)); exact BK161.out⟩
         have n7_ : Aside0 ((w57.setCell ⟨gb167, 1, none⟩ (.slice Ao58 y173.length co58)).heap[gb166]? = some (.cells #[.int .i64 t162, .slice (some ad168) t163.length co18] 24 (0, 0))) := ⟨by (with_reducible repeat (first | refine blk_drewN ?_ _ | refine blk_drew ?_ | refine blk_alloc ?_ _)); refine blk_far ?_ NB166_167.out _; (with_reducible repeat (first | refine blk_drewN ?_ _ | refine blk_drew ?_ | refine blk_alloc ?_ _)); exact BK166.out⟩
         have n8_ : Aside0 ((w57.setCell ⟨gb167, 1, none⟩ (.slice Ao58 y173.length co58)).heap[gb167]? = some (.cells #[.int .i64 a0_0, .slice Ao58 y173.length co58] 24 (0, 0))) := ⟨by (with_reducible repeat (first | refine blk_drewN ?_ _ | refine blk_drew ?_ | refine blk_alloc ?_ _)); refine blk_put (cs := #[.int .i64 a0_0, u168001]) ?_ 1 _ rfl; (with_reducible repeat (first | refine blk_drewN ?_ _ | refine blk_drew ?_ | refine blk_alloc ?_ _)); exact BK167.out⟩
         have n9_ : Aside0 (Below w.heap.size w (w57.setCell ⟨gb167, 1, none⟩ (.slice Ao58 y173.length co58))) := ⟨by repeat (first | (with_reducible first | exact HB.out | apply below_alloc | apply pw_below_drewN | apply below_drew1 | refine below_set ?_ GE159.out | refine below_set ?_ GE160.out | refine below_set ?_ GE161.out | refine below_set ?_ GE166.out | refine below_set ?_ GE167.out) | exact HB.out)⟩
         (try clear HO_161001)
         (try clear HO_167001)
         (try clear HL168_1)
         (try clear HO175)
         (try clear BK159)
         (try clear BK160)
         (try clear BK161)
         (try clear BK166)
         (try clear BK167)
         (try clear HB)
         generalize (w57.setCell ⟨gb167, 1, none⟩ (.slice Ao58 y173.length co58)) = w60 at n0_ n1_ n2_ n3_ n4_ n5_ n6_ n7_ n8_ n9_ ⊢
         have HO_161001 := n0_
         have HO_167001 := n1_
         have HL168_1 := n2_
         have HO175 := n3_
         have BK159 := n4_
         have BK160 := n5_
         have BK161 := n6_
         have BK166 := n7_
         have BK167 := n8_
         have HB := n9_
         clear n0_ n1_ n2_ n3_ n4_ n5_ n6_ n7_ n8_ n9_
         have n0_ := Aside0.mk (Kd.V_drew HO_161001.out)
         have n1_ := Aside0.mk (Kd.N_drew HO_167001.out)
         have n2_ := Aside0.mk (Kd.V_drew HL168_1.out)
         have n3_ := Aside0.mk (Kd.N_drew HO175.out)
         have n4_ := Aside0.mk (blk_drew BK159.out)
         have n5_ := Aside0.mk (blk_drew BK160.out)
         have n6_ := Aside0.mk (blk_drew BK161.out)
         have n7_ := Aside0.mk (blk_drew BK166.out)
         have n8_ := Aside0.mk (blk_drew BK167.out)
         have n9_ := Aside0.mk (below_drew1 HB.out)
         clear HO_161001
         clear HO_167001
         clear HL168_1
         clear HO175
         clear BK159
         clear BK160
         clear BK161
         clear BK166
         clear BK167
         clear HB
         have HO_161001 := n0_
         have HO_167001 := n1_
         have HL168_1 := n2_
         have HO175 := n3_
         have BK159 := n4_
         have BK160 := n5_
         have BK161 := n6_
         have BK166 := n7_
         have BK167 := n8_
         have HB := n9_
         clear n0_ n1_ n2_ n3_ n4_ n5_ n6_ n7_ n8_ n9_
         have p176 : 0 ≤ (x8_1 : Int) := of_decide_eq_true (by first | (with_reducible assumption) | assumption)
         have q176 : x8_1 < (t163.length : Int) := of_decide_eq_true (by first | (with_reducible assumption) | assumption)
         obtain ⟨ad176, A176_1, c176_1, e176, hx176_0, hx176_1, hx176_2, hl176_1, hi176_1⟩ := at_T61 (Kd.N_reads' HO_167001.out).2.2 x8_1 p176 q176
         obtain rfl : ad168 = ad176 := (by injection e176)
         obtain ⟨ce176, hce176, hMe176, hcc176⟩ := Kd.N_get HO_167001.out z61 x8_1 p176 (by first | exact q176 | exact of_decide_eq_true (by first | (with_reducible assumption) | assumption) | (have e_ := (Kd.N_reads' HO_167001.out).1; omega))
         obtain ⟨ua176_1, uc176_1, rfl, ul176_1, ge176_1⟩ := k61_openF hMe176
         have hv176_1 := hcc176 1 _ rfl
         rw [add_field _ _ 1 (by omega)] at hv176_1
         replace hv176_1 := Option.some.inj (hv176_1.symm.trans hx176_1)
         injection hv176_1 with hva_ hvn_ hvc_
         rw [hva_] at ge176_1
         rw [hvc_] at ul176_1
         have HL176_1 := Aside0.mk (show Kd.V (Kd.int .u8) 5 _ w.heap.size _ _ ((rd_T61 t163 x8_1).f1) from Kd.V_mk ul176_1 ge176_1)
         clear hva_ hvn_ hvc_ ge176_1 ul176_1
         clear hcc176 hce176
         have HR176_1 := Aside0.mk hi176_1
         have HC176_1 := Aside0.mk hl176_1
         clear hi176_1 hl176_1
         replace p176 := eq_true p176
         replace q176 := eq_true q176
         refine start_ (n := 11) (S := fun w' => w'.cell? ⟨gb167, 0, none⟩ = some (.int .i64 a0_0) ∧ w'.cell? ⟨gb167, 1, none⟩ = some (.slice Ao58 y173.length co58) ∧ w'.cell? ⟨gb166, 0, none⟩ = some (.int .i64 t162) ∧ w'.cell? ⟨gb166, 1, none⟩ = some (.slice (some ad168) t163.length co18) ∧ w'.cell? (ad168.add ((x8_1).toNat * 3)) = some (.string ((rd_T61 t163 x8_1).f0)) ∧ w'.cell? ⟨(ad168.add ((x8_1).toNat * 3)).block, (ad168.add ((x8_1).toNat * 3)).off + 1, none⟩ = some (.slice A176_1 ((rd_T61 t163 x8_1).f1).length c176_1) ∧ w'.cell? ⟨(ad168.add ((x8_1).toNat * 3)).block, (ad168.add ((x8_1).toNat * 3)).off + 2, none⟩ = some (.int .i64 ((rd_T61 t163 x8_1).f2))) (ds := [8, 10]) #[false, false, false, false, false, false, false, false, false, false, false] (by kernel_rfl) rfl rfl ⟨(blk_cell BK167.out 0).trans rfl, (blk_cell BK167.out 1).trans rfl, (blk_cell BK166.out 0).trans rfl, (blk_cell BK166.out 1).trans rfl, hx176_0, hx176_1, hx176_2⟩ (fun hHeld => ?_); refine with_tabW dragnetref16_with.tab10 dragnetref16_with.bits10 (fun HT_ HW_ => ?_)
         generalize w60.drew = w61 at HO_161001 HO_167001 HL168_1 HO175 BK159 BK160 BK161 BK166 BK167 HB HL176_1 HR176_1 hx176_0 hx176_1 hx176_2 hHeld ⊢
         refine pure_ (i := 0) (N := some 42) (v := ?_) (a' := ?_) #[true, false, false, false, false, false, false, false, false, false, false] rfl rfl (any_of HT_.out (by kernel_rfl)) (fun _ _ _ h => h) (Or.inl ⟨by rfl, ?_⟩) ?_ ?_
         rotate_left
         ·intro w'
          go_simp
          with_reducible rfl
         rotate_left
         ·simp only [Act.put, List.setIfInBounds_toArray, List.set_cons_zero, List.set_cons_succ, i64_w, i32_w]
          rfl
         refine pure_ (i := 2) (N := some 44) (v := ?_) (a' := ?_) #[true, false, true, false, false, false, false, false, false, false, false] rfl rfl (any_of HT_.out (by kernel_rfl)) (fun _ _ _ h => h) (Or.inl ⟨by rfl, ?_⟩) ?_ ?_
         rotate_left
         ·intro w'
          go_simp
          with_reducible rfl
         rotate_left
         ·simp only [Act.put, List.setIfInBounds_toArray, List.set_cons_zero, List.set_cons_succ, i64_w, i32_w]
          rfl
         refine pure_ (i := 4) (N := some 46) (v := ?_) (a' := ?_) #[true, false, true, false, true, false, false, false, false, false, false] rfl rfl (any_of HT_.out (by kernel_rfl)) (fun _ _ _ h => h) (Or.inl ⟨by rfl, ?_⟩) ?_ ?_
         rotate_left
         ·intro w'
          go_simp
          with_reducible rfl
         rotate_left
         ·simp only [Act.put, List.setIfInBounds_toArray, List.set_cons_zero, List.set_cons_succ, i64_w, i32_w]
          rfl
         refine take_ (i := 1) (N := some 43) (v := ?_) (a' := ?_) #[true, true, true, false, true, false, false, false, false, false, false] rfl rfl (take_ofW HT_.out HW_.out (by kernel_rfl)) (fun _ _ _ h => h) (Or.inl ⟨by rfl, ?_⟩) hHeld ?_ ?_
         rotate_left
         ·rintro w' ⟨s0, s1, s2, s3, s4, s5, s6⟩
          go_simp
          with_reducible rfl
         rotate_left
         ·simp only [Act.put, List.setIfInBounds_toArray, List.set_cons_zero, List.set_cons_succ, i64_w, i32_w]
          rfl
         refine take_ (i := 3) (N := some 45) (v := ?_) (a' := ?_) #[true, true, true, true, true, false, false, false, false, false, false] rfl rfl (take_ofW HT_.out HW_.out (by kernel_rfl)) (fun _ _ _ h => h) (Or.inl ⟨by rfl, ?_⟩) hHeld ?_ ?_
         rotate_left
         ·rintro w' ⟨s0, s1, s2, s3, s4, s5, s6⟩
          go_simp
          with_reducible rfl
         rotate_left
         ·simp only [Act.put, List.setIfInBounds_toArray, List.set_cons_zero, List.set_cons_succ, i64_w, i32_w]
          rfl
         refine pure_ (i := 5) (N := some 47) (v := ?_) (a' := ?_) #[true, true, true, true, true, true, false, false, false, false, false] rfl rfl (any_of HT_.out (by kernel_rfl)) (fun _ _ _ h => h) (Or.inl ⟨by rfl, ?_⟩) ?_ ?_
         rotate_left
         ·intro w'
          go_simp
          with_reducible rfl
         rotate_left
         ·simp only [Act.put, List.setIfInBounds_toArray, List.set_cons_zero, List.set_cons_succ, i64_w, i32_w]
          rfl
         refine take_ (i := 6) (N := some 48) (v := ?_) (a' := ?_) #[true, true, true, true, true, true, true, false, false, false, false] rfl rfl (take_ofW HT_.out HW_.out (by kernel_rfl)) (fun _ _ _ h => h) (Or.inl ⟨by rfl, ?_⟩) hHeld ?_ ?_
         rotate_left
         ·rintro w' ⟨s0, s1, s2, s3, s4, s5, s6⟩
          go_simp
          with_reducible rfl
         rotate_left
         ·simp only [Act.put, List.setIfInBounds_toArray, List.set_cons_zero, List.set_cons_succ, i64_w, i32_w]
          rfl
         refine one_ (i := 7) (N := some 49) #[true, true, true, true, true, true, true, true, false, false, false] rfl rfl (one_of HT_.out (by kernel_rfl)) (by decide) (fun K hK => ?_)
         refine value_ (w1 := ?_) (v := ?_) (by rfl) rfl ?_ ?_
         rotate_left 2
         ·go_simp
          constructor
          ·rfl
          ·rfl
         refine hK.out _ _ ⟨(blk_cell (blk_alloc BK167.out _) 0).trans rfl, (blk_cell (blk_alloc BK167.out _) 1).trans rfl, (blk_cell (blk_alloc BK166.out _) 0).trans rfl, (blk_cell (blk_alloc BK166.out _) 1).trans rfl, (World.cell?_alloc_lt _ _ _ (World.block_lt_of_cell? _ _ (hHeld.2.2.2.2.1))).trans (hHeld.2.2.2.2.1), (World.cell?_alloc_lt _ _ _ (World.block_lt_of_cell? _ _ (hHeld.2.2.2.2.2.1))).trans (hHeld.2.2.2.2.2.1), (World.cell?_alloc_lt _ _ _ (World.block_lt_of_cell? _ _ (hHeld.2.2.2.2.2.2))).trans (hHeld.2.2.2.2.2.2)⟩ (fun hHeld => ?_)
         clear hK K
         refine norm_ (a' := ?_) ?_ ?_
         rotate_left
         ·show Act.put _ (some 49) _ = _
          simp only [Act.put, List.setIfInBounds_toArray, List.set_cons_zero, List.set_cons_succ, i64_w, i32_w]
          rfl
         refine last_ (i := 8) (N := some 50) #[true, true, true, true, true, true, true, true, true, false, false] rfl rfl (one_of HT_.out (by kernel_rfl)) (by decide) (fun K hK => ?_)
         refine Kd.N_append_step k61 (w0 := w) w.heap.size (by rfl) (.tmp 43) (.tmp 49) 22 61 (.agg #[(.string ⟨#[]⟩), (.slice none 0 0), (.int .i64 0)]) 48 rfl Try.underlying22 info61 rfl (by decide) (by omega) (.slice Ao58 y173.length co58) y173 (⟨(rd_T61 t163 x8_1).f0, (rd_T61 t163 x8_1).f1, (rd_T61 t163 x8_1).f2⟩ : S61) [.string ((rd_T61 t163 x8_1).f0), .slice A176_1 ((rd_T61 t163 x8_1).f1).length c176_1, .int .i64 ((rd_T61 t163 x8_1).f2)] (fun k_ => (P1_1_ k_ ∨ w.heap.size ≤ k_) ∧ some k_ ≠ (.slice (some ad168) t163.length co18 : Value).ownBlock ∧ k_ ≠ gb159 ∧ k_ ≠ gb160 ∧ k_ ≠ gb161 ∧ k_ ≠ gb166 ∧ k_ ≠ gb167) (fun k_ => ((fun k_ => (P1_1_ k_ ∨ w.heap.size ≤ k_) ∧ some k_ ≠ (.slice (some ad168) t163.length co18 : Value).ownBlock ∧ k_ ≠ gb159 ∧ k_ ≠ gb160 ∧ k_ ≠ gb161 ∧ k_ ≠ gb166 ∧ k_ ≠ gb167)) k_ ∧ some k_ ≠ (.slice Ao58 y173.length co58 : Value).ownBlock) rfl rfl ?aP (fun _ hk => hk) ?aF ?aO ?aB ?aS ?aL ?_
         (case aP => exact (k61_mkF _ _ (⟨(rd_T61 t163 x8_1).f0, (rd_T61 t163 x8_1).f1, (rd_T61 t163 x8_1).f2⟩ : S61) (Kd.V_reads' (Kd.V_mono (ok' := (fun k_ => ((fun k_ => (P1_1_ k_ ∨ w.heap.size ≤ k_) ∧ some k_ ≠ (.slice (some ad168) t163.length co18 : Value).ownBlock ∧ k_ ≠ gb159 ∧ k_ ≠ gb160 ∧ k_ ≠ gb161 ∧ k_ ≠ gb166 ∧ k_ ≠ gb167)) k_ ∧ some k_ ≠ (.slice Ao58 y173.length co58 : Value).ownBlock)) (HL176_1.out) (fun k_ hk => ⟨⟨hk.1.1, ⟨hk.2, ⟨hk.1.2.2.1, ⟨hk.1.2.2.2.1, ⟨hk.1.2.2.2.2.1, ⟨hk.1.2.2.2.2.2.1, hk.1.2.2.2.2.2.2⟩⟩⟩⟩⟩⟩, hk.1.2.1⟩))).2.1 (Kd.V_F (Kd.V_mono (ok' := (fun k_ => ((fun k_ => (P1_1_ k_ ∨ w.heap.size ≤ k_) ∧ some k_ ≠ (.slice (some ad168) t163.length co18 : Value).ownBlock ∧ k_ ≠ gb159 ∧ k_ ≠ gb160 ∧ k_ ≠ gb161 ∧ k_ ≠ gb166 ∧ k_ ≠ gb167)) k_ ∧ some k_ ≠ (.slice Ao58 y173.length co58 : Value).ownBlock)) (HL176_1.out) (fun k_ hk => ⟨⟨hk.1.1, ⟨hk.2, ⟨hk.1.2.2.1, ⟨hk.1.2.2.2.1, ⟨hk.1.2.2.2.2.1, ⟨hk.1.2.2.2.2.2.1, hk.1.2.2.2.2.2.2⟩⟩⟩⟩⟩⟩, hk.1.2.1⟩)))))
         (case aB => exact (by repeat (first | (with_reducible first | exact HB.out | apply below_alloc | apply pw_below_drewN | apply below_drew1 | refine below_set ?_ GE159.out | refine below_set ?_ GE160.out | refine below_set ?_ GE161.out | refine below_set ?_ GE166.out | refine below_set ?_ GE167.out) | exact HB.out)))
         (case aF => exact (fun k_ hk => ⟨(.inr (Nat.le_trans (below_size (by repeat (first | (with_reducible first | exact HB.out | apply below_alloc | apply pw_below_drewN | apply below_drew1 | refine below_set ?_ GE159.out | refine below_set ?_ GE160.out | refine below_set ?_ GE161.out | refine below_set ?_ GE166.out | refine below_set ?_ GE167.out) | exact HB.out))) hk)), Kd.fresh' (Kd.N_lt (by (with_reducible repeat (first | apply Kd.N_alloc | apply Kd.N_drewN | apply Kd.N_drew)); exact HO_167001.out)) k_ hk, Kd.freshB (g := gb159) (o := .cells #[.int .i64 a0_0, .slice A0_1 l0_1.length c0_1] 24 (0, 0)) (by (with_reducible repeat (first | refine blk_drewN ?_ _ | refine blk_drew ?_ | refine blk_alloc ?_ _)); exact BK159.out) k_ hk, Kd.freshB (g := gb160) (o := .cells #[.string a1_0, .slice A1_1 l1_1.length c1_1, .int .i64 a1_2] 61 (0, 0)) (by (with_reducible repeat (first | refine blk_drewN ?_ _ | refine blk_drew ?_ | refine blk_alloc ?_ _)); exact BK160.out) k_ hk, Kd.freshB (g := gb161) (o := .cells #[.int .i64 0, .slice none 0 0] 24 (0, 0)) (by (with_reducible repeat (first | refine blk_drewN ?_ _ | refine blk_drew ?_ | refine blk_alloc ?_ _)); exact BK161.out) k_ hk, Kd.freshB (g := gb166) (o := .cells #[.int .i64 t162, .slice (some ad168) t163.length co18] 24 (0, 0)) (by (with_reducible repeat (first | refine blk_drewN ?_ _ | refine blk_drew ?_ | refine blk_alloc ?_ _)); exact BK166.out) k_ hk, Kd.freshB (g := gb167) (o := .cells #[.int .i64 a0_0, .slice Ao58 y173.length co58] 24 (0, 0)) (by (with_reducible repeat (first | refine blk_drewN ?_ _ | refine blk_drew ?_ | refine blk_alloc ?_ _)); exact BK167.out) k_ hk⟩))
         (case aO => exact (by (with_reducible repeat (first | apply Kd.N_alloc | apply Kd.N_drewN | apply Kd.N_drew)); exact HO175.out))
         (case aS => exact (below_size (by repeat (first | (with_reducible first | exact HB.out | apply below_alloc | apply pw_below_drewN | apply below_drew1 | refine below_set ?_ GE159.out | refine below_set ?_ GE160.out | refine below_set ?_ GE161.out | refine below_set ?_ GE166.out | refine below_set ?_ GE167.out) | exact HB.out))))
         (case aL => have := LMc43.out; omega)
         intro v178 w62 ho hb hg hat
         rw [← Ny177.out] at ho
         have n0_ := Aside0.mk (Kd.V_afterv (ok := (fun k_ => (P1_1_ k_ ∨ w.heap.size ≤ k_) ∧ some k_ ≠ (.slice (some ad168) t163.length co18 : Value).ownBlock ∧ k_ ≠ gb159 ∧ k_ ≠ gb160 ∧ k_ ≠ gb161 ∧ k_ ≠ gb166 ∧ k_ ≠ gb167)) (by (with_reducible repeat (first | apply Kd.V_alloc | apply Kd.V_drewN | apply Kd.V_drew)); exact Kd.V_mono HO_161001.out (fun _ hk => ⟨⟨hk.1, ⟨hk.2.1, ⟨hk.2.2.2.1, ⟨hk.2.2.2.2.1, ⟨hk.2.2.2.2.2.1, ⟨hk.2.2.2.2.2.2.1, hk.2.2.2.2.2.2.2⟩⟩⟩⟩⟩⟩, hk.2.2.1⟩)) hg hat)
         have n1_ := Aside0.mk (Kd.N_afterv (ok := (fun k_ => (P1_1_ k_ ∨ w.heap.size ≤ k_) ∧ k_ ≠ gb159 ∧ k_ ≠ gb160 ∧ k_ ≠ gb161 ∧ k_ ≠ gb166 ∧ k_ ≠ gb167)) (by (with_reducible repeat (first | apply Kd.N_alloc | apply Kd.N_drewN | apply Kd.N_drew)); exact Kd.N_mono HO_167001.out (fun _ hk => ⟨⟨hk.1, ⟨hk.2.2.1, ⟨hk.2.2.2.1, ⟨hk.2.2.2.2.1, ⟨hk.2.2.2.2.2.1, hk.2.2.2.2.2.2⟩⟩⟩⟩⟩, hk.2.1⟩)) hg hat)
         have n2_ := Aside0.mk (blk_grown (g := gb159) (o := .cells #[.int .i64 a0_0, .slice A0_1 l0_1.length c0_1] 24 (0, 0)) (by (with_reducible repeat (first | refine blk_drewN ?_ _ | refine blk_drew ?_ | refine blk_alloc ?_ _)); exact BK159.out) hg (Kd.N_ne HO175.out BK159.out (by decide)))
         have n3_ := Aside0.mk (blk_grown (g := gb160) (o := .cells #[.string a1_0, .slice A1_1 l1_1.length c1_1, .int .i64 a1_2] 61 (0, 0)) (by (with_reducible repeat (first | refine blk_drewN ?_ _ | refine blk_drew ?_ | refine blk_alloc ?_ _)); exact BK160.out) hg (Kd.N_away HO175.out (fun _ hk => hk.2.2.2.1)))
         have n4_ := Aside0.mk (blk_grown (g := gb161) (o := .cells #[.int .i64 0, .slice none 0 0] 24 (0, 0)) (by (with_reducible repeat (first | refine blk_drewN ?_ _ | refine blk_drew ?_ | refine blk_alloc ?_ _)); exact BK161.out) hg (Kd.N_ne HO175.out BK161.out (by decide)))
         have n5_ := Aside0.mk (blk_grown (g := gb166) (o := .cells #[.int .i64 t162, .slice (some ad168) t163.length co18] 24 (0, 0)) (by (with_reducible repeat (first | refine blk_drewN ?_ _ | refine blk_drew ?_ | refine blk_alloc ?_ _)); exact BK166.out) hg (Kd.N_ne HO175.out BK166.out (by decide)))
         have n6_ := Aside0.mk (blk_grown (g := gb167) (o := .cells #[.int .i64 a0_0, .slice Ao58 y173.length co58] 24 (0, 0)) (by (with_reducible repeat (first | refine blk_drewN ?_ _ | refine blk_drew ?_ | refine blk_alloc ?_ _)); exact BK167.out) hg (Kd.N_ne HO175.out BK167.out (by decide)))
         have n7_ := Aside0.mk (Kd.V_afterv (ok := (fun k_ => (P1_1_ k_ ∨ w.heap.size ≤ k_) ∧ some k_ ≠ (.slice (some ad168) t163.length co18 : Value).ownBlock ∧ k_ ≠ gb159 ∧ k_ ≠ gb160 ∧ k_ ≠ gb161 ∧ k_ ≠ gb166 ∧ k_ ≠ gb167)) (by (with_reducible repeat (first | apply Kd.V_alloc | apply Kd.V_drewN | apply Kd.V_drew)); exact Kd.V_mono HL168_1.out (fun _ hk => ⟨⟨hk.1, ⟨hk.2.1, ⟨hk.2.2.2.1, ⟨hk.2.2.2.2.1, ⟨hk.2.2.2.2.2.1, ⟨hk.2.2.2.2.2.2.1, hk.2.2.2.2.2.2.2⟩⟩⟩⟩⟩⟩, hk.2.2.1⟩)) hg hat)
         have n8_ := Aside0.mk (Kd.V_afterv (ok := (fun k_ => (P1_1_ k_ ∨ w.heap.size ≤ k_) ∧ some k_ ≠ (.slice (some ad168) t163.length co18 : Value).ownBlock ∧ k_ ≠ gb159 ∧ k_ ≠ gb160 ∧ k_ ≠ gb161 ∧ k_ ≠ gb166 ∧ k_ ≠ gb167)) (by (with_reducible repeat (first | apply Kd.V_alloc | apply Kd.V_drewN | apply Kd.V_drew)); exact Kd.V_mono HL176_1.out (fun _ hk => ⟨⟨hk.1.1, ⟨hk.2, ⟨hk.1.2.2.1, ⟨hk.1.2.2.2.1, ⟨hk.1.2.2.2.2.1, ⟨hk.1.2.2.2.2.2.1, hk.1.2.2.2.2.2.2⟩⟩⟩⟩⟩⟩, hk.1.2.1⟩)) hg hat)
         have n9_ := Aside0.mk (hb)
         have n10_ := Aside0.mk (ho)
         clear HO_161001
         clear HO_167001
         clear BK159
         clear BK160
         clear BK161
         clear BK166
         clear BK167
         clear HL168_1
         clear HL176_1
         clear HB
         clear HO175
         have HO_161001 := n0_
         have HO_167001 := n1_
         have BK159 := n2_
         have BK160 := n3_
         have BK161 := n4_
         have BK166 := n5_
         have BK167 := n6_
         have HL168_1 := n7_
         have HL176_1 := n8_
         have HB := n9_
         have HO179 := n10_
         clear n0_ n1_ n2_ n3_ n4_ n5_ n6_ n7_ n8_ n9_ n10_
         clear ho hb hg hat
         obtain ⟨Ao63, co63, eo63⟩ := Kd.N_slice HO179.out
         (first | subst eo63 | (injection eo63 with f1_ f2_ f3_; have f4_ := f1_.symm; have f5_ := f3_.symm; clear f1_ f2_ f3_; subst f4_; subst f5_))
         refine hK.out _ _ ?_
         clear hK K
         refine norm_ (a' := ?_) ?_ ?_
         rotate_left
         ·show Act.put _ (some 50) _ = _
          simp only [Act.put, List.setIfInBounds_toArray, List.set_cons_zero, List.set_cons_succ, i64_w, i32_w]
          rfl
         refine pure_ (i := 9) (N := some 51) (v := ?_) (a' := ?_) #[true, true, true, true, true, true, true, true, true, true, false] rfl rfl (any_of HT_.out (by kernel_rfl)) (fun _ _ _ h => h) (Or.inl ⟨by rfl, ?_⟩) ?_ ?_
         rotate_left
         ·intro w'
          go_simp
          with_reducible rfl
         rotate_left
         ·simp only [Act.put, List.setIfInBounds_toArray, List.set_cons_zero, List.set_cons_succ, i64_w, i32_w]
          rfl
         refine last_ (i := 10) (N := none) #[true, true, true, true, true, true, true, true, true, true, true] rfl rfl (one_of HT_.out (by kernel_rfl)) (by decide) (fun K hK => ?_)
         have hs64 : w62.cell? ⟨gb167, 1, none⟩ = some (.slice Ao58 y173.length co58) := (blk_cell BK167.out 1).trans rfl
         have hfs64 := blk_frozen BK167.out 1
         have hns64_0 := NB159_167.out
         have hns64_1 := NB160_167.out
         have hns64_2 := NB161_167.out
         have hns64_3 := NB166_167.out
         have hms64_0 := NB167_159.out
         have hms64_1 := NB167_160.out
         have hms64_2 := NB167_161.out
         have hms64_3 := NB167_166.out
         refine skip_ (w1 := ?_) (by rfl) rfl ?_ ?_
         rotate_left
         ·go_simp
          rfl
         refine hK.out _ _ ?_
         clear hK K
         refine done_ (done_of HT_.out (by kernel_rfl)) ?_
         try go_wp2
         go_roundg k1
         case measure => have := HK1.out; omega
         case rel => exact ⟨(true), (wrap64 (x8_1 + 1)), (y177), (.slice Ao63 y177.length co63), (by first | rfl | (simp; done) | (simp [*]; done)), (by first | rfl | (simp; done) | (simp [*]; done)), H', ⟨by have := HK1.out; omega⟩, ⟨by (with_reducible repeat (first | apply Kd.V_alloc | apply Kd.V_drewN | apply Kd.V_drew)); exact Kd.V_mono (Kd.V_far (p := ⟨gb167, 1, none⟩) (Kd.V_mono HO_161001.out (fun k_ hk => (⟨hk, hk.1.2.2.2.2.2.2⟩ : _ ∧ k_ ≠ gb167))) (fun _ hk => hk.2) (.slice Ao63 y177.length co63)) (fun _ hk => ⟨hk.1.1.1, ⟨hk.1.1.2.1, ⟨hk.1.2, ⟨hk.1.1.2.2.1, ⟨hk.1.1.2.2.2.1, ⟨hk.1.1.2.2.2.2.1, ⟨hk.1.1.2.2.2.2.2.1, hk.1.1.2.2.2.2.2.2⟩⟩⟩⟩⟩⟩⟩)⟩, ⟨by (with_reducible repeat (first | apply Kd.N_alloc | apply Kd.N_drewN | apply Kd.N_drew)); exact Kd.N_mono (Kd.N_far (p := ⟨gb167, 1, none⟩) (Kd.N_mono HO_167001.out (fun k_ hk => (⟨hk, hk.1.2.2.2.2.2⟩ : _ ∧ k_ ≠ gb167))) (fun _ hk => hk.2) (.slice Ao63 y177.length co63)) (fun _ hk => ⟨hk.1.1.1, ⟨hk.1.2, ⟨hk.1.1.2.1, ⟨hk.1.1.2.2.1, ⟨hk.1.1.2.2.2.1, ⟨hk.1.1.2.2.2.2.1, hk.1.1.2.2.2.2.2⟩⟩⟩⟩⟩⟩)⟩, ⟨by (with_reducible repeat (first | apply Kd.N_alloc | apply Kd.N_drewN | apply Kd.N_drew)); exact Kd.N_mono (Kd.N_far (p := ⟨gb167, 1, none⟩) (Kd.N_mono HO179.out (fun k_ hk => (⟨hk, hk.2.2.2.2.2.2⟩ : _ ∧ k_ ≠ gb167))) (fun _ hk => hk.2) (.slice Ao63 y177.length co63)) (fun _ hk => ⟨hk.1.1, ⟨hk.1.2.1, ⟨hk.1.2.2.1, ⟨hk.1.2.2.2.1, ⟨hk.1.2.2.2.2.1, ⟨hk.1.2.2.2.2.2.1, hk.1.2.2.2.2.2.2⟩⟩⟩⟩⟩⟩)⟩, ⟨by (with_reducible repeat (first | refine blk_drewN ?_ _ | refine blk_drew ?_ | refine blk_alloc ?_ _)); refine blk_far ?_ NB159_167.out _; (with_reducible repeat (first | refine blk_drewN ?_ _ | refine blk_drew ?_ | refine blk_alloc ?_ _)); exact BK159.out⟩, ⟨by (with_reducible repeat (first | refine blk_drewN ?_ _ | refine blk_drew ?_ | refine blk_alloc ?_ _)); refine blk_far ?_ NB160_167.out _; (with_reducible repeat (first | refine blk_drewN ?_ _ | refine blk_drew ?_ | refine blk_alloc ?_ _)); exact BK160.out⟩, ⟨by (with_reducible repeat (first | refine blk_drewN ?_ _ | refine blk_drew ?_ | refine blk_alloc ?_ _)); refine blk_far ?_ NB161_167.out _; (with_reducible repeat (first | refine blk_drewN ?_ _ | refine blk_drew ?_ | refine blk_alloc ?_ _)); exact BK161.out⟩, ⟨by (with_reducible repeat (first | refine blk_drewN ?_ _ | refine blk_drew ?_ | refine blk_alloc ?_ _)); refine blk_far ?_ NB166_167.out _; (with_reducible repeat (first | refine blk_drewN ?_ _ | refine blk_drew ?_ | refine blk_alloc ?_ _)); exact BK166.out⟩, ⟨by (with_reducible repeat (first | refine blk_drewN ?_ _ | refine blk_drew ?_ | refine blk_alloc ?_ _)); refine blk_put (cs := #[.int .i64 a0_0, .slice Ao58 y173.length co58]) ?_ 1 _ rfl; (with_reducible repeat (first | refine blk_drewN ?_ _ | refine blk_drew ?_ | refine blk_alloc ?_ _)); exact BK167.out⟩, ⟨by repeat (first | (with_reducible first | exact HB.out | apply below_alloc | apply pw_below_drewN | apply below_drew1 | refine below_set ?_ GE159.out | refine below_set ?_ GE160.out | refine below_set ?_ GE161.out | refine below_set ?_ GE166.out | refine below_set ?_ GE167.out) | exact HB.out)⟩⟩
        ·rw [if_neg c43] at H
         exact absurd H (by simp)
       ·rw [if_neg c42] at H
        exact absurd H (by simp)
      ·rw [if_neg c41] at H
       have c41b0 : (Op.bytesLess a1_0.toList (((rd_T61 t163 x8_1).f0).toList)) = false := by simpa using c41
       clear c41
       by_cases c65 : x168001_1.length < 2932031007402
       ·rw [if_pos c65] at H
        have LMc65 := Aside0.mk c65
        clear c65
        obtain ⟨y181, hy181⟩ : ∃ y_ : List (S61), y_ = (x168001_1 ++ [(⟨(rd_T61 t163 x8_1).f0, (rd_T61 t163 x8_1).f1, (rd_T61 t163 x8_1).f2⟩ : S61)]) := ⟨_, rfl⟩
        replace H : (dragnetref16_with.l0 k1 false (wrap64 (x8_1 + 1)) a1_0 l1_1 a1_2 t162 t163 a0_0 y181) = some (r1, r2) := by first | (rw [hy181]; with_reducible exact H) | (have H2_ := (Option.bind_some _ _).symm.trans H; rw [hy181]; with_reducible exact H2_) | (have H2_ := (Option.bind_some _ _).symm.trans H; with_reducible exact H2_) | with_reducible exact H | (rw [hy181]; exact H) | exact H
        have Ny181 := Aside0.mk hy181
        clear hy181
        have H' := Aside0.mk H
        clear H
        have hnb66 := NB166_159.out
        have hnc66 := NB159_166.out
        have hnb67 := NB166_160.out
        have hnc67 := NB160_166.out
        have hnb68 := NB166_161.out
        have hnc68 := NB161_166.out
        have hnb69 := NB166_167.out
        have hnc69 := NB167_166.out
        have hcz70_0 : wr.cell? ⟨gb166, 0, none⟩ = some (.int .i64 t162) := (blk_cell BK166.out 0).trans rfl
        have hcz70_1 : wr.cell? ⟨gb166, 1, none⟩ = some (.slice Ao18 t163.length co18) := (blk_cell BK166.out 1).trans rfl
        have hfz70_0 := blk_frozen BK166.out 0
        have hfz70_1 := blk_frozen BK166.out 1
        try go_wp2
        have n0_ := Aside0.mk (Kd.V_drew HO_161001.out)
        have n1_ := Aside0.mk (Kd.N_drew HO_167001.out)
        have n2_ := Aside0.mk (Kd.N_drew HO_168001.out)
        have n3_ := Aside0.mk (blk_drew BK159.out)
        have n4_ := Aside0.mk (blk_drew BK160.out)
        have n5_ := Aside0.mk (blk_drew BK161.out)
        have n6_ := Aside0.mk (blk_drew BK166.out)
        have n7_ := Aside0.mk (blk_drew BK167.out)
        have n8_ := Aside0.mk (below_drew1 HB.out)
        clear HO_161001
        clear HO_167001
        clear HO_168001
        clear BK159
        clear BK160
        clear BK161
        clear BK166
        clear BK167
        clear HB
        have HO_161001 := n0_
        have HO_167001 := n1_
        have HO_168001 := n2_
        have BK159 := n3_
        have BK160 := n4_
        have BK161 := n5_
        have BK166 := n6_
        have BK167 := n7_
        have HB := n8_
        clear n0_ n1_ n2_ n3_ n4_ n5_ n6_ n7_ n8_
        have p168 : 0 ≤ (x8_1 : Int) := of_decide_eq_true (by first | (with_reducible assumption) | assumption)
        have q168 : x8_1 < (t163.length : Int) := of_decide_eq_true (by first | (with_reducible assumption) | assumption)
        obtain ⟨ad168, A168_1, c168_1, e168, hx168_0, hx168_1, hx168_2, hl168_1, hi168_1⟩ := at_T61 (Kd.N_reads' HO_167001.out).2.2 x8_1 p168 q168
        cases e168
        obtain ⟨ce168, hce168, hMe168, hcc168⟩ := Kd.N_get HO_167001.out z61 x8_1 p168 (by first | exact q168 | exact of_decide_eq_true (by first | (with_reducible assumption) | assumption) | (have e_ := (Kd.N_reads' HO_167001.out).1; omega))
        obtain ⟨ua168_1, uc168_1, rfl, ul168_1, ge168_1⟩ := k61_openF hMe168
        have hv168_1 := hcc168 1 _ rfl
        rw [add_field _ _ 1 (by omega)] at hv168_1
        replace hv168_1 := Option.some.inj (hv168_1.symm.trans hx168_1)
        injection hv168_1 with hva_ hvn_ hvc_
        rw [hva_] at ge168_1
        rw [hvc_] at ul168_1
        have HL168_1 := Aside0.mk (show Kd.V (Kd.int .u8) 5 _ w.heap.size _ _ ((rd_T61 t163 x8_1).f1) from Kd.V_mk ul168_1 ge168_1)
        clear hva_ hvn_ hvc_ ge168_1 ul168_1
        clear hcc168 hce168
        have HR168_1 := Aside0.mk hi168_1
        have HC168_1 := Aside0.mk hl168_1
        clear hi168_1 hl168_1
        replace p168 := eq_true p168
        replace q168 := eq_true q168
        refine start_ (n := 13) (S := fun w' => w'.cell? ⟨gb166, 0, none⟩ = some (.int .i64 t162) ∧ w'.cell? ⟨gb166, 1, none⟩ = some (.slice (some ad168) t163.length co18) ∧ w'.cell? ⟨gb160, 0, none⟩ = some (.string a1_0) ∧ w'.cell? ⟨gb160, 1, none⟩ = some (.slice A1_1 l1_1.length c1_1) ∧ w'.cell? ⟨gb160, 2, none⟩ = some (.int .i64 a1_2) ∧ w'.cell? (ad168.add ((x8_1).toNat * 3)) = some (.string ((rd_T61 t163 x8_1).f0)) ∧ w'.cell? ⟨(ad168.add ((x8_1).toNat * 3)).block, (ad168.add ((x8_1).toNat * 3)).off + 1, none⟩ = some (.slice A168_1 ((rd_T61 t163 x8_1).f1).length c168_1) ∧ w'.cell? ⟨(ad168.add ((x8_1).toNat * 3)).block, (ad168.add ((x8_1).toNat * 3)).off + 2, none⟩ = some (.int .i64 ((rd_T61 t163 x8_1).f2))) (ds := []) #[false, false, false, false, false, false, false, false, false, false, false, false, false] (by kernel_rfl) rfl rfl ⟨(blk_cell BK166.out 0).trans rfl, (blk_cell BK166.out 1).trans rfl, (blk_cell BK160.out 0).trans rfl, (blk_cell BK160.out 1).trans rfl, (blk_cell BK160.out 2).trans rfl, hx168_0, hx168_1, hx168_2⟩ (fun hHeld => ?_); refine with_tabW dragnetref16_with.tab7 dragnetref16_with.bits7 (fun HT_ HW_ => ?_)
        generalize wr.drew = w71 at HO_161001 HO_167001 HO_168001 BK159 BK160 BK161 BK166 BK167 HB HL168_1 HR168_1 hx168_0 hx168_1 hx168_2 hHeld ⊢
        refine pure_ (i := 0) (N := some 23) (v := ?_) (a' := ?_) #[true, false, false, false, false, false, false, false, false, false, false, false, false] rfl rfl (any_of HT_.out (by kernel_rfl)) (fun _ _ _ h => h) (Or.inl ⟨by rfl, ?_⟩) ?_ ?_
        rotate_left
        ·intro w'
         go_simp
         with_reducible rfl
        rotate_left
        ·simp only [Act.put, List.setIfInBounds_toArray, List.set_cons_zero, List.set_cons_succ, i64_w, i32_w]
         rfl
        refine pure_ (i := 1) (N := some 24) (v := ?_) (a' := ?_) #[true, true, false, false, false, false, false, false, false, false, false, false, false] rfl rfl (any_of HT_.out (by kernel_rfl)) (fun _ _ _ h => h) (Or.inl ⟨by rfl, ?_⟩) ?_ ?_
        rotate_left
        ·intro w'
         go_simp
         with_reducible rfl
        rotate_left
        ·simp only [Act.put, List.setIfInBounds_toArray, List.set_cons_zero, List.set_cons_succ, i64_w, i32_w]
         rfl
        refine pure_ (i := 2) (N := some 25) (v := ?_) (a' := ?_) #[true, true, true, false, false, false, false, false, false, false, false, false, false] rfl rfl (any_of HT_.out (by kernel_rfl)) (fun _ _ _ h => h) (Or.inl ⟨by rfl, ?_⟩) ?_ ?_
        rotate_left
        ·intro w'
         go_simp
         with_reducible rfl
        rotate_left
        ·simp only [Act.put, List.setIfInBounds_toArray, List.set_cons_zero, List.set_cons_succ, i64_w, i32_w]
         rfl
        refine pure_ (i := 3) (N := some 26) (v := ?_) (a' := ?_) #[true, true, true, true, false, false, false, false, false, false, false, false, false] rfl rfl (any_of HT_.out (by kernel_rfl)) (fun _ _ _ h => h) (Or.inl ⟨by rfl, ?_⟩) ?_ ?_
        rotate_left
        ·intro w'
         go_simp
         with_reducible rfl
        rotate_left
        ·simp only [Act.put, List.setIfInBounds_toArray, List.set_cons_zero, List.set_cons_succ, i64_w, i32_w]
         rfl
        refine pure_ (i := 5) (N := some 28) (v := ?_) (a' := ?_) #[true, true, true, true, false, true, false, false, false, false, false, false, false] rfl rfl (any_of HT_.out (by kernel_rfl)) (fun _ _ _ h => h) (Or.inl ⟨by rfl, ?_⟩) ?_ ?_
        rotate_left
        ·intro w'
         go_simp
         with_reducible rfl
        rotate_left
        ·simp only [Act.put, List.setIfInBounds_toArray, List.set_cons_zero, List.set_cons_succ, i64_w, i32_w]
         rfl
        refine pure_ (i := 9) (N := some 32) (v := ?_) (a' := ?_) #[true, true, true, true, false, true, false, false, false, true, false, false, false] rfl rfl (any_of HT_.out (by kernel_rfl)) (fun _ _ _ h => h) (Or.inl ⟨by rfl, ?_⟩) ?_ ?_
        rotate_left
        ·intro w'
         go_simp
         with_reducible rfl
        rotate_left
        ·simp only [Act.put, List.setIfInBounds_toArray, List.set_cons_zero, List.set_cons_succ, i64_w, i32_w]
         rfl
        refine take_ (i := 4) (N := some 27) (v := ?_) (a' := ?_) #[true, true, true, true, true, true, false, false, false, true, false, false, false] rfl rfl (take_ofW HT_.out HW_.out (by kernel_rfl)) (fun _ _ _ h => h) (Or.inl ⟨by rfl, ?_⟩) hHeld ?_ ?_
        rotate_left
        ·rintro w' ⟨s0, s1, s2, s3, s4, s5, s6, s7⟩
         go_simp
         with_reducible rfl
        rotate_left
        ·simp only [Act.put, List.setIfInBounds_toArray, List.set_cons_zero, List.set_cons_succ, i64_w, i32_w]
         rfl
        refine pure_ (i := 6) (N := some 29) (v := ?_) (a' := ?_) #[true, true, true, true, true, true, true, false, false, true, false, false, false] rfl rfl (any_of HT_.out (by kernel_rfl)) (fun _ _ _ h => h) (Or.inl ⟨by rfl, ?_⟩) ?_ ?_
        rotate_left
        ·intro w'
         go_simp
         with_reducible rfl
        rotate_left
        ·simp only [Act.put, List.setIfInBounds_toArray, List.set_cons_zero, List.set_cons_succ, i64_w, i32_w]
         rfl
        refine pure_ (i := 7) (N := some 30) (v := ?_) (a' := ?_) #[true, true, true, true, true, true, true, true, false, true, false, false, false] rfl rfl (any_of HT_.out (by kernel_rfl)) (fun _ _ _ h => h) (Or.inl ⟨by rfl, ?_⟩) ?_ ?_
        rotate_left
        ·intro w'
         go_simp
         with_reducible rfl
        rotate_left
        ·simp only [Act.put, List.setIfInBounds_toArray, List.set_cons_zero, List.set_cons_succ, i64_w, i32_w]
         rfl
        refine take_ (i := 8) (N := some 31) (v := ?_) (a' := ?_) #[true, true, true, true, true, true, true, true, true, true, false, false, false] rfl rfl (take_ofW HT_.out HW_.out (by kernel_rfl)) (fun _ _ _ h => h) (Or.inl ⟨by rfl, ?_⟩) hHeld ?_ ?_
        rotate_left
        ·rintro w' ⟨s0, s1, s2, s3, s4, s5, s6, s7⟩
         go_simp
         with_reducible rfl
        rotate_left
        ·simp only [Act.put, List.setIfInBounds_toArray, List.set_cons_zero, List.set_cons_succ, i64_w, i32_w]
         rfl
        refine take_ (i := 10) (N := some 33) (v := ?_) (a' := ?_) #[true, true, true, true, true, true, true, true, true, true, true, false, false] rfl rfl (take_ofW HT_.out HW_.out (by kernel_rfl)) (fun _ _ _ h => h) (Or.inl ⟨by rfl, ?_⟩) hHeld ?_ ?_
        rotate_left
        ·rintro w' ⟨s0, s1, s2, s3, s4, s5, s6, s7⟩
         go_simp
         with_reducible rfl
        rotate_left
        ·simp only [Act.put, List.setIfInBounds_toArray, List.set_cons_zero, List.set_cons_succ, i64_w, i32_w]
         rfl
        refine pure_ (i := 11) (N := some 34) (v := ?_) (a' := ?_) #[true, true, true, true, true, true, true, true, true, true, true, true, false] rfl rfl (any_of HT_.out (by kernel_rfl)) (fun _ _ _ h => h) (Or.inl ⟨by rfl, ?_⟩) ?_ ?_
        rotate_left
        ·intro w'
         go_simp
         with_reducible rfl
        rotate_left
        ·simp only [Act.put, List.setIfInBounds_toArray, List.set_cons_zero, List.set_cons_succ, i64_w, i32_w]
         rfl
        refine pure_ (i := 12) (N := some 35) (v := ?_) (a' := ?_) #[true, true, true, true, true, true, true, true, true, true, true, true, true] rfl rfl (any_of HT_.out (by kernel_rfl)) (fun _ _ _ h => h) (Or.inl ⟨by rfl, ?_⟩) ?_ ?_
        rotate_left
        ·intro w'
         go_simp
         with_reducible rfl
        rotate_left
        ·simp only [Act.put, List.setIfInBounds_toArray, List.set_cons_zero, List.set_cons_succ, i64_w, i32_w]
         rfl
        refine done_ (done_of HT_.out (by kernel_rfl)) ?_
        try go_wp2
        have n0_ := Aside0.mk (Kd.V_drew HO_161001.out)
        have n1_ := Aside0.mk (Kd.N_drew HO_167001.out)
        have n2_ := Aside0.mk (Kd.N_drew HO_168001.out)
        have n3_ := Aside0.mk (Kd.V_drew HL168_1.out)
        have n4_ := Aside0.mk (blk_drew BK159.out)
        have n5_ := Aside0.mk (blk_drew BK160.out)
        have n6_ := Aside0.mk (blk_drew BK161.out)
        have n7_ := Aside0.mk (blk_drew BK166.out)
        have n8_ := Aside0.mk (blk_drew BK167.out)
        have n9_ := Aside0.mk (Kd.C_drew HR168_1.out)
        have n10_ := Aside0.mk (below_drew1 HB.out)
        clear HO_161001
        clear HO_167001
        clear HO_168001
        clear HL168_1
        clear BK159
        clear BK160
        clear BK161
        clear BK166
        clear BK167
        clear HR168_1
        clear HB
        have HO_161001 := n0_
        have HO_167001 := n1_
        have HO_168001 := n2_
        have HL168_1 := n3_
        have BK159 := n4_
        have BK160 := n5_
        have BK161 := n6_
        have BK166 := n7_
        have BK167 := n8_
        have HR168_1 := n9_
        have HB := n10_
        clear n0_ n1_ n2_ n3_ n4_ n5_ n6_ n7_ n8_ n9_ n10_
        have p180 : 0 ≤ (x8_1 : Int) := of_decide_eq_true (by first | (with_reducible assumption) | assumption)
        have q180 : x8_1 < (t163.length : Int) := of_decide_eq_true (by first | (with_reducible assumption) | assumption)
        obtain ⟨ad180, A180_1, c180_1, e180, hx180_0, hx180_1, hx180_2, hl180_1, hi180_1⟩ := at_T61 (Kd.N_reads' HO_167001.out).2.2 x8_1 p180 q180
        obtain rfl : ad168 = ad180 := (by injection e180)
        obtain ⟨ce180, hce180, hMe180, hcc180⟩ := Kd.N_get HO_167001.out z61 x8_1 p180 (by first | exact q180 | exact of_decide_eq_true (by first | (with_reducible assumption) | assumption) | (have e_ := (Kd.N_reads' HO_167001.out).1; omega))
        obtain ⟨ua180_1, uc180_1, rfl, ul180_1, ge180_1⟩ := k61_openF hMe180
        have hv180_1 := hcc180 1 _ rfl
        rw [add_field _ _ 1 (by omega)] at hv180_1
        replace hv180_1 := Option.some.inj (hv180_1.symm.trans hx180_1)
        injection hv180_1 with hva_ hvn_ hvc_
        rw [hva_] at ge180_1
        rw [hvc_] at ul180_1
        have HL180_1 := Aside0.mk (show Kd.V (Kd.int .u8) 5 _ w.heap.size _ _ ((rd_T61 t163 x8_1).f1) from Kd.V_mk ul180_1 ge180_1)
        clear hva_ hvn_ hvc_ ge180_1 ul180_1
        clear hcc180 hce180
        have HR180_1 := Aside0.mk hi180_1
        have HC180_1 := Aside0.mk hl180_1
        clear hi180_1 hl180_1
        replace p180 := eq_true p180
        replace q180 := eq_true q180
        refine start_ (n := 11) (S := fun w' => w'.cell? ⟨gb167, 0, none⟩ = some (.int .i64 a0_0) ∧ w'.cell? ⟨gb167, 1, none⟩ = some (u168001) ∧ w'.cell? ⟨gb166, 0, none⟩ = some (.int .i64 t162) ∧ w'.cell? ⟨gb166, 1, none⟩ = some (.slice (some ad168) t163.length co18) ∧ w'.cell? (ad168.add ((x8_1).toNat * 3)) = some (.string ((rd_T61 t163 x8_1).f0)) ∧ w'.cell? ⟨(ad168.add ((x8_1).toNat * 3)).block, (ad168.add ((x8_1).toNat * 3)).off + 1, none⟩ = some (.slice A180_1 ((rd_T61 t163 x8_1).f1).length c180_1) ∧ w'.cell? ⟨(ad168.add ((x8_1).toNat * 3)).block, (ad168.add ((x8_1).toNat * 3)).off + 2, none⟩ = some (.int .i64 ((rd_T61 t163 x8_1).f2))) (ds := [8, 10]) #[false, false, false, false, false, false, false, false, false, false, false] (by kernel_rfl) rfl rfl ⟨(blk_cell BK167.out 0).trans rfl, (blk_cell BK167.out 1).trans rfl, (blk_cell BK166.out 0).trans rfl, (blk_cell BK166.out 1).trans rfl, hx180_0, hx180_1, hx180_2⟩ (fun hHeld => ?_); refine with_tabW dragnetref16_with.tab10 dragnetref16_with.bits10 (fun HT_ HW_ => ?_)
        generalize w71.drew = w72 at HO_161001 HO_167001 HO_168001 HL168_1 BK159 BK160 BK161 BK166 BK167 HR168_1 HB HL180_1 HR180_1 hx180_0 hx180_1 hx180_2 hHeld ⊢
        refine pure_ (i := 0) (N := some 42) (v := ?_) (a' := ?_) #[true, false, false, false, false, false, false, false, false, false, false] rfl rfl (any_of HT_.out (by kernel_rfl)) (fun _ _ _ h => h) (Or.inl ⟨by rfl, ?_⟩) ?_ ?_
        rotate_left
        ·intro w'
         go_simp
         with_reducible rfl
        rotate_left
        ·simp only [Act.put, List.setIfInBounds_toArray, List.set_cons_zero, List.set_cons_succ, i64_w, i32_w]
         rfl
        refine pure_ (i := 2) (N := some 44) (v := ?_) (a' := ?_) #[true, false, true, false, false, false, false, false, false, false, false] rfl rfl (any_of HT_.out (by kernel_rfl)) (fun _ _ _ h => h) (Or.inl ⟨by rfl, ?_⟩) ?_ ?_
        rotate_left
        ·intro w'
         go_simp
         with_reducible rfl
        rotate_left
        ·simp only [Act.put, List.setIfInBounds_toArray, List.set_cons_zero, List.set_cons_succ, i64_w, i32_w]
         rfl
        refine pure_ (i := 4) (N := some 46) (v := ?_) (a' := ?_) #[true, false, true, false, true, false, false, false, false, false, false] rfl rfl (any_of HT_.out (by kernel_rfl)) (fun _ _ _ h => h) (Or.inl ⟨by rfl, ?_⟩) ?_ ?_
        rotate_left
        ·intro w'
         go_simp
         with_reducible rfl
        rotate_left
        ·simp only [Act.put, List.setIfInBounds_toArray, List.set_cons_zero, List.set_cons_succ, i64_w, i32_w]
         rfl
        refine take_ (i := 1) (N := some 43) (v := ?_) (a' := ?_) #[true, true, true, false, true, false, false, false, false, false, false] rfl rfl (take_ofW HT_.out HW_.out (by kernel_rfl)) (fun _ _ _ h => h) (Or.inl ⟨by rfl, ?_⟩) hHeld ?_ ?_
        rotate_left
        ·rintro w' ⟨s0, s1, s2, s3, s4, s5, s6⟩
         go_simp
         with_reducible rfl
        rotate_left
        ·simp only [Act.put, List.setIfInBounds_toArray, List.set_cons_zero, List.set_cons_succ, i64_w, i32_w]
         rfl
        refine take_ (i := 3) (N := some 45) (v := ?_) (a' := ?_) #[true, true, true, true, true, false, false, false, false, false, false] rfl rfl (take_ofW HT_.out HW_.out (by kernel_rfl)) (fun _ _ _ h => h) (Or.inl ⟨by rfl, ?_⟩) hHeld ?_ ?_
        rotate_left
        ·rintro w' ⟨s0, s1, s2, s3, s4, s5, s6⟩
         go_simp
         with_reducible rfl
        rotate_left
        ·simp only [Act.put, List.setIfInBounds_toArray, List.set_cons_zero, List.set_cons_succ, i64_w, i32_w]
         rfl
        refine pure_ (i := 5) (N := some 47) (v := ?_) (a' := ?_) #[true, true, true, true, true, true, false, false, false, false, false] rfl rfl (any_of HT_.out (by kernel_rfl)) (fun _ _ _ h => h) (Or.inl ⟨by rfl, ?_⟩) ?_ ?_
        rotate_left
        ·intro w'
         go_simp
         with_reducible rfl
        rotate_left
        ·simp only [Act.put, List.setIfInBounds_toArray, List.set_cons_zero, List.set_cons_succ, i64_w, i32_w]
         rfl
        refine take_ (i := 6) (N := some 48) (v := ?_) (a' := ?_) #[true, true, true, true, true, true, true, false, false, false, false] rfl rfl (take_ofW HT_.out HW_.out (by kernel_rfl)) (fun _ _ _ h => h) (Or.inl ⟨by rfl, ?_⟩) hHeld ?_ ?_
        rotate_left
        ·rintro w' ⟨s0, s1, s2, s3, s4, s5, s6⟩
         go_simp
         with_reducible rfl
        rotate_left
        ·simp only [Act.put, List.setIfInBounds_toArray, List.set_cons_zero, List.set_cons_succ, i64_w, i32_w]
         rfl
        refine one_ (i := 7) (N := some 49) #[true, true, true, true, true, true, true, true, false, false, false] rfl rfl (one_of HT_.out (by kernel_rfl)) (by decide) (fun K hK => ?_)
        refine value_ (w1 := ?_) (v := ?_) (by rfl) rfl ?_ ?_
        rotate_left 2
        ·go_simp
         constructor
         ·rfl
         ·rfl
        refine hK.out _ _ ⟨(blk_cell (blk_alloc BK167.out _) 0).trans rfl, (blk_cell (blk_alloc BK167.out _) 1).trans rfl, (blk_cell (blk_alloc BK166.out _) 0).trans rfl, (blk_cell (blk_alloc BK166.out _) 1).trans rfl, (World.cell?_alloc_lt _ _ _ (World.block_lt_of_cell? _ _ (hHeld.2.2.2.2.1))).trans (hHeld.2.2.2.2.1), (World.cell?_alloc_lt _ _ _ (World.block_lt_of_cell? _ _ (hHeld.2.2.2.2.2.1))).trans (hHeld.2.2.2.2.2.1), (World.cell?_alloc_lt _ _ _ (World.block_lt_of_cell? _ _ (hHeld.2.2.2.2.2.2))).trans (hHeld.2.2.2.2.2.2)⟩ (fun hHeld => ?_)
        clear hK K
        refine norm_ (a' := ?_) ?_ ?_
        rotate_left
        ·show Act.put _ (some 49) _ = _
         simp only [Act.put, List.setIfInBounds_toArray, List.set_cons_zero, List.set_cons_succ, i64_w, i32_w]
         rfl
        refine last_ (i := 8) (N := some 50) #[true, true, true, true, true, true, true, true, true, false, false] rfl rfl (one_of HT_.out (by kernel_rfl)) (by decide) (fun K hK => ?_)
        refine Kd.N_append_step k61 (w0 := w) w.heap.size (by rfl) (.tmp 43) (.tmp 49) 22 61 (.agg #[(.string ⟨#[]⟩), (.slice none 0 0), (.int .i64 0)]) 48 rfl Try.underlying22 info61 rfl (by decide) (by omega) u168001 x168001_1 (⟨(rd_T61 t163 x8_1).f0, (rd_T61 t163 x8_1).f1, (rd_T61 t163 x8_1).f2⟩ : S61) [.string ((rd_T61 t163 x8_1).f0), .slice A180_1 ((rd_T61 t163 x8_1).f1).length c180_1, .int .i64 ((rd_T61 t163 x8_1).f2)] (fun k_ => (P1_1_ k_ ∨ w.heap.size ≤ k_) ∧ some k_ ≠ (.slice (some ad168) t163.length co18 : Value).ownBlock ∧ k_ ≠ gb159 ∧ k_ ≠ gb160 ∧ k_ ≠ gb161 ∧ k_ ≠ gb166 ∧ k_ ≠ gb167) (fun k_ => ((fun k_ => (P1_1_ k_ ∨ w.heap.size ≤ k_) ∧ some k_ ≠ (.slice (some ad168) t163.length co18 : Value).ownBlock ∧ k_ ≠ gb159 ∧ k_ ≠ gb160 ∧ k_ ≠ gb161 ∧ k_ ≠ gb166 ∧ k_ ≠ gb167)) k_ ∧ some k_ ≠ (u168001 : Value).ownBlock) rfl rfl ?aP (fun _ hk => hk) ?aF ?aO ?aB ?aS ?aL ?_
        (case aP => exact (k61_mkF _ _ (⟨(rd_T61 t163 x8_1).f0, (rd_T61 t163 x8_1).f1, (rd_T61 t163 x8_1).f2⟩ : S61) (Kd.V_reads' (Kd.V_mono (ok' := (fun k_ => ((fun k_ => (P1_1_ k_ ∨ w.heap.size ≤ k_) ∧ some k_ ≠ (.slice (some ad168) t163.length co18 : Value).ownBlock ∧ k_ ≠ gb159 ∧ k_ ≠ gb160 ∧ k_ ≠ gb161 ∧ k_ ≠ gb166 ∧ k_ ≠ gb167)) k_ ∧ some k_ ≠ (u168001 : Value).ownBlock)) (HL180_1.out) (fun k_ hk => ⟨⟨hk.1.1, ⟨hk.2, ⟨hk.1.2.2.1, ⟨hk.1.2.2.2.1, ⟨hk.1.2.2.2.2.1, ⟨hk.1.2.2.2.2.2.1, hk.1.2.2.2.2.2.2⟩⟩⟩⟩⟩⟩, hk.1.2.1⟩))).2.1 (Kd.V_F (Kd.V_mono (ok' := (fun k_ => ((fun k_ => (P1_1_ k_ ∨ w.heap.size ≤ k_) ∧ some k_ ≠ (.slice (some ad168) t163.length co18 : Value).ownBlock ∧ k_ ≠ gb159 ∧ k_ ≠ gb160 ∧ k_ ≠ gb161 ∧ k_ ≠ gb166 ∧ k_ ≠ gb167)) k_ ∧ some k_ ≠ (u168001 : Value).ownBlock)) (HL180_1.out) (fun k_ hk => ⟨⟨hk.1.1, ⟨hk.2, ⟨hk.1.2.2.1, ⟨hk.1.2.2.2.1, ⟨hk.1.2.2.2.2.1, ⟨hk.1.2.2.2.2.2.1, hk.1.2.2.2.2.2.2⟩⟩⟩⟩⟩⟩, hk.1.2.1⟩)))))
        (case aB => exact (by repeat (first | (with_reducible first | exact HB.out | apply below_alloc | apply pw_below_drewN | apply below_drew1 | refine below_set ?_ GE159.out | refine below_set ?_ GE160.out | refine below_set ?_ GE161.out | refine below_set ?_ GE166.out | refine below_set ?_ GE167.out) | exact HB.out)))
        (case aF => exact (fun k_ hk => ⟨(.inr (Nat.le_trans (below_size (by repeat (first | (with_reducible first | exact HB.out | apply below_alloc | apply pw_below_drewN | apply below_drew1 | refine below_set ?_ GE159.out | refine below_set ?_ GE160.out | refine below_set ?_ GE161.out | refine below_set ?_ GE166.out | refine below_set ?_ GE167.out) | exact HB.out))) hk)), Kd.fresh' (Kd.N_lt (by (with_reducible repeat (first | apply Kd.N_alloc | apply Kd.N_drewN | apply Kd.N_drew)); exact HO_167001.out)) k_ hk, Kd.freshB (g := gb159) (o := .cells #[.int .i64 a0_0, .slice A0_1 l0_1.length c0_1] 24 (0, 0)) (by (with_reducible repeat (first | refine blk_drewN ?_ _ | refine blk_drew ?_ | refine blk_alloc ?_ _)); exact BK159.out) k_ hk, Kd.freshB (g := gb160) (o := .cells #[.string a1_0, .slice A1_1 l1_1.length c1_1, .int .i64 a1_2] 61 (0, 0)) (by (with_reducible repeat (first | refine blk_drewN ?_ _ | refine blk_drew ?_ | refine blk_alloc ?_ _)); exact BK160.out) k_ hk, Kd.freshB (g := gb161) (o := .cells #[.int .i64 0, .slice none 0 0] 24 (0, 0)) (by (with_reducible repeat (first | refine blk_drewN ?_ _ | refine blk_drew ?_ | refine blk_alloc ?_ _)); exact BK161.out) k_ hk, Kd.freshB (g := gb166) (o := .cells #[.int .i64 t162, .slice (some ad168) t163.length co18] 24 (0, 0)) (by (with_reducible repeat (first | refine blk_drewN ?_ _ | refine blk_drew ?_ | refine blk_alloc ?_ _)); exact BK166.out) k_ hk, Kd.freshB (g := gb167) (o := .cells #[.int .i64 a0_0, u168001] 24 (0, 0)) (by (with_reducible repeat (first | refine blk_drewN ?_ _ | refine blk_drew ?_ | refine blk_alloc ?_ _)); exact BK167.out) k_ hk⟩))
        (case aO => exact (by (with_reducible repeat (first | apply Kd.N_alloc | apply Kd.N_drewN | apply Kd.N_drew)); exact HO_168001.out))
        (case aS => exact (below_size (by repeat (first | (with_reducible first | exact HB.out | apply below_alloc | apply pw_below_drewN | apply below_drew1 | refine below_set ?_ GE159.out | refine below_set ?_ GE160.out | refine below_set ?_ GE161.out | refine below_set ?_ GE166.out | refine below_set ?_ GE167.out) | exact HB.out))))
        (case aL => have := LMc65.out; omega)
        intro v182 w73 ho hb hg hat
        rw [← Ny181.out] at ho
        have n0_ := Aside0.mk (Kd.V_afterv (ok := (fun k_ => (P1_1_ k_ ∨ w.heap.size ≤ k_) ∧ some k_ ≠ (.slice (some ad168) t163.length co18 : Value).ownBlock ∧ k_ ≠ gb159 ∧ k_ ≠ gb160 ∧ k_ ≠ gb161 ∧ k_ ≠ gb166 ∧ k_ ≠ gb167)) (by (with_reducible repeat (first | apply Kd.V_alloc | apply Kd.V_drewN | apply Kd.V_drew)); exact Kd.V_mono HO_161001.out (fun _ hk => ⟨⟨hk.1, ⟨hk.2.1, ⟨hk.2.2.2.1, ⟨hk.2.2.2.2.1, ⟨hk.2.2.2.2.2.1, ⟨hk.2.2.2.2.2.2.1, hk.2.2.2.2.2.2.2⟩⟩⟩⟩⟩⟩, hk.2.2.1⟩)) hg hat)
        have n1_ := Aside0.mk (Kd.N_afterv (ok := (fun k_ => (P1_1_ k_ ∨ w.heap.size ≤ k_) ∧ k_ ≠ gb159 ∧ k_ ≠ gb160 ∧ k_ ≠ gb161 ∧ k_ ≠ gb166 ∧ k_ ≠ gb167)) (by (with_reducible repeat (first | apply Kd.N_alloc | apply Kd.N_drewN | apply Kd.N_drew)); exact Kd.N_mono HO_167001.out (fun _ hk => ⟨⟨hk.1, ⟨hk.2.2.1, ⟨hk.2.2.2.1, ⟨hk.2.2.2.2.1, ⟨hk.2.2.2.2.2.1, hk.2.2.2.2.2.2⟩⟩⟩⟩⟩, hk.2.1⟩)) hg hat)
        have n2_ := Aside0.mk (blk_grown (g := gb159) (o := .cells #[.int .i64 a0_0, .slice A0_1 l0_1.length c0_1] 24 (0, 0)) (by (with_reducible repeat (first | refine blk_drewN ?_ _ | refine blk_drew ?_ | refine blk_alloc ?_ _)); exact BK159.out) hg (Kd.N_ne HO_168001.out BK159.out (by decide)))
        have n3_ := Aside0.mk (blk_grown (g := gb160) (o := .cells #[.string a1_0, .slice A1_1 l1_1.length c1_1, .int .i64 a1_2] 61 (0, 0)) (by (with_reducible repeat (first | refine blk_drewN ?_ _ | refine blk_drew ?_ | refine blk_alloc ?_ _)); exact BK160.out) hg (Kd.N_away HO_168001.out (fun _ hk => hk.2.2.2.1)))
        have n4_ := Aside0.mk (blk_grown (g := gb161) (o := .cells #[.int .i64 0, .slice none 0 0] 24 (0, 0)) (by (with_reducible repeat (first | refine blk_drewN ?_ _ | refine blk_drew ?_ | refine blk_alloc ?_ _)); exact BK161.out) hg (Kd.N_ne HO_168001.out BK161.out (by decide)))
        have n5_ := Aside0.mk (blk_grown (g := gb166) (o := .cells #[.int .i64 t162, .slice (some ad168) t163.length co18] 24 (0, 0)) (by (with_reducible repeat (first | refine blk_drewN ?_ _ | refine blk_drew ?_ | refine blk_alloc ?_ _)); exact BK166.out) hg (Kd.N_ne HO_168001.out BK166.out (by decide)))
        have n6_ := Aside0.mk (blk_grown (g := gb167) (o := .cells #[.int .i64 a0_0, u168001] 24 (0, 0)) (by (with_reducible repeat (first | refine blk_drewN ?_ _ | refine blk_drew ?_ | refine blk_alloc ?_ _)); exact BK167.out) hg (Kd.N_ne HO_168001.out BK167.out (by decide)))
        have n7_ := Aside0.mk (Kd.V_afterv (ok := (fun k_ => (P1_1_ k_ ∨ w.heap.size ≤ k_) ∧ some k_ ≠ (.slice (some ad168) t163.length co18 : Value).ownBlock ∧ k_ ≠ gb159 ∧ k_ ≠ gb160 ∧ k_ ≠ gb161 ∧ k_ ≠ gb166 ∧ k_ ≠ gb167)) (by (with_reducible repeat (first | apply Kd.V_alloc | apply Kd.V_drewN | apply Kd.V_drew)); exact Kd.V_mono HL168_1.out (fun _ hk => ⟨⟨hk.1.1, ⟨hk.2, ⟨hk.1.2.2.1, ⟨hk.1.2.2.2.1, ⟨hk.1.2.2.2.2.1, ⟨hk.1.2.2.2.2.2.1, hk.1.2.2.2.2.2.2⟩⟩⟩⟩⟩⟩, hk.1.2.1⟩)) hg hat)
        have n8_ := Aside0.mk (Kd.V_afterv (ok := (fun k_ => (P1_1_ k_ ∨ w.heap.size ≤ k_) ∧ some k_ ≠ (.slice (some ad168) t163.length co18 : Value).ownBlock ∧ k_ ≠ gb159 ∧ k_ ≠ gb160 ∧ k_ ≠ gb161 ∧ k_ ≠ gb166 ∧ k_ ≠ gb167)) (by (with_reducible repeat (first | apply Kd.V_alloc | apply Kd.V_drewN | apply Kd.V_drew)); exact Kd.V_mono HL180_1.out (fun _ hk => ⟨⟨hk.1.1, ⟨hk.2, ⟨hk.1.2.2.1, ⟨hk.1.2.2.2.1, ⟨hk.1.2.2.2.2.1, ⟨hk.1.2.2.2.2.2.1, hk.1.2.2.2.2.2.2⟩⟩⟩⟩⟩⟩, hk.1.2.1⟩)) hg hat)
        have n9_ := Aside0.mk (hb)
        have n10_ := Aside0.mk (ho)
        clear HO_161001
        clear HO_167001
        clear BK159
        clear BK160
        clear BK161
        clear BK166
        clear BK167
        clear HL168_1
        clear HL180_1
        clear HB
        clear HO_168001
        have HO_161001 := n0_
        have HO_167001 := n1_
        have BK159 := n2_
        have BK160 := n3_
        have BK161 := n4_
        have BK166 := n5_
        have BK167 := n6_
        have HL168_1 := n7_
        have HL180_1 := n8_
        have HB := n9_
        have HO183 := n10_
        clear n0_ n1_ n2_ n3_ n4_ n5_ n6_ n7_ n8_ n9_ n10_
        clear ho hb hg hat
        obtain ⟨Ao74, co74, eo74⟩ := Kd.N_slice HO183.out
        (first | subst eo74 | (injection eo74 with f1_ f2_ f3_; have f4_ := f1_.symm; have f5_ := f3_.symm; clear f1_ f2_ f3_; subst f4_; subst f5_))
        refine hK.out _ _ ?_
        clear hK K
        refine norm_ (a' := ?_) ?_ ?_
        rotate_left
        ·show Act.put _ (some 50) _ = _
         simp only [Act.put, List.setIfInBounds_toArray, List.set_cons_zero, List.set_cons_succ, i64_w, i32_w]
         rfl
        refine pure_ (i := 9) (N := some 51) (v := ?_) (a' := ?_) #[true, true, true, true, true, true, true, true, true, true, false] rfl rfl (any_of HT_.out (by kernel_rfl)) (fun _ _ _ h => h) (Or.inl ⟨by rfl, ?_⟩) ?_ ?_
        rotate_left
        ·intro w'
         go_simp
         with_reducible rfl
        rotate_left
        ·simp only [Act.put, List.setIfInBounds_toArray, List.set_cons_zero, List.set_cons_succ, i64_w, i32_w]
         rfl
        refine last_ (i := 10) (N := none) #[true, true, true, true, true, true, true, true, true, true, true] rfl rfl (one_of HT_.out (by kernel_rfl)) (by decide) (fun K hK => ?_)
        have hs75 : w73.cell? ⟨gb167, 1, none⟩ = some (u168001) := (blk_cell BK167.out 1).trans rfl
        have hfs75 := blk_frozen BK167.out 1
        have hns75_0 := NB159_167.out
        have hns75_1 := NB160_167.out
        have hns75_2 := NB161_167.out
        have hns75_3 := NB166_167.out
        have hms75_0 := NB167_159.out
        have hms75_1 := NB167_160.out
        have hms75_2 := NB167_161.out
        have hms75_3 := NB167_166.out
        refine skip_ (w1 := ?_) (by rfl) rfl ?_ ?_
        rotate_left
        ·go_simp
         rfl
        refine hK.out _ _ ?_
        clear hK K
        refine done_ (done_of HT_.out (by kernel_rfl)) ?_
        try go_wp2
        go_roundg k1
        case measure => have := HK1.out; omega
        case rel => exact ⟨(false), (wrap64 (x8_1 + 1)), (y181), (.slice Ao74 y181.length co74), (by first | rfl | (simp; done) | (simp [*]; done)), (by first | rfl | (simp; done) | (simp [*]; done)), H', ⟨by have := HK1.out; omega⟩, ⟨by (with_reducible repeat (first | apply Kd.V_alloc | apply Kd.V_drewN | apply Kd.V_drew)); exact Kd.V_mono (Kd.V_far (p := ⟨gb167, 1, none⟩) (Kd.V_mono HO_161001.out (fun k_ hk => (⟨hk, hk.1.2.2.2.2.2.2⟩ : _ ∧ k_ ≠ gb167))) (fun _ hk => hk.2) (.slice Ao74 y181.length co74)) (fun _ hk => ⟨hk.1.1.1, ⟨hk.1.1.2.1, ⟨hk.1.2, ⟨hk.1.1.2.2.1, ⟨hk.1.1.2.2.2.1, ⟨hk.1.1.2.2.2.2.1, ⟨hk.1.1.2.2.2.2.2.1, hk.1.1.2.2.2.2.2.2⟩⟩⟩⟩⟩⟩⟩)⟩, ⟨by (with_reducible repeat (first | apply Kd.N_alloc | apply Kd.N_drewN | apply Kd.N_drew)); exact Kd.N_mono (Kd.N_far (p := ⟨gb167, 1, none⟩) (Kd.N_mono HO_167001.out (fun k_ hk => (⟨hk, hk.1.2.2.2.2.2⟩ : _ ∧ k_ ≠ gb167))) (fun _ hk => hk.2) (.slice Ao74 y181.length co74)) (fun _ hk => ⟨hk.1.1.1, ⟨hk.1.2, ⟨hk.1.1.2.1, ⟨hk.1.1.2.2.1, ⟨hk.1.1.2.2.2.1, ⟨hk.1.1.2.2.2.2.1, hk.1.1.2.2.2.2.2⟩⟩⟩⟩⟩⟩)⟩, ⟨by (with_reducible repeat (first | apply Kd.N_alloc | apply Kd.N_drewN | apply Kd.N_drew)); exact Kd.N_mono (Kd.N_far (p := ⟨gb167, 1, none⟩) (Kd.N_mono HO183.out (fun k_ hk => (⟨hk, hk.2.2.2.2.2.2⟩ : _ ∧ k_ ≠ gb167))) (fun _ hk => hk.2) (.slice Ao74 y181.length co74)) (fun _ hk => ⟨hk.1.1, ⟨hk.1.2.1, ⟨hk.1.2.2.1, ⟨hk.1.2.2.2.1, ⟨hk.1.2.2.2.2.1, ⟨hk.1.2.2.2.2.2.1, hk.1.2.2.2.2.2.2⟩⟩⟩⟩⟩⟩)⟩, ⟨by (with_reducible repeat (first | refine blk_drewN ?_ _ | refine blk_drew ?_ | refine blk_alloc ?_ _)); refine blk_far ?_ NB159_167.out _; (with_reducible repeat (first | refine blk_drewN ?_ _ | refine blk_drew ?_ | refine blk_alloc ?_ _)); exact BK159.out⟩, ⟨by (with_reducible repeat (first | refine blk_drewN ?_ _ | refine blk_drew ?_ | refine blk_alloc ?_ _)); refine blk_far ?_ NB160_167.out _; (with_reducible repeat (first | refine blk_drewN ?_ _ | refine blk_drew ?_ | refine blk_alloc ?_ _)); exact BK160.out⟩, ⟨by (with_reducible repeat (first | refine blk_drewN ?_ _ | refine blk_drew ?_ | refine blk_alloc ?_ _)); refine blk_far ?_ NB161_167.out _; (with_reducible repeat (first | refine blk_drewN ?_ _ | refine blk_drew ?_ | refine blk_alloc ?_ _)); exact BK161.out⟩, ⟨by (with_reducible repeat (first | refine blk_drewN ?_ _ | refine blk_drew ?_ | refine blk_alloc ?_ _)); refine blk_far ?_ NB166_167.out _; (with_reducible repeat (first | refine blk_drewN ?_ _ | refine blk_drew ?_ | refine blk_alloc ?_ _)); exact BK166.out⟩, ⟨by (with_reducible repeat (first | refine blk_drewN ?_ _ | refine blk_drew ?_ | refine blk_alloc ?_ _)); refine blk_put (cs := #[.int .i64 a0_0, u168001]) ?_ 1 _ rfl; (with_reducible repeat (first | refine blk_drewN ?_ _ | refine blk_drew ?_ | refine blk_alloc ?_ _)); exact BK167.out⟩, ⟨by repeat (first | (with_reducible first | exact HB.out | apply below_alloc | apply pw_below_drewN | apply below_drew1 | refine below_set ?_ GE159.out | refine below_set ?_ GE160.out | refine below_set ?_ GE161.out | refine below_set ?_ GE166.out | refine below_set ?_ GE167.out) | exact HB.out)⟩⟩
       ·rw [if_neg c65] at H
        exact absurd H (by simp)
     ·rw [if_neg c40] at H
      exact absurd H (by simp)
   ·rw [if_neg c26] at H
    have c26b0 : decide (x8_1 < (t163.length : Int)) = false := decide_eq_false c26
    clear c26
    by_cases c76 : x7_1 = true
    ·subst c76
     have H1 : (some (a0_0, x168001_1)) = some (r1, r2) := by rw [if_pos rfl] at H; exact H
     clear H
     have H := H1
     clear H1
     simp only [Option.some.injEq, Prod.mk.injEq] at H
     obtain ⟨rfl, rfl⟩ := H
     have hnb77 := NB166_159.out
     have hnc77 := NB159_166.out
     have hnb78 := NB166_160.out
     have hnc78 := NB160_166.out
     have hnb79 := NB166_161.out
     have hnc79 := NB161_166.out
     have hnb80 := NB166_167.out
     have hnc80 := NB167_166.out
     have hcz81_0 : wr.cell? ⟨gb166, 0, none⟩ = some (.int .i64 t162) := (blk_cell BK166.out 0).trans rfl
     have hcz81_1 : wr.cell? ⟨gb166, 1, none⟩ = some (.slice Ao18 t163.length co18) := (blk_cell BK166.out 1).trans rfl
     have hfz81_0 := blk_frozen BK166.out 0
     have hfz81_1 := blk_frozen BK166.out 1
     have hnb82 := NB167_159.out
     have hnc82 := NB159_167.out
     have hnb83 := NB167_160.out
     have hnc83 := NB160_167.out
     have hnb84 := NB167_161.out
     have hnc84 := NB161_167.out
     have hcz85_0 : wr.cell? ⟨gb167, 0, none⟩ = some (.int .i64 a0_0) := (blk_cell BK167.out 0).trans rfl
     have hcz85_1 : wr.cell? ⟨gb167, 1, none⟩ = some (u168001) := (blk_cell BK167.out 1).trans rfl
     have hfz85_0 := blk_frozen BK167.out 0
     have hfz85_1 := blk_frozen BK167.out 1
     have hnb86 := NB161_159.out
     have hnc86 := NB159_161.out
     have hnb87 := NB161_160.out
     have hnc87 := NB160_161.out
     have hcz88_0 : wr.cell? ⟨gb161, 0, none⟩ = some (.int .i64 0) := (blk_cell BK161.out 0).trans rfl
     have hcz88_1 : wr.cell? ⟨gb161, 1, none⟩ = some (.slice none 0 0) := (blk_cell BK161.out 1).trans rfl
     have hfz88_0 := blk_frozen BK161.out 0
     have hfz88_1 := blk_frozen BK161.out 1
     obtain ⟨Ao89, co89, eo89⟩ := Kd.N_slice HO_168001.out
     subst eo89
     go_wp2
     refine bodyPost_ret (results_cell_row rfl _ _ gb161 24 #[.int .i64 a0_0, .slice Ao89 x168001_1.length co89] (0, 0) _ rfl (by (with_reducible repeat (first | refine blk_drewN ?_ _ | refine blk_drew ?_ | refine blk_alloc ?_ _)); refine blk_put (cs := #[.int .i64 a0_0, .slice none 0 0]) ?_ 1 _ rfl; (with_reducible repeat (first | refine blk_drewN ?_ _ | refine blk_drew ?_ | refine blk_alloc ?_ _)); refine blk_put (cs := #[.int .i64 0, .slice none 0 0]) ?_ 0 _ rfl; (with_reducible repeat (first | refine blk_drewN ?_ _ | refine blk_drew ?_ | refine blk_alloc ?_ _)); exact BK161.out) Try.underlying24 rfl (by kernel_rfl)) rfl ?_
     exact ⟨_, by first | rfl | (simp [errW_none, errW_some] <;> rfl) | (simp [*, errW_none, errW_some] <;> rfl), by (with_reducible repeat (first | apply Kd.N_alloc | apply Kd.N_drewN | apply Kd.N_drew)); exact Kd.N_mono (Kd.N_far (p := ⟨gb161, 1, none⟩) (Kd.N_far (p := ⟨gb161, 0, none⟩) (Kd.N_mono HO_168001.out (fun k_ hk => (⟨hk, hk.2.2.2.2.1⟩ : _ ∧ k_ ≠ gb161))) (fun _ hk => hk.2) (.int .i64 a0_0)) (fun _ hk => hk.2) (.slice Ao89 x168001_1.length co89)) (fun _ hk => hk.1.1), by repeat (first | (with_reducible first | exact HB.out | apply below_alloc | apply pw_below_drewN | apply below_drew1 | refine below_set ?_ GE159.out | refine below_set ?_ GE160.out | refine below_set ?_ GE161.out | refine below_set ?_ GE166.out | refine below_set ?_ GE167.out) | exact HB.out)⟩
    ·replace c76 := Bool.eq_false_iff.mpr c76
     subst c76
     have H1 : (if x168001_1.length < 2932031007402 then (some (a0_0, (x168001_1 ++ [(⟨a1_0, l1_1, a1_2⟩ : S61)]))) else (none)) = some (r1, r2) := by rw [if_neg (show ¬ (false = true) by decide)] at H; exact H
     clear H
     have H := H1
     clear H1
     by_cases c90 : x168001_1.length < 2932031007402
     ·rw [if_pos c90] at H
      have LMc90 := Aside0.mk c90
      clear c90
      obtain ⟨y184, hy184⟩ : ∃ y_ : List (S61), y_ = (x168001_1 ++ [(⟨a1_0, l1_1, a1_2⟩ : S61)]) := ⟨_, rfl⟩
      replace H : (some (a0_0, y184)) = some (r1, r2) := by first | (rw [hy184]; with_reducible exact H) | (have H2_ := (Option.bind_some _ _).symm.trans H; rw [hy184]; with_reducible exact H2_) | (have H2_ := (Option.bind_some _ _).symm.trans H; with_reducible exact H2_) | with_reducible exact H | (rw [hy184]; exact H) | exact H
      have Ny184 := Aside0.mk hy184
      clear hy184
      simp only [Option.some.injEq, Prod.mk.injEq] at H
      obtain ⟨rfl, rfl⟩ := H
      have hnb91 := NB166_159.out
      have hnc91 := NB159_166.out
      have hnb92 := NB166_160.out
      have hnc92 := NB160_166.out
      have hnb93 := NB166_161.out
      have hnc93 := NB161_166.out
      have hnb94 := NB166_167.out
      have hnc94 := NB167_166.out
      have hcz95_0 : wr.cell? ⟨gb166, 0, none⟩ = some (.int .i64 t162) := (blk_cell BK166.out 0).trans rfl
      have hcz95_1 : wr.cell? ⟨gb166, 1, none⟩ = some (.slice Ao18 t163.length co18) := (blk_cell BK166.out 1).trans rfl
      have hfz95_0 := blk_frozen BK166.out 0
      have hfz95_1 := blk_frozen BK166.out 1
      have hnb96 := NB167_159.out
      have hnc96 := NB159_167.out
      have hnb97 := NB167_160.out
      have hnc97 := NB160_167.out
      have hnb98 := NB167_161.out
      have hnc98 := NB161_167.out
      have hcz99_0 : wr.cell? ⟨gb167, 0, none⟩ = some (.int .i64 a0_0) := (blk_cell BK167.out 0).trans rfl
      have hcz99_1 : wr.cell? ⟨gb167, 1, none⟩ = some (u168001) := (blk_cell BK167.out 1).trans rfl
      have hfz99_0 := blk_frozen BK167.out 0
      have hfz99_1 := blk_frozen BK167.out 1
      have hnb100 := NB160_159.out
      have hnc100 := NB159_160.out
      have hnb101 := NB160_161.out
      have hnc101 := NB161_160.out
      have hcz102_0 : wr.cell? ⟨gb160, 0, none⟩ = some (.string a1_0) := (blk_cell BK160.out 0).trans rfl
      have hcz102_1 : wr.cell? ⟨gb160, 1, none⟩ = some (.slice A1_1 l1_1.length c1_1) := (blk_cell BK160.out 1).trans rfl
      have hcz102_2 : wr.cell? ⟨gb160, 2, none⟩ = some (.int .i64 a1_2) := (blk_cell BK160.out 2).trans rfl
      have hfz102_0 := blk_frozen BK160.out 0
      have hfz102_1 := blk_frozen BK160.out 1
      have hfz102_2 := blk_frozen BK160.out 2
      go_wp2_with (first | ((with_reducible refine gate_builtin (b := .append) (xs := #[.tmp 55, .tmp 57]) rfl ?_); at_builtin; refine Kd.N_append k61 (w0 := w) w.heap.size rfl (.tmp 55) (.tmp 57) 22 61 (.agg #[(.string ⟨#[]⟩), (.slice none 0 0), (.int .i64 0)]) 48 rfl Try.underlying22 info61 rfl (by decide) (by omega) u168001 x168001_1 (⟨a1_0, l1_1, a1_2⟩ : S61) [.string a1_0, .slice A1_1 l1_1.length c1_1, .int .i64 a1_2] (fun k_ => (P1_1_ k_ ∨ w.heap.size ≤ k_) ∧ some k_ ≠ (.slice Ao18 t163.length co18 : Value).ownBlock ∧ k_ ≠ gb159 ∧ k_ ≠ gb160 ∧ k_ ≠ gb161 ∧ k_ ≠ gb166 ∧ k_ ≠ gb167) (fun k_ => ((fun k_ => (P1_1_ k_ ∨ w.heap.size ≤ k_) ∧ some k_ ≠ (.slice Ao18 t163.length co18 : Value).ownBlock ∧ k_ ≠ gb159 ∧ k_ ≠ gb160 ∧ k_ ≠ gb161 ∧ k_ ≠ gb166 ∧ k_ ≠ gb167)) k_ ∧ some k_ ≠ (u168001 : Value).ownBlock) rfl rfl ?aP (fun _ hk => hk) ?aF ?aO ?aB ?aS ?aL ?_; (case aP => exact (k61_mkF _ _ (⟨a1_0, l1_1, a1_2⟩ : S61) (Kd.V_reads' (Kd.V_mono (ok' := (fun k_ => ((fun k_ => (P1_1_ k_ ∨ w.heap.size ≤ k_) ∧ some k_ ≠ (.slice Ao18 t163.length co18 : Value).ownBlock ∧ k_ ≠ gb159 ∧ k_ ≠ gb160 ∧ k_ ≠ gb161 ∧ k_ ≠ gb166 ∧ k_ ≠ gb167)) k_ ∧ some k_ ≠ (u168001 : Value).ownBlock)) (HO_161001.out) (fun k_ hk => ⟨⟨hk.1, ⟨hk.2.1, ⟨hk.2.2.2.1, ⟨hk.2.2.2.2.1, ⟨hk.2.2.2.2.2.1, ⟨hk.2.2.2.2.2.2.1, hk.2.2.2.2.2.2.2⟩⟩⟩⟩⟩⟩, hk.2.2.1⟩))).2.1 (Kd.V_F (Kd.V_mono (ok' := (fun k_ => ((fun k_ => (P1_1_ k_ ∨ w.heap.size ≤ k_) ∧ some k_ ≠ (.slice Ao18 t163.length co18 : Value).ownBlock ∧ k_ ≠ gb159 ∧ k_ ≠ gb160 ∧ k_ ≠ gb161 ∧ k_ ≠ gb166 ∧ k_ ≠ gb167)) k_ ∧ some k_ ≠ (u168001 : Value).ownBlock)) (HO_161001.out) (fun k_ hk => ⟨⟨hk.1, ⟨hk.2.1, ⟨hk.2.2.2.1, ⟨hk.2.2.2.2.1, ⟨hk.2.2.2.2.2.1, ⟨hk.2.2.2.2.2.2.1, hk.2.2.2.2.2.2.2⟩⟩⟩⟩⟩⟩, hk.2.2.1⟩))))); (case aB => exact (by repeat (first | (with_reducible first | exact HB.out | apply below_alloc | apply pw_below_drewN | apply below_drew1 | refine below_set ?_ GE159.out | refine below_set ?_ GE160.out | refine below_set ?_ GE161.out | refine below_set ?_ GE166.out | refine below_set ?_ GE167.out) | exact HB.out))); (case aF => exact (fun k_ hk => ⟨(.inr (Nat.le_trans (below_size (by repeat (first | (with_reducible first | exact HB.out | apply below_alloc | apply pw_below_drewN | apply below_drew1 | refine below_set ?_ GE159.out | refine below_set ?_ GE160.out | refine below_set ?_ GE161.out | refine below_set ?_ GE166.out | refine below_set ?_ GE167.out) | exact HB.out))) hk)), Kd.fresh' (Kd.N_lt (by (with_reducible repeat (first | apply Kd.N_alloc | apply Kd.N_drewN | apply Kd.N_drew)); exact HO_167001.out)) k_ hk, Kd.freshB (g := gb159) (o := .cells #[.int .i64 a0_0, .slice A0_1 l0_1.length c0_1] 24 (0, 0)) (by (with_reducible repeat (first | refine blk_drewN ?_ _ | refine blk_drew ?_ | refine blk_alloc ?_ _)); exact BK159.out) k_ hk, Kd.freshB (g := gb160) (o := .cells #[.string a1_0, .slice A1_1 l1_1.length c1_1, .int .i64 a1_2] 61 (0, 0)) (by (with_reducible repeat (first | refine blk_drewN ?_ _ | refine blk_drew ?_ | refine blk_alloc ?_ _)); exact BK160.out) k_ hk, Kd.freshB (g := gb161) (o := .cells #[.int .i64 0, .slice none 0 0] 24 (0, 0)) (by (with_reducible repeat (first | refine blk_drewN ?_ _ | refine blk_drew ?_ | refine blk_alloc ?_ _)); exact BK161.out) k_ hk, Kd.freshB (g := gb166) (o := .cells #[.int .i64 t162, .slice Ao18 t163.length co18] 24 (0, 0)) (by (with_reducible repeat (first | refine blk_drewN ?_ _ | refine blk_drew ?_ | refine blk_alloc ?_ _)); exact BK166.out) k_ hk, Kd.freshB (g := gb167) (o := .cells #[.int .i64 a0_0, u168001] 24 (0, 0)) (by (with_reducible repeat (first | refine blk_drewN ?_ _ | refine blk_drew ?_ | refine blk_alloc ?_ _)); exact BK167.out) k_ hk⟩)); (case aO => exact (by (with_reducible repeat (first | apply Kd.N_alloc | apply Kd.N_drewN | apply Kd.N_drew)); exact HO_168001.out)); (case aS => exact (below_size (by repeat (first | (with_reducible first | exact HB.out | apply below_alloc | apply pw_below_drewN | apply below_drew1 | refine below_set ?_ GE159.out | refine below_set ?_ GE160.out | refine below_set ?_ GE161.out | refine below_set ?_ GE166.out | refine below_set ?_ GE167.out) | exact HB.out)))); (case aL => have := LMc90.out; omega); intro v185 w103 ho hb hg hat; rw [← Ny184.out] at ho; have n0_ := Aside0.mk (Kd.V_afterv (ok := (fun k_ => (P1_1_ k_ ∨ w.heap.size ≤ k_) ∧ some k_ ≠ (.slice Ao18 t163.length co18 : Value).ownBlock ∧ k_ ≠ gb159 ∧ k_ ≠ gb160 ∧ k_ ≠ gb161 ∧ k_ ≠ gb166 ∧ k_ ≠ gb167)) (by (with_reducible repeat (first | apply Kd.V_alloc | apply Kd.V_drewN | apply Kd.V_drew)); exact Kd.V_mono HO_161001.out (fun _ hk => ⟨⟨hk.1, ⟨hk.2.1, ⟨hk.2.2.2.1, ⟨hk.2.2.2.2.1, ⟨hk.2.2.2.2.2.1, ⟨hk.2.2.2.2.2.2.1, hk.2.2.2.2.2.2.2⟩⟩⟩⟩⟩⟩, hk.2.2.1⟩)) hg hat); have n1_ := Aside0.mk (Kd.N_afterv (ok := (fun k_ => (P1_1_ k_ ∨ w.heap.size ≤ k_) ∧ k_ ≠ gb159 ∧ k_ ≠ gb160 ∧ k_ ≠ gb161 ∧ k_ ≠ gb166 ∧ k_ ≠ gb167)) (by (with_reducible repeat (first | apply Kd.N_alloc | apply Kd.N_drewN | apply Kd.N_drew)); exact Kd.N_mono HO_167001.out (fun _ hk => ⟨⟨hk.1, ⟨hk.2.2.1, ⟨hk.2.2.2.1, ⟨hk.2.2.2.2.1, ⟨hk.2.2.2.2.2.1, hk.2.2.2.2.2.2⟩⟩⟩⟩⟩, hk.2.1⟩)) hg hat); have n2_ := Aside0.mk (blk_grown (g := gb159) (o := .cells #[.int .i64 a0_0, .slice A0_1 l0_1.length c0_1] 24 (0, 0)) (by (with_reducible repeat (first | refine blk_drewN ?_ _ | refine blk_drew ?_ | refine blk_alloc ?_ _)); exact BK159.out) hg (Kd.N_ne HO_168001.out BK159.out (by decide))); have n3_ := Aside0.mk (blk_grown (g := gb160) (o := .cells #[.string a1_0, .slice A1_1 l1_1.length c1_1, .int .i64 a1_2] 61 (0, 0)) (by (with_reducible repeat (first | refine blk_drewN ?_ _ | refine blk_drew ?_ | refine blk_alloc ?_ _)); exact BK160.out) hg (Kd.N_away HO_168001.out (fun _ hk => hk.2.2.2.1))); have n4_ := Aside0.mk (blk_grown (g := gb161) (o := .cells #[.int .i64 0, .slice none 0 0] 24 (0, 0)) (by (with_reducible repeat (first | refine blk_drewN ?_ _ | refine blk_drew ?_ | refine blk_alloc ?_ _)); exact BK161.out) hg (Kd.N_ne HO_168001.out BK161.out (by decide))); have n5_ := Aside0.mk (blk_grown (g := gb166) (o := .cells #[.int .i64 t162, .slice Ao18 t163.length co18] 24 (0, 0)) (by (with_reducible repeat (first | refine blk_drewN ?_ _ | refine blk_drew ?_ | refine blk_alloc ?_ _)); exact BK166.out) hg (Kd.N_ne HO_168001.out BK166.out (by decide))); have n6_ := Aside0.mk (blk_grown (g := gb167) (o := .cells #[.int .i64 a0_0, u168001] 24 (0, 0)) (by (with_reducible repeat (first | refine blk_drewN ?_ _ | refine blk_drew ?_ | refine blk_alloc ?_ _)); exact BK167.out) hg (Kd.N_ne HO_168001.out BK167.out (by decide))); have n7_ := Aside0.mk (hb); have n8_ := Aside0.mk (ho); clear HO_161001; clear HO_167001; clear BK159; clear BK160; clear BK161; clear BK166; clear BK167; clear HB; clear HO_168001; have HO_161001 := n0_; have HO_167001 := n1_; have BK159 := n2_; have BK160 := n3_; have BK161 := n4_; have BK166 := n5_; have BK167 := n6_; have HB := n7_; have HO186 := n8_; clear n0_ n1_ n2_ n3_ n4_ n5_ n6_ n7_ n8_; clear ho hb hg hat; obtain ⟨Ao104, co104, eo104⟩ := Kd.N_slice HO186.out; subst eo104; have hcz105_0 : w103.cell? ⟨gb167, 0, none⟩ = some (.int .i64 a0_0) := (blk_cell BK167.out 0).trans rfl; have hcz105_1 : w103.cell? ⟨gb167, 1, none⟩ = some (u168001) := (blk_cell BK167.out 1).trans rfl; have hfz105_0 := blk_frozen BK167.out 0; have hfz105_1 := blk_frozen BK167.out 1; have hnb106 := NB161_159.out; have hnc106 := NB159_161.out; have hcz107_0 : w103.cell? ⟨gb161, 0, none⟩ = some (.int .i64 0) := (blk_cell BK161.out 0).trans rfl; have hcz107_1 : w103.cell? ⟨gb161, 1, none⟩ = some (.slice none 0 0) := (blk_cell BK161.out 1).trans rfl; have hfz107_0 := blk_frozen BK161.out 0; have hfz107_1 := blk_frozen BK161.out 1))
      refine bodyPost_ret (results_cell_row rfl _ _ gb161 24 #[.int .i64 a0_0, .slice Ao104 y184.length co104] (0, 0) _ rfl (by (with_reducible repeat (first | refine blk_drewN ?_ _ | refine blk_drew ?_ | refine blk_alloc ?_ _)); refine blk_put (cs := #[.int .i64 a0_0, .slice none 0 0]) ?_ 1 _ rfl; (with_reducible repeat (first | refine blk_drewN ?_ _ | refine blk_drew ?_ | refine blk_alloc ?_ _)); refine blk_put (cs := #[.int .i64 0, .slice none 0 0]) ?_ 0 _ rfl; (with_reducible repeat (first | refine blk_drewN ?_ _ | refine blk_drew ?_ | refine blk_alloc ?_ _)); refine blk_far ?_ NB161_167.out _; (with_reducible repeat (first | refine blk_drewN ?_ _ | refine blk_drew ?_ | refine blk_alloc ?_ _)); exact BK161.out) Try.underlying24 rfl (by kernel_rfl)) rfl ?_
      exact ⟨_, by first | rfl | (simp [errW_none, errW_some] <;> rfl) | (simp [*, errW_none, errW_some] <;> rfl), by (with_reducible repeat (first | apply Kd.N_alloc | apply Kd.N_drewN | apply Kd.N_drew)); exact Kd.N_mono (Kd.N_far (p := ⟨gb161, 1, none⟩) (Kd.N_far (p := ⟨gb161, 0, none⟩) (Kd.N_far (p := ⟨gb167, 1, none⟩) (Kd.N_mono (Kd.N_mono HO186.out (fun k_ hk => (⟨hk, hk.2.2.2.2.2.2⟩ : _ ∧ k_ ≠ gb167))) (fun k_ hk => (⟨hk, hk.1.2.2.2.2.1⟩ : _ ∧ k_ ≠ gb161))) (fun _ hk => hk.1.2) (.slice Ao104 y184.length co104)) (fun _ hk => hk.2) (.int .i64 a0_0)) (fun _ hk => hk.2) (.slice Ao104 y184.length co104)) (fun _ hk => hk.1.1.1), by repeat (first | (with_reducible first | exact HB.out | apply below_alloc | apply pw_below_drewN | apply below_drew1 | refine below_set ?_ GE159.out | refine below_set ?_ GE160.out | refine below_set ?_ GE161.out | refine below_set ?_ GE166.out | refine below_set ?_ GE167.out) | exact HB.out)⟩
     ·rw [if_neg c90] at H
      exact absurd H (by simp)
end Go.Proofs.Ytopjdjljpkcdlaa.D
