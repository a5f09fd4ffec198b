/- Walks by hand. -/
import Derived.Test.YtdcifmonhaklcaaDoorTaAlX
namespace Go.Proofs.YtdcifmonhaklcaaDoor.A
open Go.RowKit YtdcifmonhaklcaaDoorW.PrintWords YtdcifmonhaklcaaDoorW.PrintLast YtdcifmonhaklcaaDoorW.PrintMore
attribute [local go_sem] max2_int min2_int max_two min_two
set_option linter.unusedVariables false
set_option linter.unusedSimpArgs false
set_option maxHeartbeats 8000000 in
set_option maxRecDepth 100000 in
theorem all_bad (a0_0 : Int) (A0_1 : Option Addr) (c0_1 : Nat) (l0_1 : List (S84)) (A1_0 : Option Addr) (c1_0 : Nat) (l1_0 : List (S63)) (a1_1 : Int) (a1_2 : Int) (A2 : Option Addr) (c2 : Nat) (l2 : List (S97)) (w : World) (hr0_1 : Kd.C k84 w A0_1 l0_1.length l0_1) (hc0_1 : l0_1.length ≤ c0_1) (hr1_0 : Kd.C k63 w A1_0 l1_0.length l1_0) (hc1_0 : l1_0.length ≤ c1_0) (hr2 : Kd.C k97 w A2 l2.length l2) (hc2 : l2.length ≤ c2) (hG : GT w) (rs : List S63) (nx sq e : Int) (hrec : manifest_Recover.f a0_0 l0_1 = some (rs, nx, sq, [], e)) (he : e ≠ 0) :
  Calls Tryd.prog 8 #[.agg #[.int .i64 a0_0, .slice A0_1 l0_1.length c0_1], .agg #[.slice A1_0 l1_0.length c1_0, .int .i64 a1_1, .int .i64 a1_2], .slice A2 l2.length c2] w fun e w' => e = .returned (.bool true) ∧ Below w.heap.size w w' := by
 have HR := Aside0.mk hr0_1
 have HC := Aside0.mk hc0_1
 have HR1 := Aside0.mk hr1_0
 have HC1 := Aside0.mk hc1_0
 have HR2 := Aside0.mk hr2
 have HC2 := Aside0.mk hc2
 have HG := Aside0.mk hG
 have HB := Aside0.mk (Below.refl w.heap.size w)
 clear hr0_1 hc0_1 hr1_0 hc1_0 hr2 hc2 hG
 have hu50 := Tryd.underlying50
 have hu27 := Tryd.underlying27
 have hu60 := Tryd.underlying60
 have hu63 := Tryd.underlying63
 have hu42 := Tryd.underlying42
 have hu25 := Tryd.underlying25
 have hu56 := Tryd.underlying56
 have HREC := Aside0.mk hrec
 have he1 : (e == 0) = false := beq_eq_false_iff_ne.mpr he
 have he2 : (e != 0) = true := bne_iff_ne.mpr he
 clear hrec he
 go_enter Tryd.func8, Tryd.ntmps8
 go_upto_region 4 with (first
  | ((with_reducible refine gate_dst (N := 3) rfl ?_); refine box_event ?hg (N := 3) ?hd (cs := #[.int .i64 a0_0, .slice A0_1 l0_1.length c0_1]) (t := 50) ?hr ?_; (case hd => rfl); (case hg => rfl); (case hr => first | (go_simp; done) | (go_simp; rfl)); (intro g3 hg3 w1 hbox hb; have CB3 := Aside0.mk hbox; have G3 := Aside0.mk (show w.heap.size ≤ g3 by rw [hg3]; exact below_size HB.out); have HB_ := Aside0.mk (below_step HB.out hb); clear HB hb hbox hg3; have HB := HB_; clear HB_; have v30 : w1.cell? ⟨g3, 0, none⟩ = some (.int .i64 a0_0) := (blk_cell CB3.out 0).trans rfl; have v31 : w1.cell? ⟨g3, 1, none⟩ = some (.slice A0_1 l0_1.length c0_1) := (blk_cell CB3.out 1).trans rfl))
  | ((with_reducible refine gate_dst (N := 4) rfl ?_); refine box_event ?hg (N := 4) ?hd (cs := #[.slice A1_0 l1_0.length c1_0, .int .i64 a1_1, .int .i64 a1_2]) (t := 27) ?hr ?_; (case hd => rfl); (case hg => rfl); (case hr => first | (go_simp; done) | (go_simp; rfl)); (intro g4 hg4 w2 hbox hb; have CB4 := Aside0.mk hbox; have G4 := Aside0.mk (show g3 < g4 by rw [hg4]; exact blk_lt CB3.out); have HB_ := Aside0.mk (below_step HB.out hb); have CB3_ := Aside0.mk (blk_below CB3.out hb); clear HB CB3 hb hbox hg4 v30 v31; have HB := HB_; have CB3 := CB3_; clear HB_ CB3_; have v30 : w2.cell? ⟨g3, 0, none⟩ = some (.int .i64 a0_0) := (blk_cell CB3.out 0).trans rfl; have v31 : w2.cell? ⟨g3, 1, none⟩ = some (.slice A0_1 l0_1.length c0_1) := (blk_cell CB3.out 1).trans rfl; have v40 : w2.cell? ⟨g4, 0, none⟩ = some (.slice A1_0 l1_0.length c1_0) := (blk_cell CB4.out 0).trans rfl; have v41 : w2.cell? ⟨g4, 1, none⟩ = some (.int .i64 a1_1) := (blk_cell CB4.out 1).trans rfl; have v42 : w2.cell? ⟨g4, 2, none⟩ = some (.int .i64 a1_2) := (blk_cell CB4.out 2).trans rfl))
  | (go_at_call 9; ((with_reducible refine (dragnetlaw18_alive.calls true _ (GT.below HG.out HB.out) rfl).mono ?_); rintro e_ w3 ⟨rfl, hb⟩; have HB_ := Aside0.mk (below_step HB.out hb); have CB3_ := Aside0.mk (blk_below CB3.out hb); have CB4_ := Aside0.mk (blk_below CB4.out hb); clear HB CB3 CB4 hb v30 v31 v40 v41 v42; have HB := HB_; have CB3 := CB3_; have CB4 := CB4_; clear HB_ CB3_ CB4_; have v30 : w3.cell? ⟨g3, 0, none⟩ = some (.int .i64 a0_0) := (blk_cell CB3.out 0).trans rfl; have v31 : w3.cell? ⟨g3, 1, none⟩ = some (.slice A0_1 l0_1.length c0_1) := (blk_cell CB3.out 1).trans rfl; have v40 : w3.cell? ⟨g4, 0, none⟩ = some (.slice A1_0 l1_0.length c1_0) := (blk_cell CB4.out 0).trans rfl; have v41 : w3.cell? ⟨g4, 1, none⟩ = some (.int .i64 a1_1) := (blk_cell CB4.out 1).trans rfl; have v42 : w3.cell? ⟨g4, 2, none⟩ = some (.int .i64 a1_2) := (blk_cell CB4.out 2).trans rfl))
  | (go_at_call 26; ((with_reducible refine (manifest_Recover.calls a0_0 A0_1 c0_1 l0_1 rs nx sq [] e _ (Kd.C_below HR.out HB.out) HC.out (GT.below HG.out HB.out) HREC.out).mono ?_); rintro e_ w4 ⟨v0, v3, rfl, hR, hS, hb⟩; obtain ⟨A7, d7, rfl⟩ := Kd.R_slice hR; obtain ⟨A8, d8, rfl⟩ := Kd.S_slice hS; have G4b := Aside0.mk (blk_lt CB4.out); have HS7 := Aside0.mk (Kd.V_bound (Kd.V_mono (Kd.R_V (base' := 0) (Kd.R_bound hR)) (ok' := fun k => g4 < k) (fun k hk => by have := G4b.out; have := hk.2.1; omega))); have HO8 := Aside0.mk (Kd.V_bound (Kd.V_mono (Kd.S_V (base' := 0) (Kd.S_bound hS)) (ok' := fun k => g4 < k) (fun k hk => by have := G4b.out; have := hk.2.1; omega))); have HB_ := Aside0.mk (below_step HB.out hb); have CB3_ := Aside0.mk (blk_below CB3.out hb); have CB4_ := Aside0.mk (blk_below CB4.out hb); clear HB CB3 CB4 hb hR hS G4b v30 v31 v40 v41 v42; have HB := HB_; have CB3 := CB3_; have CB4 := CB4_; clear HB_ CB3_ CB4_))
  | ((with_reducible refine gate_dst (N := 7) rfl ?_); refine box_event ?hg (N := 7) ?hd (cs := #[.slice none 0 0, .int .i64 0, .int .i64 0]) (t := 27) ?hr ?_; (case hd => rfl); (case hg => rfl); (case hr => first | (go_simp; done) | (go_simp; rfl)); (intro g7 hg7 w5 hbox hb; have CB7 := Aside0.mk hbox; have G7 := Aside0.mk (show g4 < g7 by rw [hg7]; exact blk_lt CB4.out); have HS7_ := Aside0.mk (Kd.V_mono (Kd.V_below HS7.out hb) (ok' := fun k => g4 < k ∧ k < g7) (fun k hk => ⟨hk.1, by have := hk.2; omega⟩)); have HO8_ := Aside0.mk (Kd.V_mono (Kd.V_below HO8.out hb) (ok' := fun k => g4 < k ∧ k < g7) (fun k hk => ⟨hk.1, by have := hk.2; omega⟩)); have HB_ := Aside0.mk (below_step HB.out hb); have CB3_ := Aside0.mk (blk_below CB3.out hb); have CB4_ := Aside0.mk (blk_below CB4.out hb); clear HB CB3 CB4 HS7 HO8 hb hbox hg7; have HB := HB_; have CB3 := CB3_; have CB4 := CB4_; have HS7 := HS7_; have HO8 := HO8_; clear HB_ CB3_ CB4_ HS7_ HO8_; have v70 : w5.cell? ⟨g7, 0, none⟩ = some (.slice none 0 0) := (blk_cell CB7.out 0).trans rfl; have v71 : w5.cell? ⟨g7, 1, none⟩ = some (.int .i64 0) := (blk_cell CB7.out 1).trans rfl; have v72 : w5.cell? ⟨g7, 2, none⟩ = some (.int .i64 0) := (blk_cell CB7.out 2).trans rfl; have f70 := blk_frozen CB7.out 0; have f71 := blk_frozen CB7.out 1; have f72 := blk_frozen CB7.out 2)))
 have GW7 := Aside0.mk (show w.heap.size ≤ g7 by have := G3.out; have := G4.out; have := G7.out; omega)
 have HBx : Aside0 (Below w.heap.size w ((((((w5).setCell ⟨g7, 0, none⟩ (.slice A7 rs.length d7))).setCell ⟨g7, 1, none⟩ (.int .i64 nx))).setCell ⟨g7, 2, none⟩ (.int .i64 sq))) := ⟨(below_set (below_set (below_set HB.out GW7.out) GW7.out) GW7.out)⟩
 have HC7 := Aside0.mk (blk_put (cs' := #[.slice A7 rs.length d7, .int .i64 nx, .int .i64 sq]) (blk_put (cs' := #[.slice A7 rs.length d7, .int .i64 nx, .int .i64 0]) (blk_put (cs' := #[.slice A7 rs.length d7, .int .i64 0, .int .i64 0]) CB7.out 0 (.slice A7 rs.length d7) rfl) 1 (.int .i64 nx) rfl) 2 (.int .i64 sq) rfl)
 have HX := Aside0.mk (AX.mk (N := (((((((w5).setCell ⟨g7, 0, none⟩ (.slice A7 rs.length d7))).setCell ⟨g7, 1, none⟩ (.int .i64 nx))).setCell ⟨g7, 2, none⟩ (.int .i64 sq))).heap.size) HBx.out (blk_far (blk_far (blk_far CB3.out (show g3 ≠ g7 by have := G4.out; have := G7.out; omega) _) (show g3 ≠ g7 by have := G4.out; have := G7.out; omega) _) (show g3 ≠ g7 by have := G4.out; have := G7.out; omega) _) (blk_far (blk_far (blk_far CB4.out (show g4 ≠ g7 by have := G7.out; omega) _) (show g4 ≠ g7 by have := G7.out; omega) _) (show g4 ≠ g7 by have := G7.out; omega) _) HC7.out
  (Kd.V_mono (Kd.V_below (Kd.V_mk (e := 84) (base := 0) HC.out (Kd.C_F heap84 HR.out)) HBx.out) (fun k hk => ⟨⟨by have := G3.out; omega, by have := G3.out; have := G4.out; omega⟩, Nat.lt_of_lt_of_le hk HBx.out.size⟩))
  (Kd.V_mono (Kd.V_below (Kd.V_mk (e := 63) (base := 0) HC1.out (Kd.C_F heap63 HR1.out)) HBx.out) (fun k hk => ⟨⟨by have := G3.out; omega, by have := G3.out; have := G4.out; omega⟩, Nat.lt_of_lt_of_le hk HBx.out.size⟩))
  (Kd.V_mono (Kd.V_far (Kd.V_far (Kd.V_far HS7.out (fun k hk => Nat.ne_of_lt hk.2) _) (fun k hk => Nat.ne_of_lt hk.2) _) (fun k hk => Nat.ne_of_lt hk.2) _) (fun k hk => ⟨⟨by have := G4.out; omega, by omega⟩, Nat.lt_trans hk.2 (blk_lt HC7.out)⟩))
  (Kd.V_mono (Kd.V_far (Kd.V_far (Kd.V_far HO8.out (fun k hk => Nat.ne_of_lt hk.2) _) (fun k hk => Nat.ne_of_lt hk.2) _) (fun k hk => Nat.ne_of_lt hk.2) _) (fun k hk => ⟨⟨by have := G4.out; omega, by omega⟩, Nat.lt_trans hk.2 (blk_lt HC7.out)⟩))
  G3.out G4.out G7.out ⟨blk_lt HC7.out, Nat.le_refl _⟩)
 clear HBx HC7 GW7 HB CB3 CB4 CB7 HS7 HO8 v70 v71 v72 f70 f71 f72
 generalize ((((((w5).setCell ⟨g7, 0, none⟩ (.slice A7 rs.length d7))).setCell ⟨g7, 1, none⟩ (.int .i64 nx))).setCell ⟨g7, 2, none⟩ (.int .i64 sq)) = W7 at *
 obtain ⟨v30, v31, f30, f31, v40, v41, v42, f40, v70, v71, v72⟩ := HX.out.vis
 go_wp2
 go_ret
 exact ⟨rfl, HX.out.B⟩
end Go.Proofs.YtdcifmonhaklcaaDoor.A
