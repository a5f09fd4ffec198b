/- Walks by hand. -/
import Derived.Test.YtdcifmonhaklcaaDoorTrPlR1
namespace Go.Proofs.YtdcifmonhaklcaaDoor.R
open Go.RowKit YtdcifmonhaklcaaDoorW.PrintWords YtdcifmonhaklcaaDoorW.PrintLast YtdcifmonhaklcaaDoorW.PrintMore
attribute [local go_sem] min2_int min_two
set_option linter.unusedVariables false
set_option linter.unusedSimpArgs false
theorem bytes_same (l : List Int) : dragnetref01_Same.f l l = some true := by
 unfold dragnetref01_Same.f
 simp
set_option maxHeartbeats 8000000 in
set_option maxRecDepth 100000 in
theorem ops_same.calls (A0 : Option Addr) (c0 : Nat) (A1 : Option Addr) (c1 : Nat) (l : List (S60)) (w : World) (hr0 : Kd.C k60 w A0 l.length l) (hr1 : Kd.C k60 w A1 l.length l) (hl : l.length ≤ 1000) :
  Calls Tryd.prog 22 #[.slice A0 l.length c0, .slice A1 l.length c1] w fun e w' => e = .returned (.bool true) ∧ Below w.heap.size w w' := by
 have HR0 := Aside0.mk hr0
 have HR1 := Aside0.mk hr1
 have HL := Aside0.mk hl
 have HB := Aside0.mk (Below.refl w.heap.size w)
 clear hr0 hr1 hl
 have hu42 := Tryd.underlying42
 have hu60 := Tryd.underlying60
 have hu22 := Tryd.underlying22
 go_enter Tryd.func22, Tryd.ntmps22
 go_wp2
 go_loopw [5] (fun v5 w' => ∃ i : Nat, v5 = .int .i64 i ∧ i ≤ l.length ∧ Aside0 (Below w.heap.size w w')) (fun v5 _ => l.length - (intOf v5).toNat)
 case atStart => exact ⟨0, rfl, Nat.zero_le _, HB⟩
 case round =>
  clear HB
  obtain ⟨i, rfl, hil, HB⟩ := hrel
  by_cases cs : i < l.length
  ·have csd := decide_eq_true (show (i : Int) < (l.length : Int) by omega)
   obtain ⟨ad, A3, c3, rfl, hx0, hx1, hx2, hx3, hc3, hC3⟩ := at_T60 HR0.out (i : Int) (by omega) (by omega)
   obtain ⟨bd, B3, d3, rfl, hy0, hy1, hy2, hy3, hd3, hD3⟩ := at_T60 HR1.out (i : Int) (by omega) (by omega)
   obtain ⟨x, hx⟩ : ∃ x, x = rd_T60 l (i : Int) := ⟨_, rfl⟩
   rw [← hx] at hx0 hx1 hx2 hx3 hy0 hy1 hy2 hy3 hc3 hC3 hd3 hD3
   rw [Int.toNat_natCast] at hx0 hx1 hx2 hx3 hy0 hy1 hy2 hy3
   replace hx0 := (HB.out.cell (World.block_lt_of_cell? w _ hx0)).trans hx0
   replace hx1 := (HB.out.cell (World.block_lt_of_cell? w _ hx1)).trans hx1
   replace hx2 := (HB.out.cell (World.block_lt_of_cell? w _ hx2)).trans hx2
   replace hx3 := (HB.out.cell (World.block_lt_of_cell? w _ hx3)).trans hx3
   replace hy0 := (HB.out.cell (World.block_lt_of_cell? w _ hy0)).trans hy0
   replace hy1 := (HB.out.cell (World.block_lt_of_cell? w _ hy1)).trans hy1
   replace hy2 := (HB.out.cell (World.block_lt_of_cell? w _ hy2)).trans hy2
   replace hy3 := (HB.out.cell (World.block_lt_of_cell? w _ hy3)).trans hy3
   have HC3 := Aside0.mk (Kd.C_below hC3 HB.out)
   have HD3 := Aside0.mk (Kd.C_below hD3 HB.out)
   have Hc3 := Aside0.mk hc3
   have Hd3 := Aside0.mk hd3
   clear hx hC3 hD3 hc3 hd3
   have q0 := eq_true (show (0 : Int) ≤ (i : Int) by omega)
   have q1 := eq_true (show (i : Int) < (l.length : Int) by omega)
   have hwr : IntKind.i64.wrap ((i : Int) + 1) = ((i + 1 : Nat) : Int) := by rw [IntKind.wrap_i64]; have := HL.out; omega
   go_upto_region 6 with (first
    | fail)
   go_quiet ((go_at_call 14; exact Calls.quiet_of ((dragnetref01_Same.calls A3 c3 x.f3 B3 d3 x.f3 true _ (Kd.C_drewN HC3.out _) Hc3.out (Kd.C_drewN HD3.out _) Hd3.out (bytes_same x.f3)).mono (fun e w' h => ⟨h.1, h.2.out⟩))))
   have HB_ := Aside0.mk (pw_below_drewN HB.out nq)
   go_wp2
   go_roundw
   ·exact ⟨i + 1, rfl, cs, HB_⟩
   ·show l.length - (((i + 1 : Nat) : Int)).toNat < l.length - (i : Int).toNat
    omega
  ·obtain rfl : i = l.length := by omega
   have csd : decide ((l.length : Int) < (l.length : Int)) = false := decide_eq_false (Int.lt_irrefl _)
   go_wp2
   go_ret
   exact ⟨rfl, HB.out⟩
set_option maxHeartbeats 8000000 in
set_option maxRecDepth 100000 in
theorem recovers_walk (a0_0 : Int) (A0_1 : Option Addr) (c0_1 : Nat) (l0_1 : List (S84)) (rs : List S63) (nx sq : Int) (ops : List S60) (e : Int) (k : Nat) (w : World) (hr0_1 : Kd.C k84 w A0_1 l0_1.length l0_1) (hc0_1 : l0_1.length ≤ c0_1) (hG : GT w) (hcopy : dragnetref16_Copy.f k a0_0 l0_1 = some (a0_0, l0_1)) (hown : manifest_Recover.f a0_0 l0_1 = some (rs, nx, sq, ops, e)) (href : dragnetref18_Recover.f k a0_0 l0_1 = some (rs, nx, sq, ops, e)) (hs18 : dragnetref18_Same.f k rs nx sq rs nx sq = some true) (hops : ops.length ≤ 1000) (hsame : dragnetref16_Same.f k a0_0 l0_1 a0_0 l0_1 = some true) :
  Calls Tryd.prog 7 #[.agg #[.int .i64 a0_0, .slice A0_1 l0_1.length c0_1]] w fun e w' => e = .returned (.bool true) ∧ Below w.heap.size w w' := by
 have HR := Aside0.mk hr0_1
 have HC := Aside0.mk hc0_1
 have HG := Aside0.mk hG
 have HCOPY := Aside0.mk hcopy
 have HOWN := Aside0.mk hown
 have HREF := Aside0.mk href
 have HSAME18 := Aside0.mk hs18
 have HOPS := Aside0.mk hops
 have HSAME := Aside0.mk hsame
 have HB := Aside0.mk (Below.refl w.heap.size w)
 clear hr0_1 hc0_1 hG hcopy hown href hs18 hops hsame
 have hu50 := Tryd.underlying50
 have hu27 := Tryd.underlying27
 go_enter Tryd.func7, Tryd.ntmps7
 go_upto_region 4 with (first
  | ((with_reducible refine gate_dst (N := 1) rfl ?_); refine box_event ?hg (N := 1) ?hd (cs := #[.int .i64 a0_0, .slice A0_1 l0_1.length c0_1]) (t := 50) ?hr ?_; (case hd => rfl); (case hg => rfl); (case hr => first | (go_simp; done) | (go_simp; rfl)); intro g1 hg1 w1 hbox hb; have CB1 := Aside0.mk hbox; have HB_ := Aside0.mk (below_step HB.out hb); clear HB hb hbox hg1; have HB := HB_; clear HB_; have v10 : w1.cell? ⟨g1, 0, none⟩ = some (.int .i64 a0_0) := (blk_cell CB1.out 0).trans rfl; have v11 : w1.cell? ⟨g1, 1, none⟩ = some (.slice A0_1 l0_1.length c0_1) := (blk_cell CB1.out 1).trans rfl)
  | (go_at_call 9; ((with_reducible refine (dragnetlaw18_alive.calls true _ (GT.below HG.out HB.out) rfl).mono ?_); rintro e_ w2 ⟨rfl, hb⟩; have HB_ := Aside0.mk (below_step HB.out hb); have CB1_ := Aside0.mk (blk_below CB1.out hb); clear HB CB1  v10 v11; have HB := HB_; have CB1 := CB1_; clear HB_ CB1_; have v10 : w2.cell? ⟨g1, 0, none⟩ = some (.int .i64 a0_0) := (blk_cell CB1.out 0).trans rfl; have v11 : w2.cell? ⟨g1, 1, none⟩ = some (.slice A0_1 l0_1.length c0_1) := (blk_cell CB1.out 1).trans rfl; clear hb))
  | (go_at_call 25; ((with_reducible refine (dragnetref16_Copy.calls k a0_0 A0_1 c0_1 l0_1 a0_0 l0_1 _ (Kd.C_below HR.out HB.out) HC.out HCOPY.out).mono ?_); rintro e_ w3 ⟨v3, rfl, hR, hb⟩; obtain ⟨A3, c3, rfl⟩ := Kd.S_slice hR; have HC3 := Aside0.mk (Kd.S_reads' hR).2.1; have HL3 := Aside0.mk (Kd.S_reads' hR).2.2; have HB_ := Aside0.mk (below_step HB.out hb); have CB1_ := Aside0.mk (blk_below CB1.out hb); clear HB CB1  v10 v11; have HB := HB_; have CB1 := CB1_; clear HB_ CB1_; have v10 : w3.cell? ⟨g1, 0, none⟩ = some (.int .i64 a0_0) := (blk_cell CB1.out 0).trans rfl; have v11 : w3.cell? ⟨g1, 1, none⟩ = some (.slice A0_1 l0_1.length c0_1) := (blk_cell CB1.out 1).trans rfl; clear hb hR))
  | ((with_reducible refine gate_dst (N := 3) rfl ?_); refine box_event ?hg (N := 3) ?hd (cs := #[.int .i64 0, .slice none 0 0]) (t := 50) ?hr ?_; (case hd => rfl); (case hg => rfl); (case hr => first | (go_simp; done) | (go_simp; rfl)); (intro g3 hg3 w4 hbox hb; have CBN := Aside0.mk hbox; have HBN := Aside0.mk hb; have HGN := Aside0.mk hg3; clear hbox hb hg3 v10 v11; have vn0 : w4.cell? ⟨g3, 0, none⟩ = some (.int .i64 0) := (blk_cell CBN.out 0).trans rfl; have fn0 := blk_frozen CBN.out 0; have vn1 : w4.cell? ⟨g3, 1, none⟩ = some (.slice none 0 0) := (blk_cell CBN.out 1).trans rfl; have fn1 := blk_frozen CBN.out 1)))
 have hb : Below w3.heap.size w3 ((w4.setCell ⟨g3, 0, none⟩ (.int .i64 a0_0)).setCell ⟨g3, 1, none⟩ (.slice A3 l0_1.length c3)) := (below_set (below_set HBN.out (Nat.le_of_eq HGN.out.symm)) (Nat.le_of_eq HGN.out.symm))
 have CB3 := Aside0.mk (blk_put (cs' := #[.int .i64 a0_0, .slice A3 l0_1.length c3]) (blk_put (cs' := #[.int .i64 a0_0, .slice none 0 0]) CBN.out 0 (.int .i64 a0_0) rfl) 1 (.slice A3 l0_1.length c3) rfl)
 have HB_ := Aside0.mk (below_step HB.out hb)
 have CB1_ := Aside0.mk (blk_below CB1.out hb)
 have HL3_ := Aside0.mk (Kd.C_below HL3.out hb)
 clear HB CB1 HL3 HBN CBN HGN vn0 fn0 vn1 fn1 hb
 generalize ((w4.setCell ⟨g3, 0, none⟩ (.int .i64 a0_0)).setCell ⟨g3, 1, none⟩ (.slice A3 l0_1.length c3)) = W4 at *
 have HB := HB_
 have CB1 := CB1_
 have HL3 := HL3_
 clear HB_ CB1_ HL3_
 have v10 : W4.cell? ⟨g1, 0, none⟩ = some (.int .i64 a0_0) := (blk_cell CB1.out 0).trans rfl
 have v11 : W4.cell? ⟨g1, 1, none⟩ = some (.slice A0_1 l0_1.length c0_1) := (blk_cell CB1.out 1).trans rfl
 have v30 : W4.cell? ⟨g3, 0, none⟩ = some (.int .i64 a0_0) := (blk_cell CB3.out 0).trans rfl
 have v31 : W4.cell? ⟨g3, 1, none⟩ = some (.slice A3 l0_1.length c3) := (blk_cell CB3.out 1).trans rfl
 go_upto_region 5 with (first
  | (go_at_call 26; ((with_reducible refine (manifest_Recover.calls a0_0 A3 c3 l0_1 rs nx sq ops e _ HL3.out HC3.out (GT.below HG.out HB.out) HOWN.out).mono ?_); rintro e_ w5 ⟨v0, v3, rfl, hR, hS, hb⟩; obtain ⟨A4, c4, rfl⟩ := Kd.R_slice hR; obtain ⟨B4, d4, rfl⟩ := Kd.S_slice hS; have HC4 := Aside0.mk (Kd.R_reads' hR).2.1; have HR4 := Aside0.mk (Kd.R_reads' hR).2.2; have HO4 := Aside0.mk (Kd.S_reads' hS).2.2; have HB_ := Aside0.mk (below_step HB.out hb); have CB1_ := Aside0.mk (blk_below CB1.out hb); have CB3_ := Aside0.mk (blk_below CB3.out hb); have HL3_ := Aside0.mk (Kd.C_below HL3.out hb); clear HB CB1 CB3 HL3  v10 v11 v30 v31 ; have HB := HB_; have CB1 := CB1_; have CB3 := CB3_; have HL3 := HL3_; clear HB_ CB1_ CB3_ HL3_; have v10 : w5.cell? ⟨g1, 0, none⟩ = some (.int .i64 a0_0) := (blk_cell CB1.out 0).trans rfl; have v11 : w5.cell? ⟨g1, 1, none⟩ = some (.slice A0_1 l0_1.length c0_1) := (blk_cell CB1.out 1).trans rfl; have v30 : w5.cell? ⟨g3, 0, none⟩ = some (.int .i64 a0_0) := (blk_cell CB3.out 0).trans rfl; have v31 : w5.cell? ⟨g3, 1, none⟩ = some (.slice A3 l0_1.length c3) := (blk_cell CB3.out 1).trans rfl; clear hb hR hS))
  | ((with_reducible refine gate_dst (N := 4) rfl ?_); refine box_event ?hg (N := 4) ?hd (cs := #[.slice none 0 0, .int .i64 0, .int .i64 0]) (t := 27) ?hr ?_; (case hd => rfl); (case hg => rfl); (case hr => first | (go_simp; done) | (go_simp; rfl)); (intro g4 hg4 w6 hbox hb; have CBN := Aside0.mk hbox; have HBN := Aside0.mk hb; have HGN := Aside0.mk hg4; clear hbox hb hg4 v10 v11 v30 v31; have vn0 : w6.cell? ⟨g4, 0, none⟩ = some (.slice none 0 0) := (blk_cell CBN.out 0).trans rfl; have fn0 := blk_frozen CBN.out 0; have vn1 : w6.cell? ⟨g4, 1, none⟩ = some (.int .i64 0) := (blk_cell CBN.out 1).trans rfl; have fn1 := blk_frozen CBN.out 1; have vn2 : w6.cell? ⟨g4, 2, none⟩ = some (.int .i64 0) := (blk_cell CBN.out 2).trans rfl; have fn2 := blk_frozen CBN.out 2)))
 have hb : Below w5.heap.size w5 (((w6.setCell ⟨g4, 0, none⟩ (.slice A4 rs.length c4)).setCell ⟨g4, 1, none⟩ (.int .i64 nx)).setCell ⟨g4, 2, none⟩ (.int .i64 sq)) := (below_set (below_set (below_set HBN.out (Nat.le_of_eq HGN.out.symm)) (Nat.le_of_eq HGN.out.symm)) (Nat.le_of_eq HGN.out.symm))
 have CB4 := Aside0.mk (blk_put (cs' := #[.slice A4 rs.length c4, .int .i64 nx, .int .i64 sq]) (blk_put (cs' := #[.slice A4 rs.length c4, .int .i64 nx, .int .i64 0]) (blk_put (cs' := #[.slice A4 rs.length c4, .int .i64 0, .int .i64 0]) CBN.out 0 (.slice A4 rs.length c4) rfl) 1 (.int .i64 nx) rfl) 2 (.int .i64 sq) rfl)
 have HB_ := Aside0.mk (below_step HB.out hb)
 have CB1_ := Aside0.mk (blk_below CB1.out hb)
 have CB3_ := Aside0.mk (blk_below CB3.out hb)
 have HL3_ := Aside0.mk (Kd.C_below HL3.out hb)
 have HR4_ := Aside0.mk (Kd.C_below HR4.out hb)
 have HO4_ := Aside0.mk (Kd.C_below HO4.out hb)
 clear HB CB1 CB3 HL3 HR4 HO4 HBN CBN HGN vn0 fn0 vn1 fn1 vn2 fn2 hb
 generalize (((w6.setCell ⟨g4, 0, none⟩ (.slice A4 rs.length c4)).setCell ⟨g4, 1, none⟩ (.int .i64 nx)).setCell ⟨g4, 2, none⟩ (.int .i64 sq)) = W6 at *
 have HB := HB_
 have CB1 := CB1_
 have CB3 := CB3_
 have HL3 := HL3_
 have HR4 := HR4_
 have HO4 := HO4_
 clear HB_ CB1_ CB3_ HL3_ HR4_ HO4_
 have v10 : W6.cell? ⟨g1, 0, none⟩ = some (.int .i64 a0_0) := (blk_cell CB1.out 0).trans rfl
 have v11 : W6.cell? ⟨g1, 1, none⟩ = some (.slice A0_1 l0_1.length c0_1) := (blk_cell CB1.out 1).trans rfl
 have v30 : W6.cell? ⟨g3, 0, none⟩ = some (.int .i64 a0_0) := (blk_cell CB3.out 0).trans rfl
 have v31 : W6.cell? ⟨g3, 1, none⟩ = some (.slice A3 l0_1.length c3) := (blk_cell CB3.out 1).trans rfl
 have v40 : W6.cell? ⟨g4, 0, none⟩ = some (.slice A4 rs.length c4) := (blk_cell CB4.out 0).trans rfl
 have v41 : W6.cell? ⟨g4, 1, none⟩ = some (.int .i64 nx) := (blk_cell CB4.out 1).trans rfl
 have v42 : W6.cell? ⟨g4, 2, none⟩ = some (.int .i64 sq) := (blk_cell CB4.out 2).trans rfl
 go_upto_region 6 with (first
  | (go_at_call 27; ((with_reducible refine (dragnetref18_Recover.calls k a0_0 A0_1 c0_1 l0_1 rs nx sq ops e _ (Kd.C_below HR.out HB.out) HC.out (GT.below HG.out HB.out) HREF.out).mono ?_); rintro e_ w7 ⟨v0, v3, rfl, hR, hS, hb⟩; obtain ⟨A7, c7, rfl⟩ := Kd.R_slice hR; obtain ⟨B7, d7, rfl⟩ := Kd.S_slice hS; have HC7 := Aside0.mk (Kd.R_reads' hR).2.1; have HR7 := Aside0.mk (Kd.R_reads' hR).2.2; have HO7 := Aside0.mk (Kd.S_reads' hS).2.2; have HB_ := Aside0.mk (below_step HB.out hb); have CB1_ := Aside0.mk (blk_below CB1.out hb); have CB3_ := Aside0.mk (blk_below CB3.out hb); have CB4_ := Aside0.mk (blk_below CB4.out hb); have HL3_ := Aside0.mk (Kd.C_below HL3.out hb); have HR4_ := Aside0.mk (Kd.C_below HR4.out hb); have HO4_ := Aside0.mk (Kd.C_below HO4.out hb); clear HB CB1 CB3 CB4 HL3 HR4 HO4  v10 v11 v30 v31 v40 v41 v42   ; have HB := HB_; have CB1 := CB1_; have CB3 := CB3_; have CB4 := CB4_; have HL3 := HL3_; have HR4 := HR4_; have HO4 := HO4_; clear HB_ CB1_ CB3_ CB4_ HL3_ HR4_ HO4_; have v10 : w7.cell? ⟨g1, 0, none⟩ = some (.int .i64 a0_0) := (blk_cell CB1.out 0).trans rfl; have v11 : w7.cell? ⟨g1, 1, none⟩ = some (.slice A0_1 l0_1.length c0_1) := (blk_cell CB1.out 1).trans rfl; have v30 : w7.cell? ⟨g3, 0, none⟩ = some (.int .i64 a0_0) := (blk_cell CB3.out 0).trans rfl; have v31 : w7.cell? ⟨g3, 1, none⟩ = some (.slice A3 l0_1.length c3) := (blk_cell CB3.out 1).trans rfl; have v40 : w7.cell? ⟨g4, 0, none⟩ = some (.slice A4 rs.length c4) := (blk_cell CB4.out 0).trans rfl; have v41 : w7.cell? ⟨g4, 1, none⟩ = some (.int .i64 nx) := (blk_cell CB4.out 1).trans rfl; have v42 : w7.cell? ⟨g4, 2, none⟩ = some (.int .i64 sq) := (blk_cell CB4.out 2).trans rfl; clear hb hR hS))
  | ((with_reducible refine gate_dst (N := 7) rfl ?_); refine box_event ?hg (N := 7) ?hd (cs := #[.slice none 0 0, .int .i64 0, .int .i64 0]) (t := 27) ?hr ?_; (case hd => rfl); (case hg => rfl); (case hr => first | (go_simp; done) | (go_simp; rfl)); (intro g7 hg7 w8 hbox hb; have CBN := Aside0.mk hbox; have HBN := Aside0.mk hb; have HGN := Aside0.mk hg7; clear hbox hb hg7 v10 v11 v30 v31 v40 v41 v42; have vn0 : w8.cell? ⟨g7, 0, none⟩ = some (.slice none 0 0) := (blk_cell CBN.out 0).trans rfl; have fn0 := blk_frozen CBN.out 0; have vn1 : w8.cell? ⟨g7, 1, none⟩ = some (.int .i64 0) := (blk_cell CBN.out 1).trans rfl; have fn1 := blk_frozen CBN.out 1; have vn2 : w8.cell? ⟨g7, 2, none⟩ = some (.int .i64 0) := (blk_cell CBN.out 2).trans rfl; have fn2 := blk_frozen CBN.out 2)))
 have hb : Below w7.heap.size w7 (((w8.setCell ⟨g7, 0, none⟩ (.slice A7 rs.length c7)).setCell ⟨g7, 1, none⟩ (.int .i64 nx)).setCell ⟨g7, 2, none⟩ (.int .i64 sq)) := (below_set (below_set (below_set HBN.out (Nat.le_of_eq HGN.out.symm)) (Nat.le_of_eq HGN.out.symm)) (Nat.le_of_eq HGN.out.symm))
 have CB7 := Aside0.mk (blk_put (cs' := #[.slice A7 rs.length c7, .int .i64 nx, .int .i64 sq]) (blk_put (cs' := #[.slice A7 rs.length c7, .int .i64 nx, .int .i64 0]) (blk_put (cs' := #[.slice A7 rs.length c7, .int .i64 0, .int .i64 0]) CBN.out 0 (.slice A7 rs.length c7) rfl) 1 (.int .i64 nx) rfl) 2 (.int .i64 sq) rfl)
 have HB_ := Aside0.mk (below_step HB.out hb)
 have CB1_ := Aside0.mk (blk_below CB1.out hb)
 have CB3_ := Aside0.mk (blk_below CB3.out hb)
 have CB4_ := Aside0.mk (blk_below CB4.out hb)
 have HL3_ := Aside0.mk (Kd.C_below HL3.out hb)
 have HR4_ := Aside0.mk (Kd.C_below HR4.out hb)
 have HO4_ := Aside0.mk (Kd.C_below HO4.out hb)
 have HR7_ := Aside0.mk (Kd.C_below HR7.out hb)
 have HO7_ := Aside0.mk (Kd.C_below HO7.out hb)
 clear HB CB1 CB3 CB4 HL3 HR4 HO4 HR7 HO7 HBN CBN HGN vn0 fn0 vn1 fn1 vn2 fn2 hb
 generalize (((w8.setCell ⟨g7, 0, none⟩ (.slice A7 rs.length c7)).setCell ⟨g7, 1, none⟩ (.int .i64 nx)).setCell ⟨g7, 2, none⟩ (.int .i64 sq)) = W8 at *
 have HB := HB_
 have CB1 := CB1_
 have CB3 := CB3_
 have CB4 := CB4_
 have HL3 := HL3_
 have HR4 := HR4_
 have HO4 := HO4_
 have HR7 := HR7_
 have HO7 := HO7_
 clear HB_ CB1_ CB3_ CB4_ HL3_ HR4_ HO4_ HR7_ HO7_
 have v10 : W8.cell? ⟨g1, 0, none⟩ = some (.int .i64 a0_0) := (blk_cell CB1.out 0).trans rfl
 have v11 : W8.cell? ⟨g1, 1, none⟩ = some (.slice A0_1 l0_1.length c0_1) := (blk_cell CB1.out 1).trans rfl
 have v30 : W8.cell? ⟨g3, 0, none⟩ = some (.int .i64 a0_0) := (blk_cell CB3.out 0).trans rfl
 have v31 : W8.cell? ⟨g3, 1, none⟩ = some (.slice A3 l0_1.length c3) := (blk_cell CB3.out 1).trans rfl
 have v40 : W8.cell? ⟨g4, 0, none⟩ = some (.slice A4 rs.length c4) := (blk_cell CB4.out 0).trans rfl
 have v41 : W8.cell? ⟨g4, 1, none⟩ = some (.int .i64 nx) := (blk_cell CB4.out 1).trans rfl
 have v42 : W8.cell? ⟨g4, 2, none⟩ = some (.int .i64 sq) := (blk_cell CB4.out 2).trans rfl
 have v70 : W8.cell? ⟨g7, 0, none⟩ = some (.slice A7 rs.length c7) := (blk_cell CB7.out 0).trans rfl
 have v71 : W8.cell? ⟨g7, 1, none⟩ = some (.int .i64 nx) := (blk_cell CB7.out 1).trans rfl
 have v72 : W8.cell? ⟨g7, 2, none⟩ = some (.int .i64 sq) := (blk_cell CB7.out 2).trans rfl
 go_wp2_with (first
  | (go_at_call 13; ((with_reducible refine (dragnetref18_Same.calls k A4 c4 rs nx sq A7 c7 rs nx sq true _ HR4.out HC4.out HR7.out HC7.out HSAME18.out).mono ?_); rintro e_ w9 ⟨rfl, hb⟩; have HB_ := Aside0.mk (below_step HB.out hb); have CB1_ := Aside0.mk (blk_below CB1.out hb); have CB3_ := Aside0.mk (blk_below CB3.out hb); have CB4_ := Aside0.mk (blk_below CB4.out hb); have CB7_ := Aside0.mk (blk_below CB7.out hb); have HL3_ := Aside0.mk (Kd.C_below HL3.out hb); have HR4_ := Aside0.mk (Kd.C_below HR4.out hb); have HO4_ := Aside0.mk (Kd.C_below HO4.out hb); have HR7_ := Aside0.mk (Kd.C_below HR7.out hb); have HO7_ := Aside0.mk (Kd.C_below HO7.out hb); clear HB CB1 CB3 CB4 CB7 HL3 HR4 HO4 HR7 HO7  v10 v11 v30 v31 v40 v41 v42 v70 v71 v72     ; have HB := HB_; have CB1 := CB1_; have CB3 := CB3_; have CB4 := CB4_; have CB7 := CB7_; have HL3 := HL3_; have HR4 := HR4_; have HO4 := HO4_; have HR7 := HR7_; have HO7 := HO7_; clear HB_ CB1_ CB3_ CB4_ CB7_ HL3_ HR4_ HO4_ HR7_ HO7_; have v10 : w9.cell? ⟨g1, 0, none⟩ = some (.int .i64 a0_0) := (blk_cell CB1.out 0).trans rfl; have v11 : w9.cell? ⟨g1, 1, none⟩ = some (.slice A0_1 l0_1.length c0_1) := (blk_cell CB1.out 1).trans rfl; have v30 : w9.cell? ⟨g3, 0, none⟩ = some (.int .i64 a0_0) := (blk_cell CB3.out 0).trans rfl; have v31 : w9.cell? ⟨g3, 1, none⟩ = some (.slice A3 l0_1.length c3) := (blk_cell CB3.out 1).trans rfl; have v40 : w9.cell? ⟨g4, 0, none⟩ = some (.slice A4 rs.length c4) := (blk_cell CB4.out 0).trans rfl; have v41 : w9.cell? ⟨g4, 1, none⟩ = some (.int .i64 nx) := (blk_cell CB4.out 1).trans rfl; have v42 : w9.cell? ⟨g4, 2, none⟩ = some (.int .i64 sq) := (blk_cell CB4.out 2).trans rfl; have v70 : w9.cell? ⟨g7, 0, none⟩ = some (.slice A7 rs.length c7) := (blk_cell CB7.out 0).trans rfl; have v71 : w9.cell? ⟨g7, 1, none⟩ = some (.int .i64 nx) := (blk_cell CB7.out 1).trans rfl; have v72 : w9.cell? ⟨g7, 2, none⟩ = some (.int .i64 sq) := (blk_cell CB7.out 2).trans rfl; clear hb))
  | (go_at_call 22; ((with_reducible refine (ops_same.calls B4 d4 B7 d7 ops _ HO4.out HO7.out HOPS.out).mono ?_); rintro e_ w10 ⟨rfl, hb⟩; have HB_ := Aside0.mk (below_step HB.out hb); have CB1_ := Aside0.mk (blk_below CB1.out hb); have CB3_ := Aside0.mk (blk_below CB3.out hb); have CB4_ := Aside0.mk (blk_below CB4.out hb); have CB7_ := Aside0.mk (blk_below CB7.out hb); have HL3_ := Aside0.mk (Kd.C_below HL3.out hb); have HR4_ := Aside0.mk (Kd.C_below HR4.out hb); have HO4_ := Aside0.mk (Kd.C_below HO4.out hb); have HR7_ := Aside0.mk (Kd.C_below HR7.out hb); have HO7_ := Aside0.mk (Kd.C_below HO7.out hb); clear HB CB1 CB3 CB4 CB7 HL3 HR4 HO4 HR7 HO7  v10 v11 v30 v31 v40 v41 v42 v70 v71 v72     ; have HB := HB_; have CB1 := CB1_; have CB3 := CB3_; have CB4 := CB4_; have CB7 := CB7_; have HL3 := HL3_; have HR4 := HR4_; have HO4 := HO4_; have HR7 := HR7_; have HO7 := HO7_; clear HB_ CB1_ CB3_ CB4_ CB7_ HL3_ HR4_ HO4_ HR7_ HO7_; have v10 : w10.cell? ⟨g1, 0, none⟩ = some (.int .i64 a0_0) := (blk_cell CB1.out 0).trans rfl; have v11 : w10.cell? ⟨g1, 1, none⟩ = some (.slice A0_1 l0_1.length c0_1) := (blk_cell CB1.out 1).trans rfl; have v30 : w10.cell? ⟨g3, 0, none⟩ = some (.int .i64 a0_0) := (blk_cell CB3.out 0).trans rfl; have v31 : w10.cell? ⟨g3, 1, none⟩ = some (.slice A3 l0_1.length c3) := (blk_cell CB3.out 1).trans rfl; have v40 : w10.cell? ⟨g4, 0, none⟩ = some (.slice A4 rs.length c4) := (blk_cell CB4.out 0).trans rfl; have v41 : w10.cell? ⟨g4, 1, none⟩ = some (.int .i64 nx) := (blk_cell CB4.out 1).trans rfl; have v42 : w10.cell? ⟨g4, 2, none⟩ = some (.int .i64 sq) := (blk_cell CB4.out 2).trans rfl; have v70 : w10.cell? ⟨g7, 0, none⟩ = some (.slice A7 rs.length c7) := (blk_cell CB7.out 0).trans rfl; have v71 : w10.cell? ⟨g7, 1, none⟩ = some (.int .i64 nx) := (blk_cell CB7.out 1).trans rfl; have v72 : w10.cell? ⟨g7, 2, none⟩ = some (.int .i64 sq) := (blk_cell CB7.out 2).trans rfl; clear hb))
  | (go_at_call 28; ((with_reducible refine (dragnetref16_Same.calls k a0_0 A3 c3 l0_1 a0_0 A0_1 c0_1 l0_1 true _ HL3.out HC3.out (Kd.C_below HR.out HB.out) HC.out HSAME.out).mono ?_); rintro e_ w11 ⟨rfl, hb⟩; have HB_ := Aside0.mk (below_step HB.out hb); clear HB hb; have HB := HB_; clear HB_)))
 go_ret
 exact ⟨rfl, HB.out⟩
instance (l : List S84) : Decidable (Reach l) := by unfold Reach; exact inferInstance
instance (l : List Int) : Decidable (Bytes l) := by unfold Bytes; exact inferInstance
instance (l : List S84) : Decidable (BytesD l) := by unfold BytesD; exact inferInstance
def dragnetlaw18_ManifestRecovers.f (a0_0 : Int) (l0_1 : List S84) : Option Bool := if Reach l0_1 ∧ BytesD l0_1 then some true else none
theorem dragnetlaw18_ManifestRecovers.calls (a0_0 : Int) (A0_1 : Option Addr) (c0_1 : Nat) (l0_1 : List (S84)) (r : Bool) (w : World) (hr0_1 : Kd.C k84 w A0_1 l0_1.length l0_1) (hc0_1 : l0_1.length ≤ c0_1) (hG : GT w) (h : dragnetlaw18_ManifestRecovers.f a0_0 l0_1 = some r) :
  Calls Tryd.prog 7 #[.agg #[.int .i64 a0_0, .slice A0_1 l0_1.length c0_1]] w fun e w' => e = .returned (.bool r) ∧ Below w.heap.size w w' := by
 unfold dragnetlaw18_ManifestRecovers.f at h
 by_cases hh : Reach l0_1 ∧ BytesD l0_1
 ·rw [if_pos hh] at h
  obtain rfl := Option.some.inj h
  obtain ⟨hr, hb⟩ := hh
  obtain ⟨K, hK⟩ := ref_rec a0_0 l0_1 hr hb
  obtain ⟨h64, h256⟩ := recF_len a0_0 l0_1
  have hl := hr.1
  exact recovers_walk a0_0 A0_1 c0_1 l0_1 (recF a0_0 l0_1).1 (recF a0_0 l0_1).2.1 (recF a0_0 l0_1).2.2.1 (recF a0_0 l0_1).2.2.2.1 (recF a0_0 l0_1).2.2.2.2 (K + 3 * l0_1.length + 1000) w hr0_1 hc0_1 hG
   (at_rounds (fun k => dragnetref16_Copy.mono _ _ k) (show l0_1.length + 1 ≤ K + 3 * l0_1.length + 1000 by omega) (copy_plain a0_0 l0_1 hr)) (own_rec a0_0 l0_1 hr hb) (hK _ (by omega)) (same18_reflk _ _ _ (by omega) _ (by omega)) (by omega)
   (at_rounds (fun k => dragnetref16_Same.mono _ _ _ _ k) (show 2 * l0_1.length + 2 ≤ K + 3 * l0_1.length + 1000 by omega) (same_plain a0_0 l0_1 hl))
 ·rw [if_neg hh] at h
  cases h
theorem bytesD_q {room : Int} {l : List S84} (h : QD room l) : BytesD l := fun x hx => bytes_of_wf (h.2.2 x hx).2.1.2
theorem recovers_q (room : Int) (l : List S84) (hq0 : QD room l) : dragnetlaw18_ManifestRecovers.f room l = some true := by
 unfold dragnetlaw18_ManifestRecovers.f
 rw [if_pos ⟨reach_q hq0, bytesD_q hq0⟩]
end Go.Proofs.YtdcifmonhaklcaaDoor.R
