/- Walks by hand. -/
import Derived.Test.YtdcifmonhaklcaaDoorTbMx9
import Derived.Test.YtdcifmonhaklcaaDoorTbMx8
import Derived.Test.YtdcifmonhaklcaaDoorTbCx
import Derived.Test.YtdcifmonhaklcaaDoorTbPlT
namespace Go.Proofs.YtdcifmonhaklcaaDoor.M
open Go.RowKit Go.Proofs.YtdcifmonhaklcaaDoorW.PrintWords Go.Proofs.YtdcifmonhaklcaaDoorW.PrintLast Go.Proofs.YtdcifmonhaklcaaDoorW.PrintMore
attribute [local go_sem] min2_int min_two -- for this text's walks alone
set_option linter.unusedVariables false
set_option linter.unusedSimpArgs false
set_option maxHeartbeats 8000000 in
set_option maxRecDepth 100000 in
theorem back_no (A0_0 : Option Addr) (c0_0 : Nat) (l0_0 : List (S63)) (a0_1 : Int) (a0_2 : Int) (a1 : Int) (w : World) (hr0 : Kd.C k63 w A0_0 l0_0.length l0_0) (hc0 : l0_0.length ≤ c0_0) (hG : GT w) (hput : manifest_Put.f l0_0 a0_1 a0_2 = some ([], 1)) (hf : dragnetref18_Formed.f l0_0 a0_1 a0_2 = some false) :
    Calls Tryd.prog 4 #[.agg #[.slice A0_0 l0_0.length c0_0, .int .i64 a0_1, .int .i64 a0_2], .int .u16 a1] w fun e w' => e = .returned (.bool true) ∧ Below w.heap.size w w' := by
  have HR := Aside0.mk hr0
  have HC := Aside0.mk hc0
  have HG := Aside0.mk hG
  have HPUT := Aside0.mk hput
  have HB := Aside0.mk (Below.refl w.heap.size w)
  have hu27 := Tryd.underlying27
  have hu22 := Tryd.underlying22
  have HF := Aside0.mk hf
  clear hr0 hc0 hG hput hf
  go_enter Tryd.func4, Tryd.ntmps4
  go_wp2_with (first
    | ((with_reducible refine gate_dst (N := 2) rfl ?_); refine box_event ?hg (N := 2) ?hd (cs := #[.slice A0_0 l0_0.length c0_0, .int .i64 a0_1, .int .i64 a0_2]) (t := 27) ?hr ?_; (case hd => rfl); (case hg => rfl); (case hr => first | (go_simp; done) | (go_simp; rfl)); intro g2 hg2 w1 hbox hb; have CB2 := Aside0.mk hbox; have HB_ := Aside0.mk (below_step HB.out hb); clear HB hb hbox hg2; have HB := HB_; clear HB_; have v20 : w1.cell? ⟨g2, 0, none⟩ = some (.slice A0_0 l0_0.length c0_0) := (blk_cell CB2.out 0).trans rfl; have v21 : w1.cell? ⟨g2, 1, none⟩ = some (.int .i64 a0_1) := (blk_cell CB2.out 1).trans rfl; have v22 : w1.cell? ⟨g2, 2, none⟩ = some (.int .i64 a0_2) := (blk_cell CB2.out 2).trans rfl)
    | (go_at_call 9; ((with_reducible refine (dragnetlaw18_alive.calls true _ (GT.below HG.out HB.out) rfl).mono ?_); rintro e w2 ⟨rfl, hb⟩; have HB_ := Aside0.mk (below_step HB.out hb); have CB2_ := Aside0.mk (blk_below CB2.out hb); clear HB CB2 v20 v21 v22; have HB := HB_; have CB2 := CB2_; clear HB_ CB2_; have v20 : w2.cell? ⟨g2, 0, none⟩ = some (.slice A0_0 l0_0.length c0_0) := (blk_cell CB2.out 0).trans rfl; have v21 : w2.cell? ⟨g2, 1, none⟩ = some (.int .i64 a0_1) := (blk_cell CB2.out 1).trans rfl; have v22 : w2.cell? ⟨g2, 2, none⟩ = some (.int .i64 a0_2) := (blk_cell CB2.out 2).trans rfl; clear hb))
    | (go_at_call 15; ((with_reducible refine (manifest_Put.calls A0_0 c0_0 l0_0 a0_1 a0_2 [] 1 _ (Kd.C_below HR.out HB.out) HC.out (GT.below HG.out HB.out) HPUT.out).mono ?_); rintro e w3 ⟨v3, rfl, hR, hb⟩; obtain ⟨At, ct, rfl⟩ := Kd.R_slice hR; have HTC := Aside0.mk (Kd.R_reads' hR).2.1; have HT := Aside0.mk (Kd.R_reads' hR).2.2; have HB_ := Aside0.mk (below_step HB.out hb); have CB2_ := Aside0.mk (blk_below CB2.out hb); clear HB CB2 v20 v21 v22; have HB := HB_; have CB2 := CB2_; clear HB_ CB2_; have v20 : w3.cell? ⟨g2, 0, none⟩ = some (.slice A0_0 l0_0.length c0_0) := (blk_cell CB2.out 0).trans rfl; have v21 : w3.cell? ⟨g2, 1, none⟩ = some (.int .i64 a0_1) := (blk_cell CB2.out 1).trans rfl; have v22 : w3.cell? ⟨g2, 2, none⟩ = some (.int .i64 a0_2) := (blk_cell CB2.out 2).trans rfl; clear hb hR))
    | (go_at_call 16; ((with_reducible refine (dragnetref18_Formed.calls A0_0 c0_0 l0_0 a0_1 a0_2 false _ (Kd.C_below HR.out HB.out) HC.out HF.out).mono ?_); rintro e w4 ⟨rfl, hb⟩; have HB_ := Aside0.mk (below_step HB.out hb); clear HB hb; have HB := HB_; clear HB_)))
  go_ret
  exact ⟨rfl, HB.out⟩
set_option maxHeartbeats 8000000 in
set_option maxRecDepth 100000 in
theorem back_ok (A0_0 : Option Addr) (c0_0 : Nat) (l0_0 : List (S63)) (a0_1 : Int) (a0_2 : Int) (a1 : Int) (t : List Int) (k : Nat) (w : World) (hr0 : Kd.C k63 w A0_0 l0_0.length l0_0) (hc0 : l0_0.length ≤ c0_0) (hG : GT w) (ha1 : 0 ≤ a1 ∧ a1 < 65536) (hput : manifest_Put.f l0_0 a0_1 a0_2 = some (t, 0)) (htl : 0 < t.length ∧ t.length < 140737488355328) (htake : manifest_Take.f t = some (l0_0, a0_1, a0_2, 0)) (hcut : ∀ m, m < t.length → manifest_Take.f (t.take m) = some ([], 0, 0, 13)) (hsame : dragnetref18_Same.f k l0_0 a0_1 a0_2 l0_0 a0_1 a0_2 = some true) :
    Calls Tryd.prog 4 #[.agg #[.slice A0_0 l0_0.length c0_0, .int .i64 a0_1, .int .i64 a0_2], .int .u16 a1] w fun e w' => e = .returned (.bool true) ∧ Below w.heap.size w w' := by
  have HR := Aside0.mk hr0
  have HC := Aside0.mk hc0
  have HG := Aside0.mk hG
  have HPUT := Aside0.mk hput
  have HB := Aside0.mk (Below.refl w.heap.size w)
  have hu27 := Tryd.underlying27
  have hu22 := Tryd.underlying22
  have HTAKE := Aside0.mk htake
  have HSAME := Aside0.mk hsame
  obtain ⟨m, hm⟩ : ∃ m : Nat, Int.tmod a1 (t.length : Int) = (m : Int) := ⟨(Int.tmod a1 (t.length : Int)).toNat, by rw [Int.tmod_eq_emod_of_nonneg ha1.1]; have := Int.emod_nonneg a1 (show (t.length : Int) ≠ 0 by omega); omega⟩
  have hml : m < t.length := by
    rw [Int.tmod_eq_emod_of_nonneg ha1.1] at hm
    have := Int.emod_lt_of_pos a1 (show (0 : Int) < (t.length : Int) by omega)
    omega
  have HCUT := Aside0.mk (hcut m hml)
  have hwa : wrap64 a1 = a1 := by unfold wrap64; omega
  have hwm : wrap64 (m : Int) = (m : Int) := by unfold wrap64; omega
  have HML := Aside0.mk hml
  have hne0 := eq_false (show ¬ (t.length : Int) = 0 by omega)
  have hne1 := eq_false (show ¬ t.length = 0 by omega)
  have hne2 : ((t.length : Int) == 0) = false := beq_eq_false_iff_ne.mpr (by omega)
  clear hr0 hc0 hG hput htake hsame hcut hml ha1 htl
  go_enter Tryd.func4, Tryd.ntmps4
  go_upto_region 7 with (first
    | ((with_reducible refine gate_dst (N := 2) rfl ?_); refine box_event ?hg (N := 2) ?hd (cs := #[.slice A0_0 l0_0.length c0_0, .int .i64 a0_1, .int .i64 a0_2]) (t := 27) ?hr ?_; (case hd => rfl); (case hg => rfl); (case hr => first | (go_simp; done) | (go_simp; rfl)); intro g2 hg2 w1 hbox hb; have CB2 := Aside0.mk hbox; have HB_ := Aside0.mk (below_step HB.out hb); clear HB hb hbox hg2; have HB := HB_; clear HB_; have v20 : w1.cell? ⟨g2, 0, none⟩ = some (.slice A0_0 l0_0.length c0_0) := (blk_cell CB2.out 0).trans rfl; have v21 : w1.cell? ⟨g2, 1, none⟩ = some (.int .i64 a0_1) := (blk_cell CB2.out 1).trans rfl; have v22 : w1.cell? ⟨g2, 2, none⟩ = some (.int .i64 a0_2) := (blk_cell CB2.out 2).trans rfl)
    | (go_at_call 9; ((with_reducible refine (dragnetlaw18_alive.calls true _ (GT.below HG.out HB.out) rfl).mono ?_); rintro e w2 ⟨rfl, hb⟩; have HB_ := Aside0.mk (below_step HB.out hb); have CB2_ := Aside0.mk (blk_below CB2.out hb); clear HB CB2 v20 v21 v22; have HB := HB_; have CB2 := CB2_; clear HB_ CB2_; have v20 : w2.cell? ⟨g2, 0, none⟩ = some (.slice A0_0 l0_0.length c0_0) := (blk_cell CB2.out 0).trans rfl; have v21 : w2.cell? ⟨g2, 1, none⟩ = some (.int .i64 a0_1) := (blk_cell CB2.out 1).trans rfl; have v22 : w2.cell? ⟨g2, 2, none⟩ = some (.int .i64 a0_2) := (blk_cell CB2.out 2).trans rfl; clear hb))
    | (go_at_call 15; ((with_reducible refine (manifest_Put.calls A0_0 c0_0 l0_0 a0_1 a0_2 t 0 _ (Kd.C_below HR.out HB.out) HC.out (GT.below HG.out HB.out) HPUT.out).mono ?_); rintro e w3 ⟨v3, rfl, hR, hb⟩; obtain ⟨At, ct, rfl⟩ := Kd.R_slice hR; have HTC := Aside0.mk (Kd.R_reads' hR).2.1; have HT := Aside0.mk (Kd.R_reads' hR).2.2; have HB_ := Aside0.mk (below_step HB.out hb); have CB2_ := Aside0.mk (blk_below CB2.out hb); clear HB CB2 v20 v21 v22; have HB := HB_; have CB2 := CB2_; clear HB_ CB2_; have v20 : w3.cell? ⟨g2, 0, none⟩ = some (.slice A0_0 l0_0.length c0_0) := (blk_cell CB2.out 0).trans rfl; have v21 : w3.cell? ⟨g2, 1, none⟩ = some (.int .i64 a0_1) := (blk_cell CB2.out 1).trans rfl; have v22 : w3.cell? ⟨g2, 2, none⟩ = some (.int .i64 a0_2) := (blk_cell CB2.out 2).trans rfl; clear hb hR))
    | (go_at_call 11; ((with_reducible refine (manifest_Take.calls At ct t l0_0 a0_1 a0_2 0 _ HT.out HTC.out (GT.below HG.out HB.out) HTAKE.out).mono ?_); rintro e w4 ⟨v4, rfl, hR, hb⟩; obtain ⟨Av, cv, rfl⟩ := Kd.R_slice hR; have HLC := Aside0.mk (Kd.R_reads' hR).2.1; have HL := Aside0.mk (Kd.R_reads' hR).2.2; have HB_ := Aside0.mk (below_step HB.out hb); have CB2_ := Aside0.mk (blk_below CB2.out hb); have HT_ := Aside0.mk (Kd.C_below HT.out hb); clear HB CB2 HT v20 v21 v22; have HB := HB_; have CB2 := CB2_; have HT := HT_; clear HB_ CB2_ HT_; have v20 : w4.cell? ⟨g2, 0, none⟩ = some (.slice A0_0 l0_0.length c0_0) := (blk_cell CB2.out 0).trans rfl; have v21 : w4.cell? ⟨g2, 1, none⟩ = some (.int .i64 a0_1) := (blk_cell CB2.out 1).trans rfl; have v22 : w4.cell? ⟨g2, 2, none⟩ = some (.int .i64 a0_2) := (blk_cell CB2.out 2).trans rfl; clear hb hR))
    | ((with_reducible refine gate_dst (N := 7) rfl ?_); refine box_event ?hg (N := 7) ?hd (cs := #[.slice none 0 0, .int .i64 0, .int .i64 0]) (t := 27) ?hr ?_; (case hd => rfl); (case hg => rfl); (case hr => first | (go_simp; done) | (go_simp; rfl)); (intro g7 hg7 w5 hbox hb; have CBN := Aside0.mk hbox; have HBN := Aside0.mk hb; have HGN := Aside0.mk hg7; clear hbox hb hg7 v20 v21 v22; have CB2_ := Aside0.mk (blk_below CB2.out HBN.out); have vn0 : w5.cell? ⟨g7, 0, none⟩ = some (.slice none 0 0) := (blk_cell CBN.out 0).trans rfl; have fn0 := blk_frozen CBN.out 0; have vn1 : w5.cell? ⟨g7, 1, none⟩ = some (.int .i64 0) := (blk_cell CBN.out 1).trans rfl; have fn1 := blk_frozen CBN.out 1; have vn2 : w5.cell? ⟨g7, 2, none⟩ = some (.int .i64 0) := (blk_cell CBN.out 2).trans rfl; have fn2 := blk_frozen CBN.out 2)))
  have hb : Below w4.heap.size w4 (((w5.setCell ⟨g7, 0, none⟩ (.slice Av l0_0.length cv)).setCell ⟨g7, 1, none⟩ (.int .i64 a0_1)).setCell ⟨g7, 2, none⟩ (.int .i64 a0_2)) := (below_set (below_set (below_set HBN.out (Nat.le_of_eq HGN.out.symm)) (Nat.le_of_eq HGN.out.symm)) (Nat.le_of_eq HGN.out.symm))
  have CB7 := Aside0.mk (blk_put (cs' := #[.slice Av l0_0.length cv, .int .i64 a0_1, .int .i64 a0_2]) (blk_put (cs' := #[.slice Av l0_0.length cv, .int .i64 a0_1, .int .i64 0]) (blk_put (cs' := #[.slice Av l0_0.length cv, .int .i64 0, .int .i64 0]) CBN.out 0 (.slice Av l0_0.length cv) rfl) 1 (.int .i64 a0_1) rfl) 2 (.int .i64 a0_2) rfl)
  have HB_ := Aside0.mk (below_step HB.out hb)
  have CB2_ := Aside0.mk (blk_below CB2.out hb)
  have HT_ := Aside0.mk (Kd.C_below HT.out hb)
  have HL_ := Aside0.mk (Kd.C_below HL.out hb)
  clear HB CB2 HT HL HBN CBN HGN vn0 vn1 vn2 fn0 fn1 fn2 hb
  generalize (((w5.setCell ⟨g7, 0, none⟩ (.slice Av l0_0.length cv)).setCell ⟨g7, 1, none⟩ (.int .i64 a0_1)).setCell ⟨g7, 2, none⟩ (.int .i64 a0_2)) = W7 at *
  have HB := HB_
  have CB2 := CB2_
  have HT := HT_
  have HL := HL_
  clear HB_ CB2_ HT_ HL_
  have v20 : W7.cell? ⟨g2, 0, none⟩ = some (.slice A0_0 l0_0.length c0_0) := (blk_cell CB2.out 0).trans rfl
  have v21 : W7.cell? ⟨g2, 1, none⟩ = some (.int .i64 a0_1) := (blk_cell CB2.out 1).trans rfl
  have v22 : W7.cell? ⟨g2, 2, none⟩ = some (.int .i64 a0_2) := (blk_cell CB2.out 2).trans rfl
  obtain ⟨i0, hi, hz⟩ := Option.map_eq_some_iff.1 info5
  simp only [Prod.mk.injEq] at hz
  obtain ⟨hsl, hrd, hlen⟩ := print_take_of (P := Tryd.prog) (Value.int .u8) 0 22 5 .i64 Tryd.underlying22 hi hz.2.1 At ct t (m : Int) (by omega) (by have := HML.out; omega) HTC.out
  rw [Int.toNat_natCast] at hsl hrd hlen
  obtain ⟨t2, ht2⟩ : ∃ t2, t2 = t.take m := ⟨_, rfl⟩
  have HT2 : Aside0 (Kd.C (Kd.int .u8) W7 At (t.take m).length (t.take m)) := ⟨Kd.C_of_reads (h1 := fun _ => rfl) (hrd W7 (Kd.reads_of_C (h1 := fun _ => rfl) HT.out))⟩
  rw [← ht2] at hsl hlen HCUT HT2
  have HT2C := Aside0.mk hlen
  clear hrd hlen hi hz ht2
  go_upto_region 8 with (first
    | (go_at_call 11; ((with_reducible refine (manifest_Take.calls At ct t2 [] 0 0 13 _ HT2.out HT2C.out (GT.below HG.out HB.out) HCUT.out).mono ?_); rintro e w6 ⟨v6, rfl, hR, hb⟩; have HB_ := Aside0.mk (below_step HB.out hb); have CB2_ := Aside0.mk (blk_below CB2.out hb); have HL_ := Aside0.mk (Kd.C_below HL.out hb); have CB7_ := Aside0.mk (blk_below CB7.out hb); clear HB CB2 HL CB7 v20 v21 v22; have HB := HB_; have CB2 := CB2_; have HL := HL_; have CB7 := CB7_; clear HB_ CB2_ HL_ CB7_; have v20 : w6.cell? ⟨g2, 0, none⟩ = some (.slice A0_0 l0_0.length c0_0) := (blk_cell CB2.out 0).trans rfl; have v21 : w6.cell? ⟨g2, 1, none⟩ = some (.int .i64 a0_1) := (blk_cell CB2.out 1).trans rfl; have v22 : w6.cell? ⟨g2, 2, none⟩ = some (.int .i64 a0_2) := (blk_cell CB2.out 2).trans rfl; obtain ⟨A6, c6, rfl⟩ := Kd.R_slice hR; clear hb hR))
    | ((with_reducible refine gate_dst (N := 9) rfl ?_); refine box_event ?hg (N := 9) ?hd (cs := #[.slice none 0 0, .int .i64 0, .int .i64 0]) (t := 27) ?hr ?_; (case hd => rfl); (case hg => rfl); (case hr => first | (go_simp; done) | (go_simp; rfl)); (intro g9 hg9 w7 hbox hb; have CBN := Aside0.mk hbox; have HBN := Aside0.mk hb; have HGN := Aside0.mk hg9; clear hbox hb hg9 v20 v21 v22; have CB2_ := Aside0.mk (blk_below CB2.out HBN.out); have CB7_ := Aside0.mk (blk_below CB7.out HBN.out); have vn0 : w7.cell? ⟨g9, 0, none⟩ = some (.slice none 0 0) := (blk_cell CBN.out 0).trans rfl; have fn0 := blk_frozen CBN.out 0; have vn1 : w7.cell? ⟨g9, 1, none⟩ = some (.int .i64 0) := (blk_cell CBN.out 1).trans rfl; have fn1 := blk_frozen CBN.out 1; have vn2 : w7.cell? ⟨g9, 2, none⟩ = some (.int .i64 0) := (blk_cell CBN.out 2).trans rfl; have fn2 := blk_frozen CBN.out 2)))
  have CBN2 := CBN
  have hb : Below w6.heap.size w6 (((w7.setCell ⟨g9, 0, none⟩ (.slice A6 0 c6)).setCell ⟨g9, 1, none⟩ (.int .i64 0)).setCell ⟨g9, 2, none⟩ (.int .i64 0)) := (below_set (below_set (below_set HBN.out (Nat.le_of_eq HGN.out.symm)) (Nat.le_of_eq HGN.out.symm)) (Nat.le_of_eq HGN.out.symm))
  have CB9 := Aside0.mk (blk_put (cs' := #[.slice A6 0 c6, .int .i64 0, .int .i64 0]) (blk_put (cs' := #[.slice A6 0 c6, .int .i64 0, .int .i64 0]) (blk_put (cs' := #[.slice A6 0 c6, .int .i64 0, .int .i64 0]) CBN.out 0 (.slice A6 0 c6) rfl) 1 (.int .i64 0) rfl) 2 (.int .i64 0) rfl)
  have HB_ := Aside0.mk (below_step HB.out hb)
  have CB2_ := Aside0.mk (blk_below CB2.out hb)
  have HL_ := Aside0.mk (Kd.C_below HL.out hb)
  have CB7_ := Aside0.mk (blk_below CB7.out hb)
  clear HB CB2 HL CB7 HBN CBN CBN2 HGN vn0 vn1 vn2 fn0 fn1 fn2 hb
  generalize (((w7.setCell ⟨g9, 0, none⟩ (.slice A6 0 c6)).setCell ⟨g9, 1, none⟩ (.int .i64 0)).setCell ⟨g9, 2, none⟩ (.int .i64 0)) = W9 at *
  have HB := HB_
  have CB2 := CB2_
  have HL := HL_
  have CB7 := CB7_
  clear HB_ CB2_ HL_ CB7_
  have v20 : W9.cell? ⟨g2, 0, none⟩ = some (.slice A0_0 l0_0.length c0_0) := (blk_cell CB2.out 0).trans rfl
  have v21 : W9.cell? ⟨g2, 1, none⟩ = some (.int .i64 a0_1) := (blk_cell CB2.out 1).trans rfl
  have v22 : W9.cell? ⟨g2, 2, none⟩ = some (.int .i64 a0_2) := (blk_cell CB2.out 2).trans rfl
  clear hsl
  have v70 : W9.cell? ⟨g7, 0, none⟩ = some (.slice Av l0_0.length cv) := (blk_cell CB7.out 0).trans rfl
  have v71 : W9.cell? ⟨g7, 1, none⟩ = some (.int .i64 a0_1) := (blk_cell CB7.out 1).trans rfl
  have v72 : W9.cell? ⟨g7, 2, none⟩ = some (.int .i64 a0_2) := (blk_cell CB7.out 2).trans rfl
  go_wp2_with (first
    | (go_at_call 13; ((with_reducible refine (dragnetref18_Same.calls k Av cv l0_0 a0_1 a0_2 A0_0 c0_0 l0_0 a0_1 a0_2 true _ HL.out HLC.out (Kd.C_below HR.out HB.out) HC.out HSAME.out).mono ?_); rintro e w9 ⟨rfl, hb⟩; have HB_ := Aside0.mk (below_step HB.out hb); clear HB hb; have HB := HB_; clear HB_)))
  go_ret
  exact ⟨rfl, HB.out⟩
theorem putB_byteL {v : Int} (h0 : 0 ≤ v) (h : v < 18446744073709551616) : ByteL (putB v) := by
  unfold putB
  by_cases c : v ≤ 247
  · rw [if_pos c]
    intro x hx
    rw [List.mem_singleton] at hx
    omega
  · obtain ⟨_, s2, s3⟩ := szN_low (by omega : 0 < v) h
    rw [if_neg c]
    intro x hx
    rcases List.mem_cons.1 hx with rfl | hx
    · omega
    · exact leN_bytes _ _ x hx
theorem takeN_putB {v : Int} (h0 : 0 ≤ v) (h : v < 18446744073709551616) (r : List Int) : takeN (putB v ++ r) = (v, ((putB v).length : Int), 0) := by
  unfold putB
  by_cases c : v ≤ 247
  · rw [if_pos c, List.singleton_append, takeN_cons, if_pos c]
    rfl
  · obtain ⟨s1, s2, s3⟩ := szN_low (by omega : 0 < v) h
    have hl := leN_length (szN v) v
    have e1 : (247 + (szN v : Int) - 247).toNat = szN v := by omega
    have e2 : (leN (szN v) v ++ r).take (szN v) = leN (szN v) v := by rw [List.take_append_of_le_length (by omega), List.take_of_length_le (by omega)]
    rw [if_neg c, List.cons_append, takeN_cons, if_neg (by omega), if_neg (by rw [List.length_append]; omega), e1, e2, leV_leN _ _ h0 s1, if_neg (by omega), List.length_cons, hl]
    congr 2
    omega
theorem stepT_put {v : Int} (h0 : 0 ≤ v) (h : v ≤ 1099511627776) (r : List Int) (b : Bool) : stepT (putB v ++ r) b = (v, r, b) := by
  unfold stepT
  rw [takeN_putB h0 (by omega), if_neg (fun h2 => h2.elim (fun h3 => h3 rfl) (fun h3 => by have : (1099511627776 : Int) < v := h3; omega))]
  show (v, (putB v ++ r).drop ((putB v).length : Int).toNat, b) = _
  rw [Int.toNat_natCast, List.drop_left]
def RngT (x : S63) : Prop := (0 ≤ x.f0 ∧ x.f0 ≤ 1099511627776) ∧ (0 ≤ x.f1 ∧ x.f1 ≤ 1099511627776) ∧ (0 ≤ x.f2 ∧ x.f2 ≤ 1099511627776) ∧ (0 ≤ x.f3 ∧ x.f3 ≤ 1099511627776)
theorem ref4_put {x : S63} (h : RngT x) (r : List Int) : ref4 (refB x ++ r) false = x ∧ take4 (refB x ++ r) false 4 = (r, false) := by
  have e0 : refB x ++ r = putB x.f0 ++ (putB x.f1 ++ (putB x.f2 ++ (putB x.f3 ++ r))) := by unfold refB; simp only [List.append_assoc]
  rw [e0]
  have t1 : take4 (putB x.f0 ++ (putB x.f1 ++ (putB x.f2 ++ (putB x.f3 ++ r)))) false 1 = (putB x.f1 ++ (putB x.f2 ++ (putB x.f3 ++ r)), false) := by
    show (stepT _ false).2 = _
    rw [show take4 (putB x.f0 ++ (putB x.f1 ++ (putB x.f2 ++ (putB x.f3 ++ r)))) false 0 = (putB x.f0 ++ (putB x.f1 ++ (putB x.f2 ++ (putB x.f3 ++ r))), false) from rfl, stepT_put h.1.1 h.1.2]
  have t2 : take4 (putB x.f0 ++ (putB x.f1 ++ (putB x.f2 ++ (putB x.f3 ++ r)))) false 2 = (putB x.f2 ++ (putB x.f3 ++ r), false) := by
    show (stepT (take4 _ false 1).1 (take4 _ false 1).2).2 = _
    rw [t1, stepT_put h.2.1.1 h.2.1.2]
  have t3 : take4 (putB x.f0 ++ (putB x.f1 ++ (putB x.f2 ++ (putB x.f3 ++ r)))) false 3 = (putB x.f3 ++ r, false) := by
    show (stepT (take4 _ false 2).1 (take4 _ false 2).2).2 = _
    rw [t2, stepT_put h.2.2.1.1 h.2.2.1.2]
  have t4 : take4 (putB x.f0 ++ (putB x.f1 ++ (putB x.f2 ++ (putB x.f3 ++ r)))) false 4 = (r, false) := by
    show (stepT (take4 _ false 3).1 (take4 _ false 3).2).2 = _
    rw [t3, stepT_put h.2.2.2.1 h.2.2.2.2]
  refine ⟨?_, t4⟩
  unfold ref4 fld4
  rw [t1, t2, t3, show take4 (putB x.f0 ++ (putB x.f1 ++ (putB x.f2 ++ (putB x.f3 ++ r)))) false 0 = (putB x.f0 ++ (putB x.f1 ++ (putB x.f2 ++ (putB x.f3 ++ r))), false) from rfl, stepT_put h.1.1 h.1.2, stepT_put h.2.1.1 h.2.1.2, stepT_put h.2.2.1.1 h.2.2.1.2, stepT_put h.2.2.2.1 h.2.2.2.2]
theorem loop_put : ∀ (l : List S63), (∀ x ∈ l, RngT x) → ∀ r : List Int, loopT l.length (flatB l ++ r) false = (l, r, false)
  | [], _, _ => rfl
  | x :: m, h, r => by
    obtain ⟨h1, h2⟩ := ref4_put (h x List.mem_cons_self) (flatB m ++ r)
    rw [List.length_cons, flatB, List.append_assoc]
    show (ref4 _ false :: (loopT m.length (take4 _ false 4).1 (take4 _ false 4).2).1, (loopT m.length (take4 _ false 4).1 (take4 _ false 4).2).2) = _
    rw [h1, h2, loop_put m (fun y hy => h y (List.mem_cons_of_mem _ hy)) r]
theorem formed_rng {l : List S63} {a b : Int} (h : FormedC l a b) : ∀ x ∈ l, RngT x := by
  intro x hx
  obtain ⟨i, hi, hxi⟩ := List.mem_iff_getElem.1 hx
  have h1 := h.2.2.2.2.2 i hi
  have h2 := endC_ge (i := i) (fun j hj => h.2.2.2.2.2 j (by omega))
  have h3 := h.2.2.1
  have h4 := h.2.2.2.2.1
  have e : rd_T63 l (i : Int) = x := by
    unfold rd_T63
    rw [Int.toNat_natCast, List.getD_eq_getElem?_getD, List.getElem?_eq_getElem hi, hxi]
    rfl
  unfold okC at h1
  rw [e] at h1
  unfold RngT
  omega
theorem take_bytes {l : List S63} {a b : Int} (h : FormedC l a b) : takeM (bytesC l a b) = (l, a, b, 0) := by
  have e0 : bytesC l a b = putB (l.length : Int) ++ (flatB l ++ (putB a ++ (putB b ++ []))) := by
    unfold bytesC accB
    rw [List.take_length, List.append_nil]
    simp only [List.append_assoc]
  have h1 := h.1
  have h2 := h.2.1
  have h3 := h.2.2.1
  have h4 := h.2.2.2.1
  have h5 := h.2.2.2.2.1
  rw [e0]
  unfold takeM
  simp only []
  rw [stepT_put (by omega) (by omega)]
  simp only [Int.toNat_natCast]
  rw [loop_put l (formed_rng h)]
  simp only []
  rw [stepT_put h2 (by omega)]
  simp only []
  rw [stepT_put h4 h5]
  simp only []
  rw [if_neg (fun h => by rcases h with h | h | h; cases h; cases h; exact h (by assumption))]
theorem flat_byte : ∀ (l : List S63), (∀ x ∈ l, RngT x) → ByteL (flatB l)
  | [], _ => fun x hx => by cases hx
  | y :: m, h => by
    have hy := h y List.mem_cons_self
    unfold RngT at hy
    have hm := flat_byte m (fun z hz => h z (List.mem_cons_of_mem _ hz))
    intro x hx
    unfold flatB refB at hx
    simp only [List.mem_append] at hx
    rcases hx with (((hx | hx) | hx) | hx) | hx
    · exact putB_byteL (by omega) (by omega) x hx
    · exact putB_byteL (by omega) (by omega) x hx
    · exact putB_byteL (by omega) (by omega) x hx
    · exact putB_byteL (by omega) (by omega) x hx
    · exact hm x hx
theorem bytesC_byte {l : List S63} {a b : Int} (h : FormedC l a b) : ByteL (bytesC l a b) := by
  have h1 := h.1
  have h2 := h.2.1
  have h3 := h.2.2.1
  have h4 := h.2.2.2.1
  have h5 := h.2.2.2.2.1
  intro x hx
  unfold bytesC accB at hx
  rw [List.take_length] at hx
  simp only [List.mem_append] at hx
  rcases hx with ((hx | hx) | hx) | hx
  · exact putB_byteL (by omega) (by omega) x hx
  · exact flat_byte l (formed_rng h) x hx
  · exact putB_byteL (by omega) (by omega) x hx
  · exact putB_byteL (by omega) (by omega) x hx
theorem bytesC_len {l : List S63} {a b : Int} (h : FormedC l a b) : (bytesC l a b).length ≤ 3000 := by
  have h1 := accB_length h l.length (Nat.le_refl _)
  have h2 := h.1
  have h3 := (putB_length h.2.1 (by have := h.2.2.1; omega)).2
  have h4 := (putB_length h.2.2.2.1 (by have := h.2.2.2.2.1; omega)).2
  unfold bytesC
  rw [List.length_append, List.length_append]
  omega
theorem take_frame {l : List S63} {a b : Int} (h : FormedC l a b) : takeF (frame (bytesC l a b)) = (l, a, b, 0) := by
  unfold takeF
  rw [unwrap_frame (bytesC_byte h) (by have := bytesC_len h; omega), if_pos rfl]
  exact take_bytes h
theorem cut_frame {p : List Int} (hp : Bytes p) (hl : p.length ≤ 16777216) {m : Nat} (hm : m < (frame p).length) : (unwrap ((frame p).take m)).2 ≠ 0 := by
  have hlen := frame_length p
  have htl : ((frame p).take m).length = m := by rw [List.length_take]; omega
  unfold unwrap first
  by_cases c : m < 8
  · rw [if_neg (by rw [htl]; omega), if_pos (by rw [htl]; omega)]
    decide
  · have e : num ((frame p).take m) = (p.length : Int) := by
      have h1 : num (frame p) = (p.length : Int) := by
        unfold frame head
        rw [List.append_assoc, num_append (by simp [four]), num_four (by omega) (by omega)]
      rw [← h1, ← num_append (a := (frame p).take m) (r := (frame p).drop m) (by rw [htl]; omega), List.take_append_drop]
    rw [e, htl, if_neg (by omega), if_neg (by omega), if_neg (by omega), if_pos (by omega)]
    decide
theorem take_cut {l : List S63} {a b : Int} (h : FormedC l a b) {m : Nat} (hm : m < (frame (bytesC l a b)).length) : takeF ((frame (bytesC l a b)).take m) = ([], 0, 0, 13) := by
  unfold takeF
  rw [if_neg (cut_frame (bytesC_byte h) (by have := bytesC_len h; omega) hm)]
def dragnetlaw18_ManifestBack.f (l0_0 : List (S63)) (a0_1 : Int) (a0_2 : Int) (a1 : Int) : Option Bool := if l0_0.length < 140737488355328 ∧ 0 ≤ a1 ∧ a1 < 65536 then some true else none
theorem dragnetlaw18_ManifestBack.calls (A0_0 : Option Addr) (c0_0 : Nat) (l0_0 : List (S63)) (a0_1 : Int) (a0_2 : Int) (a1 : Int) (r : Bool) (w : World) (hr0_0 : Kd.C k63 w A0_0 l0_0.length l0_0) (hc0_0 : l0_0.length ≤ c0_0) (hG : GT w) (h : dragnetlaw18_ManifestBack.f l0_0 a0_1 a0_2 a1 = some r) :
    Calls Tryd.prog 4 #[.agg #[.slice A0_0 l0_0.length c0_0, .int .i64 a0_1, .int .i64 a0_2], .int .u16 a1] w fun e w' => e = .returned (.bool r) ∧ Below w.heap.size w w' := by
  unfold dragnetlaw18_ManifestBack.f at h
  by_cases hh : l0_0.length < 140737488355328 ∧ 0 ≤ a1 ∧ a1 < 65536
  · rw [if_pos hh] at h
    obtain rfl := Option.some.inj h
    by_cases hf : FormedC l0_0 a0_1 a0_2
    · have hb := bytesC_byte hf
      have hbl := bytesC_len hf
      have hfb : Bytes (frame (bytesC l0_0 a0_1 a0_2)) := frame_bytes hb
      have hfl := frame_length (bytesC l0_0 a0_1 a0_2)
      refine back_ok A0_0 c0_0 l0_0 a0_1 a0_2 a1 (frame (bytesC l0_0 a0_1 a0_2)) (l0_0.length + 2) w hr0_0 hc0_0 hG hh.2 ?_ ⟨by omega, by omega⟩ ?_ ?_ (same18_refl l0_0 a0_1 a0_2 (by omega))
      · unfold manifest_Put.f
        rw [if_pos hh.1, if_pos hf, wrap_f _ (by omega)]
      · rw [mtake_f hfb (by omega), take_frame hf]
      · intro m hm
        rw [mtake_f (fun x hx => hfb x (List.mem_of_mem_take hx)) (by rw [List.length_take]; omega), take_cut hf hm]
    · refine back_no A0_0 c0_0 l0_0 a0_1 a0_2 a1 w hr0_0 hc0_0 hG ?_ ?_
      · unfold manifest_Put.f
        rw [if_pos hh.1, if_neg hf]
      · unfold dragnetref18_Formed.f
        rw [if_pos hh.1, decide_eq_false hf]
  · rw [if_neg hh] at h
    cases h
end Go.Proofs.YtdcifmonhaklcaaDoor.M
