/- Walks by hand. -/
import Derived.Test.YtdcifmonhaklcaaDoorTaAlX
namespace Go.Proofs.YtdcifmonhaklcaaDoor.A
open Go.RowKit YtdcifmonhaklcaaDoorW.PrintWords YtdcifmonhaklcaaDoorW.PrintLast YtdcifmonhaklcaaDoorW.PrintMore
attribute [local go_sem] max2_int min2_int max_two min_two
set_option linter.unusedVariables false
set_option linter.unusedSimpArgs false
set_option maxHeartbeats 8000000 in
set_option maxRecDepth 100000 in
theorem all_good (a0_0 : Int) (A0_1 : Option Addr) (c0_1 : Nat) (l0_1 : List (S84)) (A1_0 : Option Addr) (c1_0 : Nat) (l1_0 : List (S63)) (a1_1 : Int) (a1_2 : Int) (A2 : Option Addr) (c2 : Nat) (l2 : List (S97)) (w : World) (hr0_1 : Kd.C k84 w A0_1 l0_1.length l0_1) (hc0_1 : l0_1.length ≤ c0_1) (hr1_0 : Kd.C k63 w A1_0 l1_0.length l1_0) (hc1_0 : l1_0.length ≤ c1_0) (hr2 : Kd.C k97 w A2 l2.length l2) (hc2 : l2.length ≤ c2) (hG : GT w) (rs : List S63) (nx sq : Int) (ops : List S60) (G : List ByteArray) (hrec : manifest_Recover.f a0_0 l0_1 = some (rs, nx, sq, ops, 0)) (hgood : GoodM a0_0 l0_1 rs nx sq) (hops : ops = G.map opR) (hgo : G = goL l0_1 rs) (hll : l1_0.length * 32 ≤ 140737488351232) (hkk : KeepsOK l2) :
  Calls Tryd.prog 8 #[.agg #[.int .i64 a0_0, .slice A0_1 l0_1.length c0_1], .agg #[.slice A1_0 l1_0.length c1_0, .int .i64 a1_1, .int .i64 a1_2], .slice A2 l2.length c2] w fun e w' => e = .returned (.bool true) ∧ Below w.heap.size w w' := by
 have HR := Aside0.mk hr0_1
 have HC := Aside0.mk hc0_1
 have HR1 := Aside0.mk hr1_0
 have HC1 := Aside0.mk hc1_0
 have HR2 := Aside0.mk hr2
 have HC2 := Aside0.mk hc2
 have HG := Aside0.mk hG
 have HB := Aside0.mk (Below.refl w.heap.size w)
 clear hr0_1 hc0_1 hr1_0 hc1_0 hr2 hc2 hG
 have hu50 := Tryd.underlying50
 have hu27 := Tryd.underlying27
 have hu60 := Tryd.underlying60
 have hu63 := Tryd.underlying63
 have hu42 := Tryd.underlying42
 have hu25 := Tryd.underlying25
 have hu56 := Tryd.underlying56
 have HREC := Aside0.mk hrec
 have HGOOD := Aside0.mk hgood
 have HOPS := Aside0.mk hops
 have HGN := Aside0.mk (show G.Nodup by rw [hgo]; exact go_nodup (formed_srt hgood.1) rs)
 have HGS0 := Aside0.mk (show ∀ n ∈ G, n ∉ recStay rs rs.length by rw [hgo]; exact fun n hn => (mem_go.1 hn).2)
 have HCL0 := Aside0.mk (show Clr a0_0 rs nx sq G 0 l0_1 by rw [hgo]; exact clr_start hgood)
 have HOL := Aside0.mk (show ops.length ≤ 256 by rw [hops, hgo, List.length_map]; exact go_len hgood)
 have HLL := Aside0.mk hll
 have HKK := Aside0.mk hkk
 clear hrec hgood hops hgo hll hkk
 go_enter Tryd.func8, Tryd.ntmps8
 go_upto_region 4 with (first
  | ((with_reducible refine gate_dst (N := 3) rfl ?_); refine box_event ?hg (N := 3) ?hd (cs := #[.int .i64 a0_0, .slice A0_1 l0_1.length c0_1]) (t := 50) ?hr ?_; (case hd => rfl); (case hg => rfl); (case hr => first | (go_simp; done) | (go_simp; rfl)); (intro g3 hg3 w1 hbox hb; have CB3 := Aside0.mk hbox; have G3 := Aside0.mk (show w.heap.size ≤ g3 by rw [hg3]; exact below_size HB.out); have HB_ := Aside0.mk (below_step HB.out hb); clear HB hb hbox hg3; have HB := HB_; clear HB_; have v30 : w1.cell? ⟨g3, 0, none⟩ = some (.int .i64 a0_0) := (blk_cell CB3.out 0).trans rfl; have v31 : w1.cell? ⟨g3, 1, none⟩ = some (.slice A0_1 l0_1.length c0_1) := (blk_cell CB3.out 1).trans rfl))
  | ((with_reducible refine gate_dst (N := 4) rfl ?_); refine box_event ?hg (N := 4) ?hd (cs := #[.slice A1_0 l1_0.length c1_0, .int .i64 a1_1, .int .i64 a1_2]) (t := 27) ?hr ?_; (case hd => rfl); (case hg => rfl); (case hr => first | (go_simp; done) | (go_simp; rfl)); (intro g4 hg4 w2 hbox hb; have CB4 := Aside0.mk hbox; have G4 := Aside0.mk (show g3 < g4 by rw [hg4]; exact blk_lt CB3.out); have HB_ := Aside0.mk (below_step HB.out hb); have CB3_ := Aside0.mk (blk_below CB3.out hb); clear HB CB3 hb hbox hg4 v30 v31; have HB := HB_; have CB3 := CB3_; clear HB_ CB3_; have v30 : w2.cell? ⟨g3, 0, none⟩ = some (.int .i64 a0_0) := (blk_cell CB3.out 0).trans rfl; have v31 : w2.cell? ⟨g3, 1, none⟩ = some (.slice A0_1 l0_1.length c0_1) := (blk_cell CB3.out 1).trans rfl; have v40 : w2.cell? ⟨g4, 0, none⟩ = some (.slice A1_0 l1_0.length c1_0) := (blk_cell CB4.out 0).trans rfl; have v41 : w2.cell? ⟨g4, 1, none⟩ = some (.int .i64 a1_1) := (blk_cell CB4.out 1).trans rfl; have v42 : w2.cell? ⟨g4, 2, none⟩ = some (.int .i64 a1_2) := (blk_cell CB4.out 2).trans rfl))
  | (go_at_call 9; ((with_reducible refine (dragnetlaw18_alive.calls true _ (GT.below HG.out HB.out) rfl).mono ?_); rintro e_ w3 ⟨rfl, hb⟩; have HB_ := Aside0.mk (below_step HB.out hb); have CB3_ := Aside0.mk (blk_below CB3.out hb); have CB4_ := Aside0.mk (blk_below CB4.out hb); clear HB CB3 CB4 hb v30 v31 v40 v41 v42; have HB := HB_; have CB3 := CB3_; have CB4 := CB4_; clear HB_ CB3_ CB4_; have v30 : w3.cell? ⟨g3, 0, none⟩ = some (.int .i64 a0_0) := (blk_cell CB3.out 0).trans rfl; have v31 : w3.cell? ⟨g3, 1, none⟩ = some (.slice A0_1 l0_1.length c0_1) := (blk_cell CB3.out 1).trans rfl; have v40 : w3.cell? ⟨g4, 0, none⟩ = some (.slice A1_0 l1_0.length c1_0) := (blk_cell CB4.out 0).trans rfl; have v41 : w3.cell? ⟨g4, 1, none⟩ = some (.int .i64 a1_1) := (blk_cell CB4.out 1).trans rfl; have v42 : w3.cell? ⟨g4, 2, none⟩ = some (.int .i64 a1_2) := (blk_cell CB4.out 2).trans rfl))
  | (go_at_call 26; ((with_reducible refine (manifest_Recover.calls a0_0 A0_1 c0_1 l0_1 rs nx sq ops 0 _ (Kd.C_below HR.out HB.out) HC.out (GT.below HG.out HB.out) HREC.out).mono ?_); rintro e_ w4 ⟨v0, v3, rfl, hR, hS, hb⟩; obtain ⟨A7, d7, rfl⟩ := Kd.R_slice hR; obtain ⟨A8, d8, rfl⟩ := Kd.S_slice hS; have G4b := Aside0.mk (blk_lt CB4.out); have HS7 := Aside0.mk (Kd.V_bound (Kd.V_mono (Kd.R_V (base' := 0) (Kd.R_bound hR)) (ok' := fun k => g4 < k) (fun k hk => by have := G4b.out; have := hk.2.1; omega))); have HO8 := Aside0.mk (Kd.V_bound (Kd.V_mono (Kd.S_V (base' := 0) (Kd.S_bound hS)) (ok' := fun k => g4 < k) (fun k hk => by have := G4b.out; have := hk.2.1; omega))); have HB_ := Aside0.mk (below_step HB.out hb); have CB3_ := Aside0.mk (blk_below CB3.out hb); have CB4_ := Aside0.mk (blk_below CB4.out hb); clear HB CB3 CB4 hb hR hS G4b v30 v31 v40 v41 v42; have HB := HB_; have CB3 := CB3_; have CB4 := CB4_; clear HB_ CB3_ CB4_))
  | ((with_reducible refine gate_dst (N := 7) rfl ?_); refine box_event ?hg (N := 7) ?hd (cs := #[.slice none 0 0, .int .i64 0, .int .i64 0]) (t := 27) ?hr ?_; (case hd => rfl); (case hg => rfl); (case hr => first | (go_simp; done) | (go_simp; rfl)); (intro g7 hg7 w5 hbox hb; have CB7 := Aside0.mk hbox; have G7 := Aside0.mk (show g4 < g7 by rw [hg7]; exact blk_lt CB4.out); have HS7_ := Aside0.mk (Kd.V_mono (Kd.V_below HS7.out hb) (ok' := fun k => g4 < k ∧ k < g7) (fun k hk => ⟨hk.1, by have := hk.2; omega⟩)); have HO8_ := Aside0.mk (Kd.V_mono (Kd.V_below HO8.out hb) (ok' := fun k => g4 < k ∧ k < g7) (fun k hk => ⟨hk.1, by have := hk.2; omega⟩)); have HB_ := Aside0.mk (below_step HB.out hb); have CB3_ := Aside0.mk (blk_below CB3.out hb); have CB4_ := Aside0.mk (blk_below CB4.out hb); clear HB CB3 CB4 HS7 HO8 hb hbox hg7; have HB := HB_; have CB3 := CB3_; have CB4 := CB4_; have HS7 := HS7_; have HO8 := HO8_; clear HB_ CB3_ CB4_ HS7_ HO8_; have v70 : w5.cell? ⟨g7, 0, none⟩ = some (.slice none 0 0) := (blk_cell CB7.out 0).trans rfl; have v71 : w5.cell? ⟨g7, 1, none⟩ = some (.int .i64 0) := (blk_cell CB7.out 1).trans rfl; have v72 : w5.cell? ⟨g7, 2, none⟩ = some (.int .i64 0) := (blk_cell CB7.out 2).trans rfl; have f70 := blk_frozen CB7.out 0; have f71 := blk_frozen CB7.out 1; have f72 := blk_frozen CB7.out 2)))
 have GW7 := Aside0.mk (show w.heap.size ≤ g7 by have := G3.out; have := G4.out; have := G7.out; omega)
 have HBx : Aside0 (Below w.heap.size w ((((((w5).setCell ⟨g7, 0, none⟩ (.slice A7 rs.length d7))).setCell ⟨g7, 1, none⟩ (.int .i64 nx))).setCell ⟨g7, 2, none⟩ (.int .i64 sq))) := ⟨(below_set (below_set (below_set HB.out GW7.out) GW7.out) GW7.out)⟩
 have HC7 := Aside0.mk (blk_put (cs' := #[.slice A7 rs.length d7, .int .i64 nx, .int .i64 sq]) (blk_put (cs' := #[.slice A7 rs.length d7, .int .i64 nx, .int .i64 0]) (blk_put (cs' := #[.slice A7 rs.length d7, .int .i64 0, .int .i64 0]) CB7.out 0 (.slice A7 rs.length d7) rfl) 1 (.int .i64 nx) rfl) 2 (.int .i64 sq) rfl)
 have HX := Aside0.mk (AX.mk (N := (((((((w5).setCell ⟨g7, 0, none⟩ (.slice A7 rs.length d7))).setCell ⟨g7, 1, none⟩ (.int .i64 nx))).setCell ⟨g7, 2, none⟩ (.int .i64 sq))).heap.size) HBx.out (blk_far (blk_far (blk_far CB3.out (show g3 ≠ g7 by have := G4.out; have := G7.out; omega) _) (show g3 ≠ g7 by have := G4.out; have := G7.out; omega) _) (show g3 ≠ g7 by have := G4.out; have := G7.out; omega) _) (blk_far (blk_far (blk_far CB4.out (show g4 ≠ g7 by have := G7.out; omega) _) (show g4 ≠ g7 by have := G7.out; omega) _) (show g4 ≠ g7 by have := G7.out; omega) _) HC7.out
  (Kd.V_mono (Kd.V_below (Kd.V_mk (e := 84) (base := 0) HC.out (Kd.C_F heap84 HR.out)) HBx.out) (fun k hk => ⟨⟨by have := G3.out; omega, by have := G3.out; have := G4.out; omega⟩, Nat.lt_of_lt_of_le hk HBx.out.size⟩))
  (Kd.V_mono (Kd.V_below (Kd.V_mk (e := 63) (base := 0) HC1.out (Kd.C_F heap63 HR1.out)) HBx.out) (fun k hk => ⟨⟨by have := G3.out; omega, by have := G3.out; have := G4.out; omega⟩, Nat.lt_of_lt_of_le hk HBx.out.size⟩))
  (Kd.V_mono (Kd.V_far (Kd.V_far (Kd.V_far HS7.out (fun k hk => Nat.ne_of_lt hk.2) _) (fun k hk => Nat.ne_of_lt hk.2) _) (fun k hk => Nat.ne_of_lt hk.2) _) (fun k hk => ⟨⟨by have := G4.out; omega, by omega⟩, Nat.lt_trans hk.2 (blk_lt HC7.out)⟩))
  (Kd.V_mono (Kd.V_far (Kd.V_far (Kd.V_far HO8.out (fun k hk => Nat.ne_of_lt hk.2) _) (fun k hk => Nat.ne_of_lt hk.2) _) (fun k hk => Nat.ne_of_lt hk.2) _) (fun k hk => ⟨⟨by have := G4.out; omega, by omega⟩, Nat.lt_trans hk.2 (blk_lt HC7.out)⟩))
  G3.out G4.out G7.out ⟨blk_lt HC7.out, Nat.le_refl _⟩)
 clear HBx HC7 GW7 HB CB3 CB4 CB7 HS7 HO8 v70 v71 v72 f70 f71 f72
 generalize ((((((w5).setCell ⟨g7, 0, none⟩ (.slice A7 rs.length d7))).setCell ⟨g7, 1, none⟩ (.int .i64 nx))).setCell ⟨g7, 2, none⟩ (.int .i64 sq)) = W7 at *
 obtain ⟨v30, v31, f30, f31, v40, v41, v42, f40, v70, v71, v72⟩ := HX.out.vis
 go_wp2
 go_loopw [10] (fun v10 w' => ∃ (i N : Nat) (A : Option Addr) (c : Nat) (L : List S84), v10 = .int .i64 i ∧ i ≤ ops.length ∧ Aside0 (Clr a0_0 rs nx sq G i L) ∧ Aside0 (AX w w' N g3 g4 g7 a0_0 A c L A1_0 c1_0 l1_0 a1_1 a1_2 A7 d7 rs nx sq A8 d8 ops)) (fun v10 _ => ops.length - (intOf v10).toNat)
 case atStart => exact ⟨0, _, _, _, _, rfl, Nat.zero_le _, HCL0, HX⟩
 case round =>
  clear HX HCL0 v30 v31 f30 f31 v40 v41 v42 f40 v70 v71 v72
  obtain ⟨i, N, A, c, L, rfl, hil, HCL, HX⟩ := hrel
  by_cases cs : i < ops.length
  ·have csd := decide_eq_true (show (i : Int) < (ops.length : Int) by omega)
   obtain ⟨v30, v31, f30, f31, v40, v41, v42, f40, v70, v71, v72⟩ := HX.out.vis
   obtain ⟨nm, L2, hdo, hcl2, hop⟩ := rm_step HOPS.out HGN.out HGS0.out HCL.out cs
   have HCL2 := Aside0.mk hcl2
   have HDO := Aside0.mk hdo
   clear hcl2 hdo HCL
   obtain ⟨ad, A3, e3, had, hx0, hx1, hx2, hx3, hc3, hC3⟩ := at_T60 (Kd.V_reads' HX.out.hO).2.2 (i : Int) (by omega) (by omega)
   subst had
   rw [Int.toNat_natCast, hop] at hx0 hx1 hx2 hx3
   rw [hop] at hc3 hC3
   clear hop
   replace hx0 : wr.cell? (ad.add (i * 4)) = some (.int .i64 4) := hx0
   replace hx1 : wr.cell? ⟨(ad.add (i * 4)).block, (ad.add (i * 4)).off + 1, none⟩ = some (.string nm) := hx1
   replace hx2 : wr.cell? ⟨(ad.add (i * 4)).block, (ad.add (i * 4)).off + 2, none⟩ = some (.string ⟨#[]⟩) := hx2
   replace hx3 : wr.cell? ⟨(ad.add (i * 4)).block, (ad.add (i * 4)).off + 3, none⟩ = some (.slice A3 0 e3) := hx3
   have HC3 := Aside0.mk (show Kd.C (Kd.int .u8) wr.drew A3 0 [] from Kd.C_drew hC3)
   have HN3 := Aside0.mk (show ([] : List Int).length = 0 from rfl)
   have HLE3 := Aside0.mk (show 0 ≤ e3 from Nat.zero_le _)
   clear hc3 hC3
   have q0 := eq_true (show (0 : Int) ≤ (i : Int) by omega)
   have q1 := eq_true (show (i : Int) < (ops.length : Int) by omega)
   have hwr : IntKind.i64.wrap ((i : Int) + 1) = ((i + 1 : Nat) : Int) := by rw [IntKind.wrap_i64]; have := HOL.out; omega
   go_upto_region 9 with (first
    | fail)
   have HX_ := Aside0.mk HX.out.drew
   have v30_ : wr.drew.cell? ⟨g3, 0, none⟩ = some (.int .i64 a0_0) := v30
   have v31_ : wr.drew.cell? ⟨g3, 1, none⟩ = some (.slice A L.length c) := v31
   have hx0_ : wr.drew.cell? (ad.add (i * 4)) = some (.int .i64 4) := hx0
   have hx1_ : wr.drew.cell? ⟨(ad.add (i * 4)).block, (ad.add (i * 4)).off + 1, none⟩ = some (.string nm) := hx1
   have hx2_ : wr.drew.cell? ⟨(ad.add (i * 4)).block, (ad.add (i * 4)).off + 2, none⟩ = some (.string ⟨#[]⟩) := hx2
   have hx3_ : wr.drew.cell? ⟨(ad.add (i * 4)).block, (ad.add (i * 4)).off + 3, none⟩ = some (.slice A3 0 e3) := hx3
   clear HX hx0 hx1 hx2 hx3 v30 v31 f30 f31 v40 v41 v42 f40 v70 v71 v72
   have HX := HX_
   have v30 := v30_
   have v31 := v31_
   have hx0 := hx0_
   have hx1 := hx1_
   have hx2 := hx2_
   have hx3 := hx3_
   clear HX_ v30_ v31_ hx0_ hx1_ hx2_ hx3_
   refine start_ (n := 12) (S := fun w' => w'.cell? ⟨g3, 0, none⟩ = some (.int .i64 a0_0) ∧ w'.cell? ⟨g3, 1, none⟩ = some (.slice A L.length c) ∧ w'.cell? (ad.add (i * 4)) = some (.int .i64 4) ∧ w'.cell? ⟨(ad.add (i * 4)).block, (ad.add (i * 4)).off + 1, none⟩ = some (.string nm) ∧ w'.cell? ⟨(ad.add (i * 4)).block, (ad.add (i * 4)).off + 2, none⟩ = some (.string ⟨#[]⟩) ∧ w'.cell? ⟨(ad.add (i * 4)).block, (ad.add (i * 4)).off + 3, none⟩ = some (.slice A3 0 e3)) (ds := [10]) #[false, false, false, false, false, false, false, false, false, false, false, false] (by kernel_rfl) rfl rfl ⟨v30, v31, hx0, hx1, hx2, hx3⟩ (fun hHeld => ?_)
   generalize wr.drew = WS at *
   refine pure_ (i := 1) (N := some 48) (v := ?_) (a' := ?_) #[false, true, false, false, false, false, false, false, false, false, false, false] rfl rfl (by kernel_rfl) (fun _ _ _ h => h) (Or.inl ⟨by rfl, ?_⟩) ?_ ?_
   rotate_left
   ·intro w'
    go_simp
    with_reducible rfl
   rotate_left
   ·simp only [Act.put, List.setIfInBounds_toArray, List.set_cons_zero, List.set_cons_succ, i64_w, i32_w]
    rfl
   refine pure_ (i := 2) (N := some 49) (v := ?_) (a' := ?_) #[false, true, true, false, false, false, false, false, false, false, false, false] rfl rfl (by kernel_rfl) (fun _ _ _ h => h) (Or.inl ⟨by rfl, ?_⟩) ?_ ?_
   rotate_left
   ·intro w'
    go_simp
    with_reducible rfl
   rotate_left
   ·simp only [Act.put, List.setIfInBounds_toArray, List.set_cons_zero, List.set_cons_succ, i64_w, i32_w]
    rfl
   refine pure_ (i := 3) (N := some 50) (v := ?_) (a' := ?_) #[false, true, true, true, false, false, false, false, false, false, false, false] rfl rfl (by kernel_rfl) (fun _ _ _ h => h) (Or.inl ⟨by rfl, ?_⟩) ?_ ?_
   rotate_left
   ·intro w'
    go_simp
    with_reducible rfl
   rotate_left
   ·simp only [Act.put, List.setIfInBounds_toArray, List.set_cons_zero, List.set_cons_succ, i64_w, i32_w]
    rfl
   refine take_ (i := 0) (N := some 47) (v := ?_) (a' := ?_) #[true, true, true, true, false, false, false, false, false, false, false, false] rfl rfl (by kernel_rfl) (fun _ _ _ h => h) (Or.inl ⟨by rfl, ?_⟩) hHeld ?_ ?_
   rotate_left
   ·rintro w' ⟨s0, s1, s2, s3, s4, s5⟩
    go_simp
    with_reducible rfl
   rotate_left
   ·simp only [Act.put, List.setIfInBounds_toArray, List.set_cons_zero, List.set_cons_succ, i64_w, i32_w]
    rfl
   refine take_ (i := 4) (N := some 51) (v := ?_) (a' := ?_) #[true, true, true, true, true, false, false, false, false, false, false, false] rfl rfl (by kernel_rfl) (fun _ _ _ h => h) (Or.inl ⟨by rfl, ?_⟩) hHeld ?_ ?_
   rotate_left
   ·rintro w' ⟨s0, s1, s2, s3, s4, s5⟩
    go_simp
    with_reducible rfl
   rotate_left
   ·simp only [Act.put, List.setIfInBounds_toArray, List.set_cons_zero, List.set_cons_succ, i64_w, i32_w]
    rfl
   refine join_ (σ := Value × Nat) 2 #[true, true, true, true, true, true, true, true, true, true, false, false] (fun s_ => [(52, .tuple #[.agg #[.int .i64 a0_0, s_.1], .int .i64 0]), (46, .tuple #[.agg #[.int .i64 a0_0, s_.1], .int .i64 0]), (53, .agg #[.int .i64 a0_0, s_.1]), (54, .int .i64 0), (11, .pointer (some ⟨s_.2, 0, none⟩))]) (fun s_ w' => (w'.cell? ⟨g3, 0, none⟩ = some (.int .i64 a0_0) ∧ w'.cell? ⟨g3, 1, none⟩ = some (.slice A L.length c) ∧ w'.cell? (ad.add (i * 4)) = some (.int .i64 4) ∧ w'.cell? ⟨(ad.add (i * 4)).block, (ad.add (i * 4)).off + 1, none⟩ = some (.string nm) ∧ w'.cell? ⟨(ad.add (i * 4)).block, (ad.add (i * 4)).off + 2, none⟩ = some (.string ⟨#[]⟩) ∧ w'.cell? ⟨(ad.add (i * 4)).block, (ad.add (i * 4)).off + 3, none⟩ = some (.slice A3 0 e3)) ∧ Kd.V k84 84 w' 0 (fun k => g7 < k ∧ k ≠ s_.2) (s_.1) (L2 : List S84) ∧ w'.heap[s_.2]? = some (.cells #[.int .i64 0, .slice none 0 0] 50 (0, 0)) ∧ WS.heap.size ≤ s_.2 ∧ Below WS.heap.size WS w') ?_ ?_
   rotate_left
   ·intro hCont
    refine two_ (i := 5) (j := 9) (Ni := some 52) (Nj := some 11) #[true, true, true, true, true, true, false, false, false, false, false, false] #[true, true, true, true, true, false, false, false, false, true, false, false] rfl rfl rfl rfl (by kernel_rfl) (by decide) (by decide) (fun K hK => ?_) (fun K hK => ?_)
    ·skip
     refine goes_ Tryd.func29 (by kernel_rfl) rfl #[.agg #[.int .i64 a0_0, .slice A L.length c], .agg #[.int .i64 4, .string nm, .string ⟨#[]⟩, .slice A3 0 e3]] (by rfl) rfl rfl (by simp only [List.map_toArray, List.map_cons, List.map_nil]; rfl) ?_
     with_reducible refine (do_calls a0_0 A c L 4 nm ⟨#[]⟩ A3 0 e3 [] a0_0 L2 0 _ HX.out.reads HX.out.cap HC3.out HN3.out HLE3.out HDO.out).mono ?_
     rintro e_ w5 ⟨v5, rfl, hV, hb⟩
     refine ⟨_, rfl, ?_⟩
     have HB5 := Aside0.mk hb
     have HV5 := Aside0.mk (Kd.V_bound hV)
     clear hb hV
     refine hK.out _ _ ⟨(pw_cell_below HB5.out hHeld.1), (pw_cell_below HB5.out hHeld.2.1), (pw_cell_below HB5.out hHeld.2.2.1), (pw_cell_below HB5.out hHeld.2.2.2.1), (pw_cell_below HB5.out hHeld.2.2.2.2.1), (pw_cell_below HB5.out hHeld.2.2.2.2.2)⟩ (fun hHeld => ?_)
     clear hK K
     refine norm_ (a' := ?_) ?_ ?_
     rotate_left
     ·show Act.put _ (some 52) _ = _
      simp only [Act.put, List.setIfInBounds_toArray, List.set_cons_zero, List.set_cons_succ, i64_w, i32_w]
      rfl
     refine pure_ (i := 6) (N := some 46) (v := ?_) (a' := ?_) #[true, true, true, true, true, true, true, false, false, false, false, false] rfl rfl (by kernel_rfl) (fun _ _ _ h => h) (Or.inl ⟨by rfl, ?_⟩) ?_ ?_
     rotate_left
     ·intro w'
      go_simp
      with_reducible rfl
     rotate_left
     ·simp only [Act.put, List.setIfInBounds_toArray, List.set_cons_zero, List.set_cons_succ, i64_w, i32_w]
      rfl
     refine pure_ (i := 7) (N := some 53) (v := ?_) (a' := ?_) #[true, true, true, true, true, true, true, true, false, false, false, false] rfl rfl (by kernel_rfl) (fun _ _ _ h => h) (Or.inl ⟨by rfl, ?_⟩) ?_ ?_
     rotate_left
     ·intro w'
      go_simp
      with_reducible rfl
     rotate_left
     ·simp only [Act.put, List.setIfInBounds_toArray, List.set_cons_zero, List.set_cons_succ, i64_w, i32_w]
      rfl
     refine pure_ (i := 8) (N := some 54) (v := ?_) (a' := ?_) #[true, true, true, true, true, true, true, true, true, false, false, false] rfl rfl (by kernel_rfl) (fun _ _ _ h => h) (Or.inl ⟨by rfl, ?_⟩) ?_ ?_
     rotate_left
     ·intro w'
      go_simp
      with_reducible rfl
     rotate_left
     ·simp only [Act.put, List.setIfInBounds_toArray, List.set_cons_zero, List.set_cons_succ, i64_w, i32_w]
      rfl
     refine one_ (i := 9) (N := some 11) #[true, true, true, true, true, true, true, true, true, true, false, false] rfl rfl (by kernel_rfl) (by decide) (fun K hK => ?_)
     refine box_step ?hg (N := 11) ?hd (cs := #[.int .i64 0, .slice none 0 0]) (t := 50) ?hr ?_; (case hd => rfl); (case hg => rfl); (case hr => first | (go_simp; done) | (go_simp; rfl))
     intro g11 hg w6 hbox hb
     have HB6 := Aside0.mk hb
     have CB6 := Aside0.mk hbox
     have HG6 := Aside0.mk hg
     clear hb hbox hg
     refine hK.out _ _ ⟨(pw_cell_below HB6.out hHeld.1), (pw_cell_below HB6.out hHeld.2.1), (pw_cell_below HB6.out hHeld.2.2.1), (pw_cell_below HB6.out hHeld.2.2.2.1), (pw_cell_below HB6.out hHeld.2.2.2.2.1), (pw_cell_below HB6.out hHeld.2.2.2.2.2)⟩ (fun hHeld => ?_)
     clear hK K
     refine norm_ (a' := ?_) ?_ ?_
     rotate_left
     ·show Act.put _ (some 11) _ = _
      simp only [Act.put, List.setIfInBounds_toArray, List.set_cons_zero, List.set_cons_succ, i64_w, i32_w]
      rfl
     exact norm_ (by simp only [putAll, Act.put, List.setIfInBounds_toArray, List.set_cons_zero, List.set_cons_succ]) (hCont (v5, g11) _ ⟨hHeld, Kd.V_mono (Kd.V_below HV5.out HB6.out) (fun k hk => ⟨by have := HX.out.oN; have := hk.1; omega, by have := HG6.out; have := hk.2; omega⟩), CB6.out, by rw [HG6.out]; exact HB5.out.size, below_step HB5.out HB6.out⟩)
    ·skip
     refine box_step ?hg (N := 11) ?hd (cs := #[.int .i64 0, .slice none 0 0]) (t := 50) ?hr ?_; (case hd => rfl); (case hg => rfl); (case hr => first | (go_simp; done) | (go_simp; rfl))
     intro g11 hg w6 hbox hb
     have HB6 := Aside0.mk hb
     have CB6 := Aside0.mk hbox
     have HG6 := Aside0.mk hg
     clear hb hbox hg
     refine hK.out _ _ ⟨(pw_cell_below HB6.out hHeld.1), (pw_cell_below HB6.out hHeld.2.1), (pw_cell_below HB6.out hHeld.2.2.1), (pw_cell_below HB6.out hHeld.2.2.2.1), (pw_cell_below HB6.out hHeld.2.2.2.2.1), (pw_cell_below HB6.out hHeld.2.2.2.2.2)⟩ (fun hHeld => ?_)
     clear hK K
     refine norm_ (a' := ?_) ?_ ?_
     rotate_left
     ·show Act.put _ (some 11) _ = _
      simp only [Act.put, List.setIfInBounds_toArray, List.set_cons_zero, List.set_cons_succ, i64_w, i32_w]
      rfl
     refine one_ (i := 5) (N := some 52) #[true, true, true, true, true, true, false, false, false, true, false, false] rfl rfl (by kernel_rfl) (by decide) (fun K hK => ?_)
     refine goes_ Tryd.func29 (by kernel_rfl) rfl #[.agg #[.int .i64 a0_0, .slice A L.length c], .agg #[.int .i64 4, .string nm, .string ⟨#[]⟩, .slice A3 0 e3]] (by rfl) rfl rfl (by simp only [List.map_toArray, List.map_cons, List.map_nil]; rfl) ?_
     with_reducible refine (do_calls a0_0 A c L 4 nm ⟨#[]⟩ A3 0 e3 [] a0_0 L2 0 _ (Kd.C_below HX.out.reads HB6.out) HX.out.cap (Kd.C_below HC3.out HB6.out) HN3.out HLE3.out HDO.out).mono ?_
     rintro e_ w5 ⟨v5, rfl, hV, hb⟩
     refine ⟨_, rfl, ?_⟩
     have HB5 := Aside0.mk hb
     have HV5 := Aside0.mk hV
     clear hb hV
     refine hK.out _ _ ⟨(pw_cell_below HB5.out hHeld.1), (pw_cell_below HB5.out hHeld.2.1), (pw_cell_below HB5.out hHeld.2.2.1), (pw_cell_below HB5.out hHeld.2.2.2.1), (pw_cell_below HB5.out hHeld.2.2.2.2.1), (pw_cell_below HB5.out hHeld.2.2.2.2.2)⟩ (fun hHeld => ?_)
     clear hK K
     refine norm_ (a' := ?_) ?_ ?_
     rotate_left
     ·show Act.put _ (some 52) _ = _
      simp only [Act.put, List.setIfInBounds_toArray, List.set_cons_zero, List.set_cons_succ, i64_w, i32_w]
      rfl
     refine pure_ (i := 6) (N := some 46) (v := ?_) (a' := ?_) #[true, true, true, true, true, true, true, false, false, true, false, false] rfl rfl (by kernel_rfl) (fun _ _ _ h => h) (Or.inl ⟨by rfl, ?_⟩) ?_ ?_
     rotate_left
     ·intro w'
      go_simp
      with_reducible rfl
     rotate_left
     ·simp only [Act.put, List.setIfInBounds_toArray, List.set_cons_zero, List.set_cons_succ, i64_w, i32_w]
      rfl
     refine pure_ (i := 7) (N := some 53) (v := ?_) (a' := ?_) #[true, true, true, true, true, true, true, true, false, true, false, false] rfl rfl (by kernel_rfl) (fun _ _ _ h => h) (Or.inl ⟨by rfl, ?_⟩) ?_ ?_
     rotate_left
     ·intro w'
      go_simp
      with_reducible rfl
     rotate_left
     ·simp only [Act.put, List.setIfInBounds_toArray, List.set_cons_zero, List.set_cons_succ, i64_w, i32_w]
      rfl
     refine pure_ (i := 8) (N := some 54) (v := ?_) (a' := ?_) #[true, true, true, true, true, true, true, true, true, true, false, false] rfl rfl (by kernel_rfl) (fun _ _ _ h => h) (Or.inl ⟨by rfl, ?_⟩) ?_ ?_
     rotate_left
     ·intro w'
      go_simp
      with_reducible rfl
     rotate_left
     ·simp only [Act.put, List.setIfInBounds_toArray, List.set_cons_zero, List.set_cons_succ, i64_w, i32_w]
      rfl
     exact norm_ (by simp only [putAll, Act.put, List.setIfInBounds_toArray, List.set_cons_zero, List.set_cons_succ]) (hCont (v5, g11) _ ⟨hHeld, Kd.V_mono HV5.out (fun k hk => ⟨by have := HX.out.oN; have := blk_lt CB6.out; have := HB6.out.size; omega, by have := blk_lt CB6.out; omega⟩), blk_below CB6.out HB5.out, by rw [HG6.out]; exact Nat.le_refl _, below_step HB6.out HB5.out⟩)
   rintro ⟨vx, g11⟩ w6 ⟨hHeld, hV, hbox, hgs, hb⟩
   obtain ⟨Ax, cx, rfl⟩ : ∃ Ax cx, vx = .slice Ax L2.length cx := Kd.V_slice hV
   have CB11 := Aside0.mk hbox
   have HGS := Aside0.mk hgs
   have HBX := Aside0.mk hb
   have HVX := Aside0.mk (show Kd.V k84 84 w6 0 (fun k => g7 < k ∧ k ≠ g11) (.slice Ax L2.length cx) (L2 : List S84) from hV)
   clear hbox hgs hb hV
   have v110 : w6.cell? ⟨g11, 0, none⟩ = some (.int .i64 0) := (blk_cell CB11.out 0).trans rfl
   have v111 : w6.cell? ⟨g11, 1, none⟩ = some (.slice none 0 0) := (blk_cell CB11.out 1).trans rfl
   have f110 := blk_frozen CB11.out 0
   have f111 := blk_frozen CB11.out 1
   refine norm_ (a' := ?_) ?_ ?_
   rotate_left
   ·simp only [putAll, Act.put, List.setIfInBounds_toArray, List.set_cons_zero, List.set_cons_succ]
    rfl
   refine last_ (i := 10) (N := none) #[true, true, true, true, true, true, true, true, true, true, true, false] rfl rfl (by kernel_rfl) (by decide) (fun K hK => ?_)
   refine skip_ (w1 := ?_) (by rfl) rfl ?_ ?_
   rotate_left
   ·go_simp
    rfl
   refine hK.out _ _ ?_
   clear hK K
   refine pure_ (i := 11) (N := some 12) (v := ?_) (a' := ?_) #[true, true, true, true, true, true, true, true, true, true, true, true] rfl rfl (by kernel_rfl) (fun _ _ _ h => h) (Or.inl ⟨by rfl, ?_⟩) ?_ ?_
   rotate_left
   ·intro w'
    go_simp
    with_reducible rfl
   rotate_left
   ·simp only [Act.put, List.setIfInBounds_toArray, List.set_cons_zero, List.set_cons_succ, i64_w, i32_w]
    rfl
   refine done_ (by kernel_rfl) ?_
   have HBY : Aside0 (Below WS.heap.size WS ((((w6).setCell ⟨g11, 0, none⟩ (.int .i64 a0_0))).setCell ⟨g11, 1, none⟩ (.slice Ax L2.length cx))) := ⟨(below_set (below_set HBX.out HGS.out) HGS.out)⟩
   have HX_ := Aside0.mk (HX.out.step HBY.out)
   have CB11_ := Aside0.mk (blk_put (cs' := #[.int .i64 a0_0, .slice Ax L2.length cx]) (blk_put (cs' := #[.int .i64 a0_0, .slice none 0 0]) CB11.out 0 (.int .i64 a0_0) rfl) 1 (.slice Ax L2.length cx) rfl)
   have HVX_ := Aside0.mk (Kd.V_mono (Kd.V_far (p := ⟨g11, 1, none⟩) (Kd.V_far (p := ⟨g11, 0, none⟩) HVX.out (fun k hk => hk.2) (.int .i64 a0_0)) (fun k hk => hk.2) (.slice Ax L2.length cx)) (ok' := fun k => g7 < k) (fun k hk => hk.1))
   clear HX CB11 HVX HBX HBY HGS hHeld v30 v31 hx0 hx1 hx2 hx3 v110 v111 f110 f111
   generalize ((((w6).setCell ⟨g11, 0, none⟩ (.int .i64 a0_0))).setCell ⟨g11, 1, none⟩ (.slice Ax L2.length cx)) = W6 at *
   have HX := HX_
   have CB11 := CB11_
   have HVX := HVX_
   clear HX_ CB11_ HVX_
   obtain ⟨v30, v31, f30, f31, v40, v41, v42, f40, v70, v71, v72⟩ := HX.out.vis
   have v110 : W6.cell? ⟨g11, 0, none⟩ = some (.int .i64 a0_0) := (blk_cell CB11.out 0).trans rfl
   have v111 : W6.cell? ⟨g11, 1, none⟩ = some (.slice Ax L2.length cx) := (blk_cell CB11.out 1).trans rfl
   go_wp2
   go_roundw
   ·exact ⟨i + 1, _, Ax, cx, L2, rfl, cs, HCL2, ⟨HX.out.new3 HVX.out⟩⟩
   ·show ops.length - (((i + 1 : Nat) : Int)).toNat < ops.length - (i : Int).toNat
    omega
  ·obtain rfl : i = ops.length := by omega
   have csd : decide ((ops.length : Int) < (ops.length : Int)) = false := decide_eq_false (Int.lt_irrefl _)
   have hGl : ops.length = G.length := by rw [HOPS.out, List.length_map]
   have HCE := Aside0.mk (show Clr a0_0 rs nx sq G G.length L by rw [← hGl]; exact HCL.out)
   clear hGl HCL hil cs
   have HX_ := Aside0.mk HX.out.up
   clear HX
   generalize hN2 : wr.heap.size = N2 at HX_
   clear hN2
   have HX := HX_
   clear HX_
   obtain ⟨v30, v31, f30, f31, v40, v41, v42, f40, v70, v71, v72⟩ := HX.out.vis
   go_wp2
   go_loopw [13, 14] (fun v13 v14 w' => ∃ (i : Nat) (vo : Value) (acc : List S63), v13 = vo ∧ v14 = .int .i64 i ∧ i ≤ l1_0.length ∧ Aside0 (acc = leftL L (l1_0.take i)) ∧ Aside0 (AX w w' N2 g3 g4 g7 a0_0 A c L A1_0 c1_0 l1_0 a1_1 a1_2 A7 d7 rs nx sq A8 d8 ops) ∧ Aside0 (Kd.R k63 63 w' w.heap.size (fun k => N2 ≤ k) vo acc)) (fun _ v14 _ => l1_0.length - (intOf v14).toNat)
   case atStart => exact ⟨0, .slice none 0 0, [], rfl, rfl, Nat.zero_le _, ⟨by rw [List.take_zero]; rfl⟩, HX, ⟨Kd.R_nil _ _ _ _ _⟩⟩
   case round =>
    clear HX v30 v31 f30 f31 v40 v41 v42 f40 v70 v71 v72
    obtain ⟨i, u13, acc, hvo, rfl, hil, HACC, HX, HO⟩ := hrel
    subst hvo
    by_cases cs : i < l1_0.length
    ·have csd := decide_eq_true (show (i : Int) < (l1_0.length : Int) by omega)
     obtain ⟨ad, had, hx0, hx1, hx2, hx3⟩ := at_T63 (Kd.V_reads' HX.out.hR).2.2 (i : Int) (by omega) (by omega)
     subst had
     obtain ⟨v30, v31, f30, f31, v40, v41, v42, f40, v70, v71, v72⟩ := HX.out.vis
     obtain ⟨x, hx⟩ : ∃ x, x = rd_T63 l1_0 (i : Int) := ⟨_, rfl⟩
     rw [← hx] at hx0 hx1 hx2 hx3
     rw [Int.toNat_natCast] at hx0 hx1 hx2 hx3
     have HXX := Aside0.mk hx
     clear hx
     obtain ⟨nm, hnm⟩ : ∃ nm, nm = nameM x.f0 := ⟨_, rfl⟩
     have HNF := Aside0.mk (show manifest_Name.f x.f0 = some nm by rw [hnm]; exact name_f _)
     obtain ⟨bb, ee, hrd, hee⟩ := read_has HCE.out.1.1 x
     rw [← hnm] at hrd
     have HRD := Aside0.mk hrd
     have HEE := Aside0.mk hee
     clear hrd hee hnm
     have HAL := Aside0.mk (show acc.length ≤ i by rw [HACC.out]; have := List.length_filter_le (has L) (l1_0.take i); rw [List.length_take] at this; unfold leftL; omega)
     have q0 := eq_true (show (0 : Int) ≤ (i : Int) by omega)
     have q1 := eq_true (show (i : Int) < (l1_0.length : Int) by omega)
     have hwr : IntKind.i64.wrap ((i : Int) + 1) = ((i + 1 : Nat) : Int) := by rw [IntKind.wrap_i64]; have := HLL.out; omega
     by_cases hz : ee = 0
     ·subst hz
      have HHAS := Aside0.mk (HEE.out.1 rfl)
      clear HEE
      go_upto_region 17 with (first
       | fail)
      have HO_ := Aside0.mk (Kd.R_drew HO.out)
      clear HO
      have HO := HO_
      clear HO_
      have HX_ := Aside0.mk HX.out.drew
      have v30_ : wr.drew.cell? ⟨g3, 0, none⟩ = some (.int .i64 a0_0) := v30
      have v31_ : wr.drew.cell? ⟨g3, 1, none⟩ = some (.slice A L.length c) := v31
      have v40_ : wr.drew.cell? ⟨g4, 0, none⟩ = some (.slice (some ad) l1_0.length c1_0) := v40
      have hx0_ : wr.drew.cell? (ad.add (i * 4)) = some (.int .i64 x.f0) := hx0
      have hx1_ : wr.drew.cell? ⟨(ad.add (i * 4)).block, (ad.add (i * 4)).off + 1, none⟩ = some (.int .i64 x.f1) := hx1
      have hx2_ : wr.drew.cell? ⟨(ad.add (i * 4)).block, (ad.add (i * 4)).off + 2, none⟩ = some (.int .i64 x.f2) := hx2
      have hx3_ : wr.drew.cell? ⟨(ad.add (i * 4)).block, (ad.add (i * 4)).off + 3, none⟩ = some (.int .i64 x.f3) := hx3
      clear HX hx0 hx1 hx2 hx3 v30 v31 f30 f31 v40 v41 v42 f40 v70 v71 v72
      have HX := HX_
      have v30 := v30_
      have v31 := v31_
      have v40 := v40_
      have hx0 := hx0_
      have hx1 := hx1_
      have hx2 := hx2_
      have hx3 := hx3_
      clear HX_ v30_ v31_ v40_ hx0_ hx1_ hx2_ hx3_
      refine start_ (n := 14) (S := fun w' => w'.cell? ⟨g3, 0, none⟩ = some (.int .i64 a0_0) ∧ w'.cell? ⟨g3, 1, none⟩ = some (.slice A L.length c) ∧ w'.cell? ⟨g4, 0, none⟩ = some (.slice (some ad) l1_0.length c1_0) ∧ w'.cell? (ad.add (i * 4)) = some (.int .i64 x.f0) ∧ w'.cell? ⟨(ad.add (i * 4)).block, (ad.add (i * 4)).off + 1, none⟩ = some (.int .i64 x.f1) ∧ w'.cell? ⟨(ad.add (i * 4)).block, (ad.add (i * 4)).off + 2, none⟩ = some (.int .i64 x.f2) ∧ w'.cell? ⟨(ad.add (i * 4)).block, (ad.add (i * 4)).off + 3, none⟩ = some (.int .i64 x.f3)) (ds := []) #[false, false, false, false, false, false, false, false, false, false, false, false, false, false] (by kernel_rfl) rfl rfl ⟨v30, v31, v40, hx0, hx1, hx2, hx3⟩ (fun hHeld => ?_)
      generalize wr.drew = WS at *
      refine pure_ (i := 1) (N := some 67) (v := ?_) (a' := ?_) #[false, true, false, false, false, false, false, false, false, false, false, false, false, false] rfl rfl (by kernel_rfl) (fun _ _ _ h => h) (Or.inl ⟨by rfl, ?_⟩) ?_ ?_
      rotate_left
      ·intro w'
       go_simp
       with_reducible rfl
      rotate_left
      ·simp only [Act.put, List.setIfInBounds_toArray, List.set_cons_zero, List.set_cons_succ, i64_w, i32_w]
       rfl
      refine pure_ (i := 3) (N := some 69) (v := ?_) (a' := ?_) #[false, true, false, true, false, false, false, false, false, false, false, false, false, false] rfl rfl (by kernel_rfl) (fun _ _ _ h => h) (Or.inl ⟨by rfl, ?_⟩) ?_ ?_
      rotate_left
      ·intro w'
       go_simp
       with_reducible rfl
      rotate_left
      ·simp only [Act.put, List.setIfInBounds_toArray, List.set_cons_zero, List.set_cons_succ, i64_w, i32_w]
       rfl
      refine take_ (i := 0) (N := some 66) (v := ?_) (a' := ?_) #[true, true, false, true, false, false, false, false, false, false, false, false, false, false] rfl rfl (by kernel_rfl) (fun _ _ _ h => h) (Or.inl ⟨by rfl, ?_⟩) hHeld ?_ ?_
      rotate_left
      ·rintro w' ⟨s0, s1, s2, s3, s4, s5, s6⟩
       go_simp
       with_reducible rfl
      rotate_left
      ·simp only [Act.put, List.setIfInBounds_toArray, List.set_cons_zero, List.set_cons_succ, i64_w, i32_w]
       rfl
      refine take_ (i := 2) (N := some 68) (v := ?_) (a' := ?_) #[true, true, true, true, false, false, false, false, false, false, false, false, false, false] rfl rfl (by kernel_rfl) (fun _ _ _ h => h) (Or.inl ⟨by rfl, ?_⟩) hHeld ?_ ?_
      rotate_left
      ·rintro w' ⟨s0, s1, s2, s3, s4, s5, s6⟩
       go_simp
       with_reducible rfl
      rotate_left
      ·simp only [Act.put, List.setIfInBounds_toArray, List.set_cons_zero, List.set_cons_succ, i64_w, i32_w]
       rfl
      refine pure_ (i := 4) (N := some 70) (v := ?_) (a' := ?_) #[true, true, true, true, true, false, false, false, false, false, false, false, false, false] rfl rfl (by kernel_rfl) (fun _ _ _ h => h) (Or.inl ⟨by rfl, ?_⟩) ?_ ?_
      rotate_left
      ·intro w'
       go_simp
       with_reducible rfl
      rotate_left
      ·simp only [Act.put, List.setIfInBounds_toArray, List.set_cons_zero, List.set_cons_succ, i64_w, i32_w]
       rfl
      refine pure_ (i := 5) (N := some 71) (v := ?_) (a' := ?_) #[true, true, true, true, true, true, false, false, false, false, false, false, false, false] rfl rfl (by kernel_rfl) (fun _ _ _ h => h) (Or.inl ⟨by rfl, ?_⟩) ?_ ?_
      rotate_left
      ·intro w'
       go_simp
       with_reducible rfl
      rotate_left
      ·simp only [Act.put, List.setIfInBounds_toArray, List.set_cons_zero, List.set_cons_succ, i64_w, i32_w]
       rfl
      refine take_ (i := 6) (N := some 72) (v := ?_) (a' := ?_) #[true, true, true, true, true, true, true, false, false, false, false, false, false, false] rfl rfl (by kernel_rfl) (fun _ _ _ h => h) (Or.inl ⟨by rfl, ?_⟩) hHeld ?_ ?_
      rotate_left
      ·rintro w' ⟨s0, s1, s2, s3, s4, s5, s6⟩
       go_simp
       with_reducible rfl
      rotate_left
      ·simp only [Act.put, List.setIfInBounds_toArray, List.set_cons_zero, List.set_cons_succ, i64_w, i32_w]
       rfl
      refine one_ (i := 7) (N := some 73) #[true, true, true, true, true, true, true, true, false, false, false, false, false, false] rfl rfl (by kernel_rfl) (by decide) (fun K hK => ?_)
      refine goes_ Tryd.func17 (by kernel_rfl) rfl #[.int .i64 x.f0] (by rfl) rfl rfl (by simp only [List.map_toArray, List.map_cons, List.map_nil]; rfl) ?_
      with_reducible refine (manifest_Name.calls x.f0 nm _ (GT.below HG.out HX.out.B) HNF.out).mono ?_
      rintro e_ w7 ⟨rfl, hb⟩
      refine ⟨_, rfl, ?_⟩
      have HB7 := Aside0.mk hb
      clear hb
      refine hK.out _ _ ⟨(pw_cell_below HB7.out hHeld.1), (pw_cell_below HB7.out hHeld.2.1), (pw_cell_below HB7.out hHeld.2.2.1), (pw_cell_below HB7.out hHeld.2.2.2.1), (pw_cell_below HB7.out hHeld.2.2.2.2.1), (pw_cell_below HB7.out hHeld.2.2.2.2.2.1), (pw_cell_below HB7.out hHeld.2.2.2.2.2.2)⟩ (fun hHeld => ?_)
      clear hK K
      refine norm_ (a' := ?_) ?_ ?_
      rotate_left
      ·show Act.put _ (some 73) _ = _
       simp only [Act.put, List.setIfInBounds_toArray, List.set_cons_zero, List.set_cons_succ, i64_w, i32_w]
       rfl
      refine one_ (i := 8) (N := some 74) #[true, true, true, true, true, true, true, true, true, false, false, false, false, false] rfl rfl (by kernel_rfl) (by decide) (fun K hK => ?_)
      refine goes_ Tryd.func30 (by kernel_rfl) rfl #[.agg #[.int .i64 a0_0, .slice A L.length c], .string nm] (by rfl) rfl rfl (by simp only [List.map_toArray, List.map_cons, List.map_nil]; rfl) ?_
      with_reducible refine (store_Read.calls 800 a0_0 A c L nm bb 0 _ (Kd.C_below HX.out.reads HB7.out) HX.out.cap HRD.out).mono ?_
      rintro e_ w8 ⟨v8_, rfl, hR, hb⟩
      refine ⟨_, rfl, ?_⟩
      obtain ⟨Ab, cb, rfl⟩ := Kd.R_slice hR
      have HB8 := Aside0.mk (below_step HB7.out hb)
      have HB9 := Aside0.mk hb
      clear hb hR
      refine hK.out _ _ ⟨(pw_cell_below HB9.out hHeld.1), (pw_cell_below HB9.out hHeld.2.1), (pw_cell_below HB9.out hHeld.2.2.1), (pw_cell_below HB9.out hHeld.2.2.2.1), (pw_cell_below HB9.out hHeld.2.2.2.2.1), (pw_cell_below HB9.out hHeld.2.2.2.2.2.1), (pw_cell_below HB9.out hHeld.2.2.2.2.2.2)⟩ (fun hHeld => ?_)
      clear hK K
      refine norm_ (a' := ?_) ?_ ?_
      rotate_left
      ·show Act.put _ (some 74) _ = _
       simp only [Act.put, List.setIfInBounds_toArray, List.set_cons_zero, List.set_cons_succ, i64_w, i32_w]
       rfl
      refine pure_ (i := 9) (N := some 65) (v := ?_) (a' := ?_) #[true, true, true, true, true, true, true, true, true, true, false, false, false, false] rfl rfl (by kernel_rfl) (fun _ _ _ h => h) (Or.inl ⟨by rfl, ?_⟩) ?_ ?_
      rotate_left
      ·intro w'
       go_simp
       with_reducible rfl
      rotate_left
      ·simp only [Act.put, List.setIfInBounds_toArray, List.set_cons_zero, List.set_cons_succ, i64_w, i32_w]
       rfl
      refine pure_ (i := 10) (N := some 75) (v := ?_) (a' := ?_) #[true, true, true, true, true, true, true, true, true, true, true, false, false, false] rfl rfl (by kernel_rfl) (fun _ _ _ h => h) (Or.inl ⟨by rfl, ?_⟩) ?_ ?_
      rotate_left
      ·intro w'
       go_simp
       with_reducible rfl
      rotate_left
      ·simp only [Act.put, List.setIfInBounds_toArray, List.set_cons_zero, List.set_cons_succ, i64_w, i32_w]
       rfl
      refine pure_ (i := 11) (N := some 76) (v := ?_) (a' := ?_) #[true, true, true, true, true, true, true, true, true, true, true, true, false, false] rfl rfl (by kernel_rfl) (fun _ _ _ h => h) (Or.inl ⟨by rfl, ?_⟩) ?_ ?_
      rotate_left
      ·intro w'
       go_simp
       with_reducible rfl
      rotate_left
      ·simp only [Act.put, List.setIfInBounds_toArray, List.set_cons_zero, List.set_cons_succ, i64_w, i32_w]
       rfl
      refine pure_ (i := 12) (N := some 15) (v := ?_) (a' := ?_) #[true, true, true, true, true, true, true, true, true, true, true, true, true, false] rfl rfl (by kernel_rfl) (fun _ _ _ h => h) (Or.inl ⟨by rfl, ?_⟩) ?_ ?_
      rotate_left
      ·intro w'
       go_simp
       with_reducible rfl
      rotate_left
      ·simp only [Act.put, List.setIfInBounds_toArray, List.set_cons_zero, List.set_cons_succ, i64_w, i32_w]
       rfl
      refine pure_ (i := 13) (N := some 16) (v := ?_) (a' := ?_) #[true, true, true, true, true, true, true, true, true, true, true, true, true, true] rfl rfl (by kernel_rfl) (fun _ _ _ h => h) (Or.inl ⟨by rfl, ?_⟩) ?_ ?_
      rotate_left
      ·intro w'
       go_simp
       with_reducible rfl
      rotate_left
      ·simp only [Act.put, List.setIfInBounds_toArray, List.set_cons_zero, List.set_cons_succ, i64_w, i32_w]
       rfl
      refine done_ (by kernel_rfl) ?_
      have HX_ := Aside0.mk (HX.out.step HB8.out)
      have HO_ := Aside0.mk (Kd.R_below HO.out HB8.out)
      have hx0_ := pw_cell_below HB8.out hx0
      have hx1_ := pw_cell_below HB8.out hx1
      have hx2_ := pw_cell_below HB8.out hx2
      have hx3_ := pw_cell_below HB8.out hx3
      clear HX HO HB7 HB8 HB9 hHeld v30 v31 v40 hx0 hx1 hx2 hx3
      have HX := HX_
      have HO := HO_
      have hx0 := hx0_
      have hx1 := hx1_
      have hx2 := hx2_
      have hx3 := hx3_
      clear HX_ HO_ hx0_ hx1_ hx2_ hx3_
      obtain ⟨v30, v31, f30, f31, v40, v41, v42, f40, v70, v71, v72⟩ := HX.out.vis
      go_wp2_with (first
       | ((with_reducible refine gate_builtin (b := .append) (xs := #[.tmp 79, .tmp 85]) rfl ?_); at_builtin; (refine Kd.R_append k63 (w0 := w) w.heap.size rfl (.tmp 79) (.tmp 85) 25 63 (.agg #[(.int .i64 0), (.int .i64 0), (.int .i64 0), (.int .i64 0)]) 32 rfl Tryd.underlying25 info63x rfl (by decide) (by omega) u13 acc x [.int .i64 x.f0, .int .i64 x.f1, .int .i64 x.f2, .int .i64 x.f3] (fun k => N2 ≤ k) (fun _ => False) rfl rfl ?aP (fun k_ hk_ => hk_.elim) ?aF ?aO ?aB ?aS ?aL ?_; (case aP => exact k63_mkM _ _ _ x); (case aB => exact HX.out.B); (case aF => exact (fun k hk => Nat.le_trans HX.out.oN.2 hk)); (case aO => exact HO.out); (case aS => exact below_size HX.out.B); (case aL => exact (by have := HAL.out; have := HLL.out; omega)); intro v86_ w9 ho hb hgr hat; have HX2 := Aside0.mk (HX.out.over (fun k hk => HO.out.1 k hk) hb hgr); have HO2 := Aside0.mk ho; clear ho hb hgr hat HX HO v30 v31 f30 f31 v40 v41 v42 f40 v70 v71 v72)))
      go_roundw
      ·exact ⟨i + 1, _, acc ++ [x], rfl, rfl, cs, ⟨by rw [left_succ L l1_0 i cs, ← HXX.out, HHAS.out, if_pos rfl, ← HACC.out]⟩, HX2, HO2⟩
      ·show l1_0.length - (((i + 1 : Nat) : Int)).toNat < l1_0.length - (i : Int).toNat
       omega
     ·have HHAS := Aside0.mk (show ¬ has L x = true from fun h => hz (HEE.out.2 h))
      have hza : (ee == 0) = false := beq_eq_false_iff_ne.mpr hz
      have hzb : (ee != 0) = true := bne_iff_ne.mpr hz
      clear hz HEE
      go_upto_region 17 with (first
       | fail)
      have HO_ := Aside0.mk (Kd.R_drew HO.out)
      clear HO
      have HO := HO_
      clear HO_
      have HX_ := Aside0.mk HX.out.drew
      have v30_ : wr.drew.cell? ⟨g3, 0, none⟩ = some (.int .i64 a0_0) := v30
      have v31_ : wr.drew.cell? ⟨g3, 1, none⟩ = some (.slice A L.length c) := v31
      have v40_ : wr.drew.cell? ⟨g4, 0, none⟩ = some (.slice (some ad) l1_0.length c1_0) := v40
      have hx0_ : wr.drew.cell? (ad.add (i * 4)) = some (.int .i64 x.f0) := hx0
      have hx1_ : wr.drew.cell? ⟨(ad.add (i * 4)).block, (ad.add (i * 4)).off + 1, none⟩ = some (.int .i64 x.f1) := hx1
      have hx2_ : wr.drew.cell? ⟨(ad.add (i * 4)).block, (ad.add (i * 4)).off + 2, none⟩ = some (.int .i64 x.f2) := hx2
      have hx3_ : wr.drew.cell? ⟨(ad.add (i * 4)).block, (ad.add (i * 4)).off + 3, none⟩ = some (.int .i64 x.f3) := hx3
      clear HX hx0 hx1 hx2 hx3 v30 v31 f30 f31 v40 v41 v42 f40 v70 v71 v72
      have HX := HX_
      have v30 := v30_
      have v31 := v31_
      have v40 := v40_
      have hx0 := hx0_
      have hx1 := hx1_
      have hx2 := hx2_
      have hx3 := hx3_
      clear HX_ v30_ v31_ v40_ hx0_ hx1_ hx2_ hx3_
      refine start_ (n := 14) (S := fun w' => w'.cell? ⟨g3, 0, none⟩ = some (.int .i64 a0_0) ∧ w'.cell? ⟨g3, 1, none⟩ = some (.slice A L.length c) ∧ w'.cell? ⟨g4, 0, none⟩ = some (.slice (some ad) l1_0.length c1_0) ∧ w'.cell? (ad.add (i * 4)) = some (.int .i64 x.f0) ∧ w'.cell? ⟨(ad.add (i * 4)).block, (ad.add (i * 4)).off + 1, none⟩ = some (.int .i64 x.f1) ∧ w'.cell? ⟨(ad.add (i * 4)).block, (ad.add (i * 4)).off + 2, none⟩ = some (.int .i64 x.f2) ∧ w'.cell? ⟨(ad.add (i * 4)).block, (ad.add (i * 4)).off + 3, none⟩ = some (.int .i64 x.f3)) (ds := []) #[false, false, false, false, false, false, false, false, false, false, false, false, false, false] (by kernel_rfl) rfl rfl ⟨v30, v31, v40, hx0, hx1, hx2, hx3⟩ (fun hHeld => ?_)
      generalize wr.drew = WS at *
      refine pure_ (i := 1) (N := some 67) (v := ?_) (a' := ?_) #[false, true, false, false, false, false, false, false, false, false, false, false, false, false] rfl rfl (by kernel_rfl) (fun _ _ _ h => h) (Or.inl ⟨by rfl, ?_⟩) ?_ ?_
      rotate_left
      ·intro w'
       go_simp
       with_reducible rfl
      rotate_left
      ·simp only [Act.put, List.setIfInBounds_toArray, List.set_cons_zero, List.set_cons_succ, i64_w, i32_w]
       rfl
      refine pure_ (i := 3) (N := some 69) (v := ?_) (a' := ?_) #[false, true, false, true, false, false, false, false, false, false, false, false, false, false] rfl rfl (by kernel_rfl) (fun _ _ _ h => h) (Or.inl ⟨by rfl, ?_⟩) ?_ ?_
      rotate_left
      ·intro w'
       go_simp
       with_reducible rfl
      rotate_left
      ·simp only [Act.put, List.setIfInBounds_toArray, List.set_cons_zero, List.set_cons_succ, i64_w, i32_w]
       rfl
      refine take_ (i := 0) (N := some 66) (v := ?_) (a' := ?_) #[true, true, false, true, false, false, false, false, false, false, false, false, false, false] rfl rfl (by kernel_rfl) (fun _ _ _ h => h) (Or.inl ⟨by rfl, ?_⟩) hHeld ?_ ?_
      rotate_left
      ·rintro w' ⟨s0, s1, s2, s3, s4, s5, s6⟩
       go_simp
       with_reducible rfl
      rotate_left
      ·simp only [Act.put, List.setIfInBounds_toArray, List.set_cons_zero, List.set_cons_succ, i64_w, i32_w]
       rfl
      refine take_ (i := 2) (N := some 68) (v := ?_) (a' := ?_) #[true, true, true, true, false, false, false, false, false, false, false, false, false, false] rfl rfl (by kernel_rfl) (fun _ _ _ h => h) (Or.inl ⟨by rfl, ?_⟩) hHeld ?_ ?_
      rotate_left
      ·rintro w' ⟨s0, s1, s2, s3, s4, s5, s6⟩
       go_simp
       with_reducible rfl
      rotate_left
      ·simp only [Act.put, List.setIfInBounds_toArray, List.set_cons_zero, List.set_cons_succ, i64_w, i32_w]
       rfl
      refine pure_ (i := 4) (N := some 70) (v := ?_) (a' := ?_) #[true, true, true, true, true, false, false, false, false, false, false, false, false, false] rfl rfl (by kernel_rfl) (fun _ _ _ h => h) (Or.inl ⟨by rfl, ?_⟩) ?_ ?_
      rotate_left
      ·intro w'
       go_simp
       with_reducible rfl
      rotate_left
      ·simp only [Act.put, List.setIfInBounds_toArray, List.set_cons_zero, List.set_cons_succ, i64_w, i32_w]
       rfl
      refine pure_ (i := 5) (N := some 71) (v := ?_) (a' := ?_) #[true, true, true, true, true, true, false, false, false, false, false, false, false, false] rfl rfl (by kernel_rfl) (fun _ _ _ h => h) (Or.inl ⟨by rfl, ?_⟩) ?_ ?_
      rotate_left
      ·intro w'
       go_simp
       with_reducible rfl
      rotate_left
      ·simp only [Act.put, List.setIfInBounds_toArray, List.set_cons_zero, List.set_cons_succ, i64_w, i32_w]
       rfl
      refine take_ (i := 6) (N := some 72) (v := ?_) (a' := ?_) #[true, true, true, true, true, true, true, false, false, false, false, false, false, false] rfl rfl (by kernel_rfl) (fun _ _ _ h => h) (Or.inl ⟨by rfl, ?_⟩) hHeld ?_ ?_
      rotate_left
      ·rintro w' ⟨s0, s1, s2, s3, s4, s5, s6⟩
       go_simp
       with_reducible rfl
      rotate_left
      ·simp only [Act.put, List.setIfInBounds_toArray, List.set_cons_zero, List.set_cons_succ, i64_w, i32_w]
       rfl
      refine one_ (i := 7) (N := some 73) #[true, true, true, true, true, true, true, true, false, false, false, false, false, false] rfl rfl (by kernel_rfl) (by decide) (fun K hK => ?_)
      refine goes_ Tryd.func17 (by kernel_rfl) rfl #[.int .i64 x.f0] (by rfl) rfl rfl (by simp only [List.map_toArray, List.map_cons, List.map_nil]; rfl) ?_
      with_reducible refine (manifest_Name.calls x.f0 nm _ (GT.below HG.out HX.out.B) HNF.out).mono ?_
      rintro e_ w7 ⟨rfl, hb⟩
      refine ⟨_, rfl, ?_⟩
      have HB7 := Aside0.mk hb
      clear hb
      refine hK.out _ _ ⟨(pw_cell_below HB7.out hHeld.1), (pw_cell_below HB7.out hHeld.2.1), (pw_cell_below HB7.out hHeld.2.2.1), (pw_cell_below HB7.out hHeld.2.2.2.1), (pw_cell_below HB7.out hHeld.2.2.2.2.1), (pw_cell_below HB7.out hHeld.2.2.2.2.2.1), (pw_cell_below HB7.out hHeld.2.2.2.2.2.2)⟩ (fun hHeld => ?_)
      clear hK K
      refine norm_ (a' := ?_) ?_ ?_
      rotate_left
      ·show Act.put _ (some 73) _ = _
       simp only [Act.put, List.setIfInBounds_toArray, List.set_cons_zero, List.set_cons_succ, i64_w, i32_w]
       rfl
      refine one_ (i := 8) (N := some 74) #[true, true, true, true, true, true, true, true, true, false, false, false, false, false] rfl rfl (by kernel_rfl) (by decide) (fun K hK => ?_)
      refine goes_ Tryd.func30 (by kernel_rfl) rfl #[.agg #[.int .i64 a0_0, .slice A L.length c], .string nm] (by rfl) rfl rfl (by simp only [List.map_toArray, List.map_cons, List.map_nil]; rfl) ?_
      with_reducible refine (store_Read.calls 800 a0_0 A c L nm bb ee _ (Kd.C_below HX.out.reads HB7.out) HX.out.cap HRD.out).mono ?_
      rintro e_ w8 ⟨v8_, rfl, hR, hb⟩
      refine ⟨_, rfl, ?_⟩
      obtain ⟨Ab, cb, rfl⟩ := Kd.R_slice hR
      have HB8 := Aside0.mk (below_step HB7.out hb)
      have HB9 := Aside0.mk hb
      clear hb hR
      refine hK.out _ _ ⟨(pw_cell_below HB9.out hHeld.1), (pw_cell_below HB9.out hHeld.2.1), (pw_cell_below HB9.out hHeld.2.2.1), (pw_cell_below HB9.out hHeld.2.2.2.1), (pw_cell_below HB9.out hHeld.2.2.2.2.1), (pw_cell_below HB9.out hHeld.2.2.2.2.2.1), (pw_cell_below HB9.out hHeld.2.2.2.2.2.2)⟩ (fun hHeld => ?_)
      clear hK K
      refine norm_ (a' := ?_) ?_ ?_
      rotate_left
      ·show Act.put _ (some 74) _ = _
       simp only [Act.put, List.setIfInBounds_toArray, List.set_cons_zero, List.set_cons_succ, i64_w, i32_w]
       rfl
      refine pure_ (i := 9) (N := some 65) (v := ?_) (a' := ?_) #[true, true, true, true, true, true, true, true, true, true, false, false, false, false] rfl rfl (by kernel_rfl) (fun _ _ _ h => h) (Or.inl ⟨by rfl, ?_⟩) ?_ ?_
      rotate_left
      ·intro w'
       go_simp
       with_reducible rfl
      rotate_left
      ·simp only [Act.put, List.setIfInBounds_toArray, List.set_cons_zero, List.set_cons_succ, i64_w, i32_w]
       rfl
      refine pure_ (i := 10) (N := some 75) (v := ?_) (a' := ?_) #[true, true, true, true, true, true, true, true, true, true, true, false, false, false] rfl rfl (by kernel_rfl) (fun _ _ _ h => h) (Or.inl ⟨by rfl, ?_⟩) ?_ ?_
      rotate_left
      ·intro w'
       go_simp
       with_reducible rfl
      rotate_left
      ·simp only [Act.put, List.setIfInBounds_toArray, List.set_cons_zero, List.set_cons_succ, i64_w, i32_w]
       rfl
      refine pure_ (i := 11) (N := some 76) (v := ?_) (a' := ?_) #[true, true, true, true, true, true, true, true, true, true, true, true, false, false] rfl rfl (by kernel_rfl) (fun _ _ _ h => h) (Or.inl ⟨by rfl, ?_⟩) ?_ ?_
      rotate_left
      ·intro w'
       go_simp
       with_reducible rfl
      rotate_left
      ·simp only [Act.put, List.setIfInBounds_toArray, List.set_cons_zero, List.set_cons_succ, i64_w, i32_w]
       rfl
      refine pure_ (i := 12) (N := some 15) (v := ?_) (a' := ?_) #[true, true, true, true, true, true, true, true, true, true, true, true, true, false] rfl rfl (by kernel_rfl) (fun _ _ _ h => h) (Or.inl ⟨by rfl, ?_⟩) ?_ ?_
      rotate_left
      ·intro w'
       go_simp
       with_reducible rfl
      rotate_left
      ·simp only [Act.put, List.setIfInBounds_toArray, List.set_cons_zero, List.set_cons_succ, i64_w, i32_w]
       rfl
      refine pure_ (i := 13) (N := some 16) (v := ?_) (a' := ?_) #[true, true, true, true, true, true, true, true, true, true, true, true, true, true] rfl rfl (by kernel_rfl) (fun _ _ _ h => h) (Or.inl ⟨by rfl, ?_⟩) ?_ ?_
      rotate_left
      ·intro w'
       go_simp
       with_reducible rfl
      rotate_left
      ·simp only [Act.put, List.setIfInBounds_toArray, List.set_cons_zero, List.set_cons_succ, i64_w, i32_w]
       rfl
      refine done_ (by kernel_rfl) ?_
      have HX_ := Aside0.mk (HX.out.step HB8.out)
      have HO_ := Aside0.mk (Kd.R_below HO.out HB8.out)
      have hx0_ := pw_cell_below HB8.out hx0
      have hx1_ := pw_cell_below HB8.out hx1
      have hx2_ := pw_cell_below HB8.out hx2
      have hx3_ := pw_cell_below HB8.out hx3
      clear HX HO HB7 HB8 HB9 hHeld v30 v31 v40 hx0 hx1 hx2 hx3
      have HX := HX_
      have HO := HO_
      have hx0 := hx0_
      have hx1 := hx1_
      have hx2 := hx2_
      have hx3 := hx3_
      clear HX_ HO_ hx0_ hx1_ hx2_ hx3_
      obtain ⟨v30, v31, f30, f31, v40, v41, v42, f40, v70, v71, v72⟩ := HX.out.vis
      go_wp2
      go_roundw
      ·exact ⟨i + 1, u13, acc, rfl, rfl, cs, ⟨by rw [left_succ L l1_0 i cs, ← HXX.out, if_neg HHAS.out, List.append_nil]; exact HACC.out⟩, HX, HO⟩
      ·show l1_0.length - (((i + 1 : Nat) : Int)).toNat < l1_0.length - (i : Int).toNat
       omega
    ·obtain rfl : i = l1_0.length := by omega
     have csd : decide ((l1_0.length : Int) < (l1_0.length : Int)) = false := decide_eq_false (Int.lt_irrefl _)
     have HACC2 := Aside0.mk (show acc = leftL L l1_0 by have := HACC.out; rw [List.take_length] at this; exact this)
     have HAL2 := Aside0.mk (show acc.length < 140737488355328 by rw [HACC2.out]; have := List.length_filter_le (has L) l1_0; have := HLL.out; unfold leftL; omega)
     obtain ⟨Ao, co, hvo⟩ := Kd.R_slice HO.out
     subst hvo
     obtain ⟨v30, v31, f30, f31, v40, v41, v42, f40, v70, v71, v72⟩ := HX.out.vis
     go_upto_region 21 with (first
      | fail)
     have HX_ := Aside0.mk (HX.out.new4 (Kd.V_mono (Kd.R_V (base' := 0) HO.out) (fun k hk => Nat.lt_of_lt_of_le HX.out.oN.1 hk)))
     clear HX HO HACC v30 v31 f30 f31 v40 v41 v42 f40 v70 v71 v72
     generalize wr.setCell ⟨g4, 0, none⟩ (.slice Ao acc.length co) = W20 at *
     generalize wr.heap.size = N3 at *
     have HX := HX_
     clear HX_
     obtain ⟨v30, v31, f30, f31, v40, v41, v42, f40, v70, v71, v72⟩ := HX.out.vis
     by_cases cf : FormedC acc a1_1 a1_2
     ·have HCF := Aside0.mk cf
      obtain ⟨st, hst⟩ : ∃ st : List S60, st = [⟨1, nextB, ⟨#[]⟩, frame (bytesC acc a1_1 a1_2)⟩, ⟨2, nextB, ⟨#[]⟩, []⟩, ⟨3, nextB, manB, []⟩] := ⟨_, rfl⟩
      have HCOM := Aside0.mk (show manifest_Commit.f acc a1_1 a1_2 = some (st, 0) by rw [commit_f HAL2.out, if_pos cf, hst])
      have HST := Aside0.mk hst
      have HSL := Aside0.mk (show st.length = 3 by rw [hst]; rfl)
      have HPK0 := Aside0.mk (show PK a0_0 rs nx sq acc (frame (bytesC acc a1_1 a1_2)) 0 L from pk0 HCE.out.1 (by rw [HACC2.out]; exact left_in HCE.out.1.1 _) (no_next HCE.out))
      have HRSL := Aside0.mk (show rs.length ≤ 140737488355328 from rs_len HCE.out.1)
      clear cf hst
      go_wp2_with (first
       | (go_at_call 19; ((with_reducible refine (manifest_Commit.calls Ao co acc a1_1 a1_2 st 0 _ (Kd.V_reads' HX.out.hR).2.2 (Kd.V_reads' HX.out.hR).2.1 (GT.below HG.out HX.out.B) HCOM.out).mono ?_); rintro e_ w21 ⟨v21, rfl, hN, hb⟩; obtain ⟨A9, d9, rfl⟩ := Kd.N_slice hN; have HX_ := Aside0.mk ((HX.out.step hb).newO (Kd.V_mono (Kd.N_V (base' := 0) hN) (fun k hk => by have := HX.out.oN; omega))); clear HX hb hN v30 v31 f30 f31 v40 v41 v42 f40 v70 v71 v72; have HX := HX_; clear HX_; obtain ⟨v30, v31, f30, f31, v40, v41, v42, f40, v70, v71, v72⟩ := HX.out.vis)))
      go_loopw [19] (fun v19 w' => ∃ (k N : Nat) (A : Option Addr) (c : Nat) (L : List S84), v19 = .int .i64 k ∧ k ≤ 4 ∧ Aside0 (PK a0_0 rs nx sq acc (frame (bytesC acc a1_1 a1_2)) (k - 1) L) ∧ Aside0 (AX w w' N g3 g4 g7 a0_0 A c L Ao co acc a1_1 a1_2 A7 d7 rs nx sq A9 d9 st)) (fun v19 _ => 4 - (intOf v19).toNat)
      case atStart => exact ⟨0, _, _, _, _, rfl, Nat.zero_le _, HPK0, HX⟩
      case round =>
       clear HX HPK0 HCE HACC2 v30 v31 f30 f31 v40 v41 v42 f40 v70 v71 v72
       obtain ⟨k, N, A, c, L, rfl, hk4, HPK, HX⟩ := hrel
       obtain ⟨v30, v31, f30, f31, v40, v41, v42, f40, v70, v71, v72⟩ := HX.out.vis
       by_cases ck : k = 4
       ·have csd : decide ((k : Int) ≤ (st.length : Int)) = false := decide_eq_false (by have := HSL.out; omega)
        have csd2 : decide (k ≤ st.length) = false := decide_eq_false (by have := HSL.out; omega)
        have csd3 : (k ≤ st.length) = False := eq_false (by have := HSL.out; omega)
        have csd4 : (st.length < k) = True := eq_true (by have := HSL.out; omega)
        clear ck
        go_wp2
        go_ret
        exact ⟨rfl, HX.out.B⟩
       ·have csd : decide ((k : Int) ≤ (st.length : Int)) = true := decide_eq_true (by have := HSL.out; omega)
        have csd2 : decide (k ≤ st.length) = true := decide_eq_true (by have := HSL.out; omega)
        have csd3 : (k ≤ st.length) = True := eq_true (by have := HSL.out; omega)
        have csd4 : (st.length < k) = False := eq_false (by have := HSL.out; omega)
        have hwr : IntKind.i64.wrap ((k : Int) + 1) = ((k + 1 : Nat) : Int) := by rw [IntKind.wrap_i64]; omega
        by_cases c0 : k = 0
        ·have cg : decide ((0 : Int) < (k : Int)) = false := decide_eq_false (by omega)
         have cg2 : decide (0 < k) = false := decide_eq_false (by omega)
         have cg3 : (0 < k) = False := eq_false (by omega)
         have cg4 : (k ≤ 0) = True := eq_true (by omega)
         have HPK_ := Aside0.mk (show PK a0_0 rs nx sq acc (frame (bytesC acc a1_1 a1_2)) k L by have := HPK.out; rw [c0] at this ⊢; exact this)
         clear HPK c0
         have HPK := HPK_
         clear HPK_
         obtain ⟨y, hy⟩ : ∃ y, y = L.map (crashF l2) := ⟨_, rfl⟩
         have HCR := Aside0.mk (show store_Crash.f a0_0 L l2 = some (a0_0, y, 0) by rw [hy]; exact crash_f HPK.out.1 HKK.out)
         have HRY0 := Aside0.mk (show manifest_Recover.f a0_0 y = some (recF a0_0 y) by rw [hy]; exact own_rec _ _ (reach_of (crash_formed l2 HPK.out.1)) (crash_bytes l2 HPK.out.2.1))
         have hcase := crash_rec l2 HCF.out HPK.out (by omega)
         rw [← hy] at hcase
         clear hy
         rcases hcase with ⟨ops2, hrf⟩ | ⟨hk3, hrf, hsu⟩
         ·by_cases hk3 : k < 3
          ·rw [if_pos hk3, if_pos hk3, if_pos hk3] at hrf
           have HRY := Aside0.mk (show manifest_Recover.f a0_0 y = some (rs, nx, sq, ops2, 0) by rw [HRY0.out, hrf])
           have ct1 : decide ((k : Int) < (st.length : Int)) = true := decide_eq_true (by have := HSL.out; omega)
           have ct3 : decide (k < st.length) = true := decide_eq_true (by have := HSL.out; omega)
           have ct4 : (k < st.length) = True := eq_true (by have := HSL.out; omega)
           have ct5 : (st.length ≤ k) = False := eq_false (by have := HSL.out; omega)
           have ct2 : ((k : Int) == (st.length : Int)) = false := beq_eq_false_iff_ne.mpr (by have := HSL.out; omega)
           have HSAME := Aside0.mk (same18_reflk rs nx sq HRSL.out 140737488355400 (by have := HRSL.out; omega))
           clear hrf HRY0
           go_upto_region 35 with (first
            | (go_at_call 31; ((with_reducible refine (store_Crash.calls a0_0 A c L A2 c2 l2 a0_0 y 0 _ HX.out.reads HX.out.cap (Kd.C_below HR2.out HX.out.B) HC2.out HCR.out).mono ?_); rintro e_ w30 ⟨v30_, rfl, hV, hb⟩; obtain ⟨Ay, cy, rfl⟩ := Kd.V_slice hV; have HCY := Aside0.mk (Kd.V_reads' hV).2.2; have HLY := Aside0.mk (Kd.V_reads' hV).2.1; clear hV; have HX_ := Aside0.mk (HX.out.step hb); clear HX hb  v30 v31 f30 f31 v40 v41 v42 f40 v70 v71 v72; have HX := HX_; clear HX_; obtain ⟨v30, v31, f30, f31, v40, v41, v42, f40, v70, v71, v72⟩ := HX.out.vis))
            | ((with_reducible refine gate_dst (N := 22) rfl ?_); refine box_event ?hg (N := 22) ?hd (cs := #[.int .i64 0, .slice none 0 0]) (t := 50) ?hr ?_; (case hd => rfl); (case hg => rfl); (case hr => first | (go_simp; done) | (go_simp; rfl)); (intro g22 hg22 w31 hbox hb; have CB22 := Aside0.mk hbox; have HG22 := Aside0.mk hg22; have HBN := Aside0.mk hb; clear hbox hg22 hb v30 v31 f30 f31 v40 v41 v42 f40 v70 v71 v72; have v220 : w31.cell? ⟨g22, 0, none⟩ = some (.int .i64 0) := (blk_cell CB22.out 0).trans rfl; have v221 : w31.cell? ⟨g22, 1, none⟩ = some (.slice none 0 0) := (blk_cell CB22.out 1).trans rfl; have f220 := blk_frozen CB22.out 0; have f221 := blk_frozen CB22.out 1)))
           have HBx : Aside0 (Below w30.heap.size w30 ((((w31).setCell ⟨g22, 0, none⟩ (.int .i64 a0_0))).setCell ⟨g22, 1, none⟩ (.slice Ay y.length cy))) := ⟨(below_set (below_set HBN.out (Nat.le_of_eq HG22.out.symm)) (Nat.le_of_eq HG22.out.symm))⟩
           have HX_ := Aside0.mk (HX.out.step HBx.out)
           have HCY_ := Aside0.mk (Kd.C_below HCY.out HBx.out)
           have CB22_ := Aside0.mk (blk_put (cs' := #[.int .i64 a0_0, .slice Ay y.length cy]) (blk_put (cs' := #[.int .i64 a0_0, .slice none 0 0]) CB22.out 0 (.int .i64 a0_0) rfl) 1 (.slice Ay y.length cy) rfl)
           clear HX HCY CB22 HG22 HBN HBx v220 f220 v221 f221
           generalize ((((w31).setCell ⟨g22, 0, none⟩ (.int .i64 a0_0))).setCell ⟨g22, 1, none⟩ (.slice Ay y.length cy)) = W31 at *
           have HX := HX_
           have HCY := HCY_
           have CB22 := CB22_
           clear HX_ HCY_ CB22_
           obtain ⟨v30, v31, f30, f31, v40, v41, v42, f40, v70, v71, v72⟩ := HX.out.vis
           have v220 : W31.cell? ⟨g22, 0, none⟩ = some (.int .i64 a0_0) := (blk_cell CB22.out 0).trans rfl
           have v221 : W31.cell? ⟨g22, 1, none⟩ = some (.slice Ay y.length cy) := (blk_cell CB22.out 1).trans rfl
           go_upto_region 36 with (first
            | (go_at_call 26; ((with_reducible refine (manifest_Recover.calls a0_0 Ay cy y rs nx sq ops2 0 _ HCY.out HLY.out (GT.below HG.out HX.out.B) HRY.out).mono ?_); rintro e_ w32 ⟨v0, v3, rfl, hR, hS, hb⟩; obtain ⟨At, dt, rfl⟩ := Kd.R_slice hR; obtain ⟨Bt, et, rfl⟩ := Kd.S_slice hS; have HRL := Aside0.mk (Kd.R_reads' hR).2.1; have HRT := Aside0.mk (Kd.R_reads' hR).2.2; clear hR hS HCY HLY CB22 v220 v221; have HX_ := Aside0.mk (HX.out.step hb); clear HX hb  v30 v31 f30 f31 v40 v41 v42 f40 v70 v71 v72; have HX := HX_; clear HX_; obtain ⟨v30, v31, f30, f31, v40, v41, v42, f40, v70, v71, v72⟩ := HX.out.vis))
            | ((with_reducible refine gate_dst (N := 24) rfl ?_); refine box_event ?hg (N := 24) ?hd (cs := #[.slice none 0 0, .int .i64 0, .int .i64 0]) (t := 27) ?hr ?_; (case hd => rfl); (case hg => rfl); (case hr => first | (go_simp; done) | (go_simp; rfl)); (intro g24 hg24 w33 hbox hb; have CB24 := Aside0.mk hbox; have HG24 := Aside0.mk hg24; have HBN := Aside0.mk hb; clear hbox hg24 hb v30 v31 f30 f31 v40 v41 v42 f40 v70 v71 v72; have v240 : w33.cell? ⟨g24, 0, none⟩ = some (.slice none 0 0) := (blk_cell CB24.out 0).trans rfl; have v241 : w33.cell? ⟨g24, 1, none⟩ = some (.int .i64 0) := (blk_cell CB24.out 1).trans rfl; have v242 : w33.cell? ⟨g24, 2, none⟩ = some (.int .i64 0) := (blk_cell CB24.out 2).trans rfl; have f240 := blk_frozen CB24.out 0; have f241 := blk_frozen CB24.out 1; have f242 := blk_frozen CB24.out 2)))
           have HBx : Aside0 (Below w32.heap.size w32 ((((((w33).setCell ⟨g24, 0, none⟩ (.slice At rs.length dt))).setCell ⟨g24, 1, none⟩ (.int .i64 nx))).setCell ⟨g24, 2, none⟩ (.int .i64 sq))) := ⟨(below_set (below_set (below_set HBN.out (Nat.le_of_eq HG24.out.symm)) (Nat.le_of_eq HG24.out.symm)) (Nat.le_of_eq HG24.out.symm))⟩
           have HX_ := Aside0.mk (HX.out.step HBx.out)
           have HRT_ := Aside0.mk (Kd.C_below HRT.out HBx.out)
           have CB24_ := Aside0.mk (blk_put (cs' := #[.slice At rs.length dt, .int .i64 nx, .int .i64 sq]) (blk_put (cs' := #[.slice At rs.length dt, .int .i64 nx, .int .i64 0]) (blk_put (cs' := #[.slice At rs.length dt, .int .i64 0, .int .i64 0]) CB24.out 0 (.slice At rs.length dt) rfl) 1 (.int .i64 nx) rfl) 2 (.int .i64 sq) rfl)
           clear HX HRT CB24 HG24 HBN HBx v240 f240 v241 f241 v242 f242
           generalize ((((((w33).setCell ⟨g24, 0, none⟩ (.slice At rs.length dt))).setCell ⟨g24, 1, none⟩ (.int .i64 nx))).setCell ⟨g24, 2, none⟩ (.int .i64 sq)) = W33 at *
           have HX := HX_
           have HRT := HRT_
           have CB24 := CB24_
           clear HX_ HRT_ CB24_
           obtain ⟨v30, v31, f30, f31, v40, v41, v42, f40, v70, v71, v72⟩ := HX.out.vis
           have v240 : W33.cell? ⟨g24, 0, none⟩ = some (.slice At rs.length dt) := (blk_cell CB24.out 0).trans rfl
           have v241 : W33.cell? ⟨g24, 1, none⟩ = some (.int .i64 nx) := (blk_cell CB24.out 1).trans rfl
           have v242 : W33.cell? ⟨g24, 2, none⟩ = some (.int .i64 sq) := (blk_cell CB24.out 2).trans rfl
           go_wp2_with (first
            | (go_at_call 13; ((with_reducible refine (dragnetref18_Same.calls 140737488355400 At dt rs nx sq A7 d7 rs nx sq true _ HRT.out HRL.out (Kd.V_reads' HX.out.hS).2.2 (Kd.V_reads' HX.out.hS).2.1 HSAME.out).mono ?_); rintro e_ w34 ⟨rfl, hb⟩; clear HRT HRL CB24 v240 v241 v242; have HX_ := Aside0.mk (HX.out.step hb); clear HX hb  v30 v31 f30 f31 v40 v41 v42 f40 v70 v71 v72; have HX := HX_; clear HX_; obtain ⟨v30, v31, f30, f31, v40, v41, v42, f40, v70, v71, v72⟩ := HX.out.vis)))
           go_roundw
           ·exact ⟨k + 1, _, A, c, L, rfl, by omega, HPK, HX⟩
           ·show 4 - (((k + 1 : Nat) : Int)).toNat < 4 - (k : Int).toNat
            omega
          ·rw [if_neg hk3, if_neg hk3, if_neg hk3] at hrf
           have HRY := Aside0.mk (show manifest_Recover.f a0_0 y = some (acc, a1_1, a1_2, ops2, 0) by rw [HRY0.out, hrf])
           have ct1 : decide ((k : Int) < (st.length : Int)) = false := decide_eq_false (by have := HSL.out; omega)
           have ct3 : decide (k < st.length) = false := decide_eq_false (by have := HSL.out; omega)
           have ct4 : (k < st.length) = False := eq_false (by have := HSL.out; omega)
           have ct5 : (st.length ≤ k) = True := eq_true (by have := HSL.out; omega)
           have ct2 : ((k : Int) == (st.length : Int)) = true := beq_iff_eq.mpr (by have := HSL.out; omega)
           have HSAME := Aside0.mk (same18_reflk acc a1_1 a1_2 (by have := HAL2.out; omega) 140737488355400 (by have := HAL2.out; omega))
           clear hrf HRY0 hk3
           go_upto_region 35 with (first
            | (go_at_call 31; ((with_reducible refine (store_Crash.calls a0_0 A c L A2 c2 l2 a0_0 y 0 _ HX.out.reads HX.out.cap (Kd.C_below HR2.out HX.out.B) HC2.out HCR.out).mono ?_); rintro e_ w30 ⟨v30_, rfl, hV, hb⟩; obtain ⟨Ay, cy, rfl⟩ := Kd.V_slice hV; have HCY := Aside0.mk (Kd.V_reads' hV).2.2; have HLY := Aside0.mk (Kd.V_reads' hV).2.1; clear hV; have HX_ := Aside0.mk (HX.out.step hb); clear HX hb  v30 v31 f30 f31 v40 v41 v42 f40 v70 v71 v72; have HX := HX_; clear HX_; obtain ⟨v30, v31, f30, f31, v40, v41, v42, f40, v70, v71, v72⟩ := HX.out.vis))
            | ((with_reducible refine gate_dst (N := 22) rfl ?_); refine box_event ?hg (N := 22) ?hd (cs := #[.int .i64 0, .slice none 0 0]) (t := 50) ?hr ?_; (case hd => rfl); (case hg => rfl); (case hr => first | (go_simp; done) | (go_simp; rfl)); (intro g22 hg22 w31 hbox hb; have CB22 := Aside0.mk hbox; have HG22 := Aside0.mk hg22; have HBN := Aside0.mk hb; clear hbox hg22 hb v30 v31 f30 f31 v40 v41 v42 f40 v70 v71 v72; have v220 : w31.cell? ⟨g22, 0, none⟩ = some (.int .i64 0) := (blk_cell CB22.out 0).trans rfl; have v221 : w31.cell? ⟨g22, 1, none⟩ = some (.slice none 0 0) := (blk_cell CB22.out 1).trans rfl; have f220 := blk_frozen CB22.out 0; have f221 := blk_frozen CB22.out 1)))
           have HBx : Aside0 (Below w30.heap.size w30 ((((w31).setCell ⟨g22, 0, none⟩ (.int .i64 a0_0))).setCell ⟨g22, 1, none⟩ (.slice Ay y.length cy))) := ⟨(below_set (below_set HBN.out (Nat.le_of_eq HG22.out.symm)) (Nat.le_of_eq HG22.out.symm))⟩
           have HX_ := Aside0.mk (HX.out.step HBx.out)
           have HCY_ := Aside0.mk (Kd.C_below HCY.out HBx.out)
           have CB22_ := Aside0.mk (blk_put (cs' := #[.int .i64 a0_0, .slice Ay y.length cy]) (blk_put (cs' := #[.int .i64 a0_0, .slice none 0 0]) CB22.out 0 (.int .i64 a0_0) rfl) 1 (.slice Ay y.length cy) rfl)
           clear HX HCY CB22 HG22 HBN HBx v220 f220 v221 f221
           generalize ((((w31).setCell ⟨g22, 0, none⟩ (.int .i64 a0_0))).setCell ⟨g22, 1, none⟩ (.slice Ay y.length cy)) = W31 at *
           have HX := HX_
           have HCY := HCY_
           have CB22 := CB22_
           clear HX_ HCY_ CB22_
           obtain ⟨v30, v31, f30, f31, v40, v41, v42, f40, v70, v71, v72⟩ := HX.out.vis
           have v220 : W31.cell? ⟨g22, 0, none⟩ = some (.int .i64 a0_0) := (blk_cell CB22.out 0).trans rfl
           have v221 : W31.cell? ⟨g22, 1, none⟩ = some (.slice Ay y.length cy) := (blk_cell CB22.out 1).trans rfl
           go_upto_region 36 with (first
            | (go_at_call 26; ((with_reducible refine (manifest_Recover.calls a0_0 Ay cy y acc a1_1 a1_2 ops2 0 _ HCY.out HLY.out (GT.below HG.out HX.out.B) HRY.out).mono ?_); rintro e_ w32 ⟨v0, v3, rfl, hR, hS, hb⟩; obtain ⟨At, dt, rfl⟩ := Kd.R_slice hR; obtain ⟨Bt, et, rfl⟩ := Kd.S_slice hS; have HRL := Aside0.mk (Kd.R_reads' hR).2.1; have HRT := Aside0.mk (Kd.R_reads' hR).2.2; clear hR hS HCY HLY CB22 v220 v221; have HX_ := Aside0.mk (HX.out.step hb); clear HX hb  v30 v31 f30 f31 v40 v41 v42 f40 v70 v71 v72; have HX := HX_; clear HX_; obtain ⟨v30, v31, f30, f31, v40, v41, v42, f40, v70, v71, v72⟩ := HX.out.vis))
            | ((with_reducible refine gate_dst (N := 24) rfl ?_); refine box_event ?hg (N := 24) ?hd (cs := #[.slice none 0 0, .int .i64 0, .int .i64 0]) (t := 27) ?hr ?_; (case hd => rfl); (case hg => rfl); (case hr => first | (go_simp; done) | (go_simp; rfl)); (intro g24 hg24 w33 hbox hb; have CB24 := Aside0.mk hbox; have HG24 := Aside0.mk hg24; have HBN := Aside0.mk hb; clear hbox hg24 hb v30 v31 f30 f31 v40 v41 v42 f40 v70 v71 v72; have v240 : w33.cell? ⟨g24, 0, none⟩ = some (.slice none 0 0) := (blk_cell CB24.out 0).trans rfl; have v241 : w33.cell? ⟨g24, 1, none⟩ = some (.int .i64 0) := (blk_cell CB24.out 1).trans rfl; have v242 : w33.cell? ⟨g24, 2, none⟩ = some (.int .i64 0) := (blk_cell CB24.out 2).trans rfl; have f240 := blk_frozen CB24.out 0; have f241 := blk_frozen CB24.out 1; have f242 := blk_frozen CB24.out 2)))
           have HBx : Aside0 (Below w32.heap.size w32 ((((((w33).setCell ⟨g24, 0, none⟩ (.slice At acc.length dt))).setCell ⟨g24, 1, none⟩ (.int .i64 a1_1))).setCell ⟨g24, 2, none⟩ (.int .i64 a1_2))) := ⟨(below_set (below_set (below_set HBN.out (Nat.le_of_eq HG24.out.symm)) (Nat.le_of_eq HG24.out.symm)) (Nat.le_of_eq HG24.out.symm))⟩
           have HX_ := Aside0.mk (HX.out.step HBx.out)
           have HRT_ := Aside0.mk (Kd.C_below HRT.out HBx.out)
           have CB24_ := Aside0.mk (blk_put (cs' := #[.slice At acc.length dt, .int .i64 a1_1, .int .i64 a1_2]) (blk_put (cs' := #[.slice At acc.length dt, .int .i64 a1_1, .int .i64 0]) (blk_put (cs' := #[.slice At acc.length dt, .int .i64 0, .int .i64 0]) CB24.out 0 (.slice At acc.length dt) rfl) 1 (.int .i64 a1_1) rfl) 2 (.int .i64 a1_2) rfl)
           clear HX HRT CB24 HG24 HBN HBx v240 f240 v241 f241 v242 f242
           generalize ((((((w33).setCell ⟨g24, 0, none⟩ (.slice At acc.length dt))).setCell ⟨g24, 1, none⟩ (.int .i64 a1_1))).setCell ⟨g24, 2, none⟩ (.int .i64 a1_2)) = W33 at *
           have HX := HX_
           have HRT := HRT_
           have CB24 := CB24_
           clear HX_ HRT_ CB24_
           obtain ⟨v30, v31, f30, f31, v40, v41, v42, f40, v70, v71, v72⟩ := HX.out.vis
           have v240 : W33.cell? ⟨g24, 0, none⟩ = some (.slice At acc.length dt) := (blk_cell CB24.out 0).trans rfl
           have v241 : W33.cell? ⟨g24, 1, none⟩ = some (.int .i64 a1_1) := (blk_cell CB24.out 1).trans rfl
           have v242 : W33.cell? ⟨g24, 2, none⟩ = some (.int .i64 a1_2) := (blk_cell CB24.out 2).trans rfl
           go_wp2_with (first
            | (go_at_call 13; ((with_reducible refine (dragnetref18_Same.calls 140737488355400 At dt acc a1_1 a1_2 Ao co acc a1_1 a1_2 true _ HRT.out HRL.out (Kd.V_reads' HX.out.hR).2.2 (Kd.V_reads' HX.out.hR).2.1 HSAME.out).mono ?_); rintro e_ w34 ⟨rfl, hb⟩; clear HRT HRL CB24 v240 v241 v242; have HX_ := Aside0.mk (HX.out.step hb); clear HX hb  v30 v31 f30 f31 v40 v41 v42 f40 v70 v71 v72; have HX := HX_; clear HX_; obtain ⟨v30, v31, f30, f31, v40, v41, v42, f40, v70, v71, v72⟩ := HX.out.vis)))
           go_roundw
           ·exact ⟨k + 1, _, A, c, L, rfl, by omega, HPK, HX⟩
           ·show 4 - (((k + 1 : Nat) : Int)).toNat < 4 - (k : Int).toNat
            omega
         ·have HRY := Aside0.mk (show manifest_Recover.f a0_0 y = some ([], 0, 0, [], 13) by rw [HRY0.out, hrf])
          have HSU := Aside0.mk (sure_f a0_0 HPK.out.1.2.2.2.1 hsu)
          have ct1 : decide ((k : Int) < (st.length : Int)) = true := decide_eq_true (by have := HSL.out; omega)
          have ct3 : decide (k < st.length) = true := decide_eq_true (by have := HSL.out; omega)
          have ct4 : (k < st.length) = True := eq_true (by have := HSL.out; omega)
          have ct5 : (st.length ≤ k) = False := eq_false (by have := HSL.out; omega)
          have ct2 : ((k : Int) == (st.length : Int)) = false := beq_eq_false_iff_ne.mpr (by have := HSL.out; omega)
          clear hrf HRY0 hsu
          go_upto_region 35 with (first
           | (go_at_call 31; ((with_reducible refine (store_Crash.calls a0_0 A c L A2 c2 l2 a0_0 y 0 _ HX.out.reads HX.out.cap (Kd.C_below HR2.out HX.out.B) HC2.out HCR.out).mono ?_); rintro e_ w30 ⟨v30_, rfl, hV, hb⟩; obtain ⟨Ay, cy, rfl⟩ := Kd.V_slice hV; have HCY := Aside0.mk (Kd.V_reads' hV).2.2; have HLY := Aside0.mk (Kd.V_reads' hV).2.1; clear hV; have HX_ := Aside0.mk (HX.out.step hb); clear HX hb  v30 v31 f30 f31 v40 v41 v42 f40 v70 v71 v72; have HX := HX_; clear HX_; obtain ⟨v30, v31, f30, f31, v40, v41, v42, f40, v70, v71, v72⟩ := HX.out.vis))
           | ((with_reducible refine gate_dst (N := 22) rfl ?_); refine box_event ?hg (N := 22) ?hd (cs := #[.int .i64 0, .slice none 0 0]) (t := 50) ?hr ?_; (case hd => rfl); (case hg => rfl); (case hr => first | (go_simp; done) | (go_simp; rfl)); (intro g22 hg22 w31 hbox hb; have CB22 := Aside0.mk hbox; have HG22 := Aside0.mk hg22; have HBN := Aside0.mk hb; clear hbox hg22 hb v30 v31 f30 f31 v40 v41 v42 f40 v70 v71 v72; have v220 : w31.cell? ⟨g22, 0, none⟩ = some (.int .i64 0) := (blk_cell CB22.out 0).trans rfl; have v221 : w31.cell? ⟨g22, 1, none⟩ = some (.slice none 0 0) := (blk_cell CB22.out 1).trans rfl; have f220 := blk_frozen CB22.out 0; have f221 := blk_frozen CB22.out 1)))
          have HBx : Aside0 (Below w30.heap.size w30 ((((w31).setCell ⟨g22, 0, none⟩ (.int .i64 a0_0))).setCell ⟨g22, 1, none⟩ (.slice Ay y.length cy))) := ⟨(below_set (below_set HBN.out (Nat.le_of_eq HG22.out.symm)) (Nat.le_of_eq HG22.out.symm))⟩
          have HX_ := Aside0.mk (HX.out.step HBx.out)
          have HCY_ := Aside0.mk (Kd.C_below HCY.out HBx.out)
          have CB22_ := Aside0.mk (blk_put (cs' := #[.int .i64 a0_0, .slice Ay y.length cy]) (blk_put (cs' := #[.int .i64 a0_0, .slice none 0 0]) CB22.out 0 (.int .i64 a0_0) rfl) 1 (.slice Ay y.length cy) rfl)
          clear HX HCY CB22 HG22 HBN HBx v220 f220 v221 f221
          generalize ((((w31).setCell ⟨g22, 0, none⟩ (.int .i64 a0_0))).setCell ⟨g22, 1, none⟩ (.slice Ay y.length cy)) = W31 at *
          have HX := HX_
          have HCY := HCY_
          have CB22 := CB22_
          clear HX_ HCY_ CB22_
          obtain ⟨v30, v31, f30, f31, v40, v41, v42, f40, v70, v71, v72⟩ := HX.out.vis
          have v220 : W31.cell? ⟨g22, 0, none⟩ = some (.int .i64 a0_0) := (blk_cell CB22.out 0).trans rfl
          have v221 : W31.cell? ⟨g22, 1, none⟩ = some (.slice Ay y.length cy) := (blk_cell CB22.out 1).trans rfl
          go_upto_region 36 with (first
           | (go_at_call 26; ((with_reducible refine (manifest_Recover.calls a0_0 Ay cy y [] 0 0 [] 13 _ HCY.out HLY.out (GT.below HG.out HX.out.B) HRY.out).mono ?_); rintro e_ w32 ⟨v0, v3, rfl, hR, hS, hb⟩; obtain ⟨At, dt, rfl⟩ := Kd.R_slice hR; obtain ⟨Bt, et, rfl⟩ := Kd.S_slice hS; have HRL := Aside0.mk (Kd.R_reads' hR).2.1; have HRT := Aside0.mk (Kd.R_reads' hR).2.2; clear hR hS HCY HLY CB22 v220 v221; have HX_ := Aside0.mk (HX.out.step hb); clear HX hb  v30 v31 f30 f31 v40 v41 v42 f40 v70 v71 v72; have HX := HX_; clear HX_; obtain ⟨v30, v31, f30, f31, v40, v41, v42, f40, v70, v71, v72⟩ := HX.out.vis))
           | ((with_reducible refine gate_dst (N := 24) rfl ?_); refine box_event ?hg (N := 24) ?hd (cs := #[.slice none 0 0, .int .i64 0, .int .i64 0]) (t := 27) ?hr ?_; (case hd => rfl); (case hg => rfl); (case hr => first | (go_simp; done) | (go_simp; rfl)); (intro g24 hg24 w33 hbox hb; have CB24 := Aside0.mk hbox; have HG24 := Aside0.mk hg24; have HBN := Aside0.mk hb; clear hbox hg24 hb v30 v31 f30 f31 v40 v41 v42 f40 v70 v71 v72; have v240 : w33.cell? ⟨g24, 0, none⟩ = some (.slice none 0 0) := (blk_cell CB24.out 0).trans rfl; have v241 : w33.cell? ⟨g24, 1, none⟩ = some (.int .i64 0) := (blk_cell CB24.out 1).trans rfl; have v242 : w33.cell? ⟨g24, 2, none⟩ = some (.int .i64 0) := (blk_cell CB24.out 2).trans rfl; have f240 := blk_frozen CB24.out 0; have f241 := blk_frozen CB24.out 1; have f242 := blk_frozen CB24.out 2)))
          have HBx : Aside0 (Below w32.heap.size w32 ((((((w33).setCell ⟨g24, 0, none⟩ (.slice At 0 dt))).setCell ⟨g24, 1, none⟩ (.int .i64 0))).setCell ⟨g24, 2, none⟩ (.int .i64 0))) := ⟨(below_set (below_set (below_set HBN.out (Nat.le_of_eq HG24.out.symm)) (Nat.le_of_eq HG24.out.symm)) (Nat.le_of_eq HG24.out.symm))⟩
          have HX_ := Aside0.mk (HX.out.step HBx.out)
          have HRT_ := Aside0.mk (Kd.C_below HRT.out HBx.out)
          have CB24_ := Aside0.mk (blk_put (cs' := #[.slice At 0 dt, .int .i64 0, .int .i64 0]) (blk_put (cs' := #[.slice At 0 dt, .int .i64 0, .int .i64 0]) (blk_put (cs' := #[.slice At 0 dt, .int .i64 0, .int .i64 0]) CB24.out 0 (.slice At 0 dt) rfl) 1 (.int .i64 0) rfl) 2 (.int .i64 0) rfl)
          clear HX HRT CB24 HG24 HBN HBx v240 f240 v241 f241 v242 f242
          generalize ((((((w33).setCell ⟨g24, 0, none⟩ (.slice At 0 dt))).setCell ⟨g24, 1, none⟩ (.int .i64 0))).setCell ⟨g24, 2, none⟩ (.int .i64 0)) = W33 at *
          have HX := HX_
          have HRT := HRT_
          have CB24 := CB24_
          clear HX_ HRT_ CB24_
          obtain ⟨v30, v31, f30, f31, v40, v41, v42, f40, v70, v71, v72⟩ := HX.out.vis
          have v240 : W33.cell? ⟨g24, 0, none⟩ = some (.slice At 0 dt) := (blk_cell CB24.out 0).trans rfl
          have v241 : W33.cell? ⟨g24, 1, none⟩ = some (.int .i64 0) := (blk_cell CB24.out 1).trans rfl
          have v242 : W33.cell? ⟨g24, 2, none⟩ = some (.int .i64 0) := (blk_cell CB24.out 2).trans rfl
          go_wp2_with (first
           | (go_at_call 32; ((with_reducible refine (dragnetlaw18_sure.calls 300 a0_0 A c L false _ HX.out.reads HX.out.cap HSU.out).mono ?_); rintro e_ w34 ⟨rfl, hb⟩; have HX_ := Aside0.mk (HX.out.step hb); clear HX hb  v30 v31 f30 f31 v40 v41 v42 f40 v70 v71 v72; have HX := HX_; clear HX_; obtain ⟨v30, v31, f30, f31, v40, v41, v42, f40, v70, v71, v72⟩ := HX.out.vis)))
          go_ret
          exact ⟨rfl, HX.out.B⟩
        ·have cg : decide ((0 : Int) < (k : Int)) = true := decide_eq_true (by omega)
         have cg2 : decide (0 < k) = true := decide_eq_true (by omega)
         have cg3 : (0 < k) = True := eq_true (by omega)
         have cg4 : (k ≤ 0) = False := eq_false (by omega)
         obtain ⟨kind, tn, bs, hop, hbs, hdo⟩ := st_step HST.out HPK.out (by omega) (by omega) HCF.out
         have HBS := Aside0.mk hbs
         clear hbs
         have hkl : ((k - 1 : Nat) : Int) < (st.length : Int) := by have := HSL.out; omega
         obtain ⟨ad, A3, e3, had, hx0, hx1, hx2, hx3, hc3, hC3⟩ := at_T60 (Kd.V_reads' HX.out.hO).2.2 ((k - 1 : Nat) : Int) (Int.natCast_nonneg _) hkl
         subst had
         rw [Int.toNat_natCast, hop] at hx0 hx1 hx2 hx3
         rw [hop] at hc3 hC3
         clear hop
         replace hx0 : wr.cell? (ad.add ((k - 1) * 4)) = some (.int .i64 kind) := hx0
         replace hx1 : wr.cell? ⟨(ad.add ((k - 1) * 4)).block, (ad.add ((k - 1) * 4)).off + 1, none⟩ = some (.string nextB) := hx1
         replace hx2 : wr.cell? ⟨(ad.add ((k - 1) * 4)).block, (ad.add ((k - 1) * 4)).off + 2, none⟩ = some (.string tn) := hx2
         replace hx3 : wr.cell? ⟨(ad.add ((k - 1) * 4)).block, (ad.add ((k - 1) * 4)).off + 3, none⟩ = some (.slice A3 bs.length e3) := hx3
         have HC3 := Aside0.mk (show Kd.C (Kd.int .u8) wr.drew A3 bs.length bs from Kd.C_drew hC3)
         have HN3 := Aside0.mk (show bs.length = bs.length from rfl)
         have HLE3 := Aside0.mk (show bs.length ≤ e3 from hc3)
         clear hc3 hC3
         have q0 := eq_true (show (0 : Int) ≤ ((k - 1 : Nat) : Int) by omega)
         have q1 := eq_true hkl
         clear hkl
         have hwk : IntKind.i64.wrap ((k : Int) - 1) = ((k - 1 : Nat) : Int) := by rw [IntKind.wrap_i64]; omega
         rcases hdo with ⟨e, he, hk1, hdo⟩ | ⟨L2, hdo, hpk2⟩
         ·have HDO := Aside0.mk hdo
          have HE := Aside0.mk he
          have ck1 : ((k : Int) == 1) = true := beq_iff_eq.mpr (by omega)
          clear he hdo HPK hk1
          go_upto_region 28 with (first
           | fail)
          have HX_ := Aside0.mk HX.out.drew
          have v30_ : wr.drew.cell? ⟨g3, 0, none⟩ = some (.int .i64 a0_0) := v30
          have v31_ : wr.drew.cell? ⟨g3, 1, none⟩ = some (.slice A L.length c) := v31
          have hx0_ : wr.drew.cell? (ad.add ((k - 1) * 4)) = some (.int .i64 kind) := hx0
          have hx1_ : wr.drew.cell? ⟨(ad.add ((k - 1) * 4)).block, (ad.add ((k - 1) * 4)).off + 1, none⟩ = some (.string nextB) := hx1
          have hx2_ : wr.drew.cell? ⟨(ad.add ((k - 1) * 4)).block, (ad.add ((k - 1) * 4)).off + 2, none⟩ = some (.string tn) := hx2
          have hx3_ : wr.drew.cell? ⟨(ad.add ((k - 1) * 4)).block, (ad.add ((k - 1) * 4)).off + 3, none⟩ = some (.slice A3 bs.length e3) := hx3
          clear HX hx0 hx1 hx2 hx3 v30 v31 f30 f31 v40 v41 v42 f40 v70 v71 v72
          have HX := HX_
          have v30 := v30_
          have v31 := v31_
          have hx0 := hx0_
          have hx1 := hx1_
          have hx2 := hx2_
          have hx3 := hx3_
          clear HX_ v30_ v31_ hx0_ hx1_ hx2_ hx3_
          refine start_ (n := 13) (S := fun w' => w'.cell? ⟨g3, 0, none⟩ = some (.int .i64 a0_0) ∧ w'.cell? ⟨g3, 1, none⟩ = some (.slice A L.length c) ∧ w'.cell? (ad.add ((k - 1) * 4)) = some (.int .i64 kind) ∧ w'.cell? ⟨(ad.add ((k - 1) * 4)).block, (ad.add ((k - 1) * 4)).off + 1, none⟩ = some (.string nextB) ∧ w'.cell? ⟨(ad.add ((k - 1) * 4)).block, (ad.add ((k - 1) * 4)).off + 2, none⟩ = some (.string tn) ∧ w'.cell? ⟨(ad.add ((k - 1) * 4)).block, (ad.add ((k - 1) * 4)).off + 3, none⟩ = some (.slice A3 bs.length e3)) (ds := [11]) #[false, false, false, false, false, false, false, false, false, false, false, false, false] (by kernel_rfl) rfl rfl ⟨v30, v31, hx0, hx1, hx2, hx3⟩ (fun hHeld => ?_)
          generalize wr.drew = WS at *
          refine pure_ (i := 1) (N := some 109) (v := ?_) (a' := ?_) #[false, true, false, false, false, false, false, false, false, false, false, false, false] rfl rfl (by kernel_rfl) (fun _ _ _ h => h) (Or.inl ⟨by rfl, ?_⟩) ?_ ?_
          rotate_left
          ·intro w'
           go_simp
           with_reducible rfl
          rotate_left
          ·simp only [Act.put, List.setIfInBounds_toArray, List.set_cons_zero, List.set_cons_succ, i64_w, i32_w]
           rfl
          refine pure_ (i := 2) (N := some 110) (v := ?_) (a' := ?_) #[false, true, true, false, false, false, false, false, false, false, false, false, false] rfl rfl (by kernel_rfl) (fun _ _ _ h => h) (Or.inl ⟨by rfl, ?_⟩) ?_ ?_
          rotate_left
          ·intro w'
           go_simp
           with_reducible rfl
          rotate_left
          ·simp only [Act.put, List.setIfInBounds_toArray, List.set_cons_zero, List.set_cons_succ, i64_w, i32_w]
           rfl
          refine pure_ (i := 3) (N := some 111) (v := ?_) (a' := ?_) #[false, true, true, true, false, false, false, false, false, false, false, false, false] rfl rfl (by kernel_rfl) (fun _ _ _ h => h) (Or.inl ⟨by rfl, ?_⟩) ?_ ?_
          rotate_left
          ·intro w'
           go_simp
           with_reducible rfl
          rotate_left
          ·simp only [Act.put, List.setIfInBounds_toArray, List.set_cons_zero, List.set_cons_succ, i64_w, i32_w]
           rfl
          refine pure_ (i := 4) (N := some 112) (v := ?_) (a' := ?_) #[false, true, true, true, true, false, false, false, false, false, false, false, false] rfl rfl (by kernel_rfl) (fun _ _ _ h => h) (Or.inl ⟨by rfl, ?_⟩) ?_ ?_
          rotate_left
          ·intro w'
           go_simp
           with_reducible rfl
          rotate_left
          ·simp only [Act.put, List.setIfInBounds_toArray, List.set_cons_zero, List.set_cons_succ, i64_w, i32_w]
           rfl
          refine take_ (i := 0) (N := some 108) (v := ?_) (a' := ?_) #[true, true, true, true, true, false, false, false, false, false, false, false, false] rfl rfl (by kernel_rfl) (fun _ _ _ h => h) (Or.inl ⟨by rfl, ?_⟩) hHeld ?_ ?_
          rotate_left
          ·rintro w' ⟨s0, s1, s2, s3, s4, s5⟩
           go_simp
           with_reducible rfl
          rotate_left
          ·simp only [Act.put, List.setIfInBounds_toArray, List.set_cons_zero, List.set_cons_succ, i64_w, i32_w]
           rfl
          refine take_ (i := 5) (N := some 113) (v := ?_) (a' := ?_) #[true, true, true, true, true, true, false, false, false, false, false, false, false] rfl rfl (by kernel_rfl) (fun _ _ _ h => h) (Or.inl ⟨by rfl, ?_⟩) hHeld ?_ ?_
          rotate_left
          ·rintro w' ⟨s0, s1, s2, s3, s4, s5⟩
           go_simp
           with_reducible rfl
          rotate_left
          ·simp only [Act.put, List.setIfInBounds_toArray, List.set_cons_zero, List.set_cons_succ, i64_w, i32_w]
           rfl
          refine join_ (σ := Value × Nat) 2 #[true, true, true, true, true, true, true, true, true, true, true, false, false] (fun s_ => [(114, .tuple #[.agg #[.int .i64 0, s_.1], .int .i64 e]), (107, .tuple #[.agg #[.int .i64 0, s_.1], .int .i64 e]), (115, .agg #[.int .i64 0, s_.1]), (116, .int .i64 e), (20, .pointer (some ⟨s_.2, 0, none⟩))]) (fun s_ w' => (w'.cell? ⟨g3, 0, none⟩ = some (.int .i64 a0_0) ∧ w'.cell? ⟨g3, 1, none⟩ = some (.slice A L.length c) ∧ w'.cell? (ad.add ((k - 1) * 4)) = some (.int .i64 kind) ∧ w'.cell? ⟨(ad.add ((k - 1) * 4)).block, (ad.add ((k - 1) * 4)).off + 1, none⟩ = some (.string nextB) ∧ w'.cell? ⟨(ad.add ((k - 1) * 4)).block, (ad.add ((k - 1) * 4)).off + 2, none⟩ = some (.string tn) ∧ w'.cell? ⟨(ad.add ((k - 1) * 4)).block, (ad.add ((k - 1) * 4)).off + 3, none⟩ = some (.slice A3 bs.length e3)) ∧ Kd.V k84 84 w' 0 (fun k => g7 < k ∧ k ≠ s_.2) (s_.1) ([] : List S84) ∧ w'.heap[s_.2]? = some (.cells #[.int .i64 0, .slice none 0 0] 50 (0, 0)) ∧ WS.heap.size ≤ s_.2 ∧ Below WS.heap.size WS w') ?_ ?_
          rotate_left
          ·intro hCont
           refine two_ (i := 6) (j := 10) (Ni := some 114) (Nj := some 20) #[true, true, true, true, true, true, true, false, false, false, false, false, false] #[true, true, true, true, true, true, false, false, false, false, true, false, false] rfl rfl rfl rfl (by kernel_rfl) (by decide) (by decide) (fun K hK => ?_) (fun K hK => ?_)
           ·skip
            refine goes_ Tryd.func29 (by kernel_rfl) rfl #[.agg #[.int .i64 a0_0, .slice A L.length c], .agg #[.int .i64 kind, .string nextB, .string tn, .slice A3 bs.length e3]] (by rfl) rfl rfl (by simp only [List.map_toArray, List.map_cons, List.map_nil]; rfl) ?_
            with_reducible refine (do_calls a0_0 A c L kind nextB tn A3 bs.length e3 bs 0 [] e _ HX.out.reads HX.out.cap HC3.out HN3.out HLE3.out HDO.out).mono ?_
            rintro e_ w5 ⟨v5, rfl, hV, hb⟩
            refine ⟨_, rfl, ?_⟩
            have HB5 := Aside0.mk hb
            have HV5 := Aside0.mk (Kd.V_bound hV)
            clear hb hV
            refine hK.out _ _ ⟨(pw_cell_below HB5.out hHeld.1), (pw_cell_below HB5.out hHeld.2.1), (pw_cell_below HB5.out hHeld.2.2.1), (pw_cell_below HB5.out hHeld.2.2.2.1), (pw_cell_below HB5.out hHeld.2.2.2.2.1), (pw_cell_below HB5.out hHeld.2.2.2.2.2)⟩ (fun hHeld => ?_)
            clear hK K
            refine norm_ (a' := ?_) ?_ ?_
            rotate_left
            ·show Act.put _ (some 114) _ = _
             simp only [Act.put, List.setIfInBounds_toArray, List.set_cons_zero, List.set_cons_succ, i64_w, i32_w]
             rfl
            refine pure_ (i := 7) (N := some 107) (v := ?_) (a' := ?_) #[true, true, true, true, true, true, true, true, false, false, false, false, false] rfl rfl (by kernel_rfl) (fun _ _ _ h => h) (Or.inl ⟨by rfl, ?_⟩) ?_ ?_
            rotate_left
            ·intro w'
             go_simp
             with_reducible rfl
            rotate_left
            ·simp only [Act.put, List.setIfInBounds_toArray, List.set_cons_zero, List.set_cons_succ, i64_w, i32_w]
             rfl
            refine pure_ (i := 8) (N := some 115) (v := ?_) (a' := ?_) #[true, true, true, true, true, true, true, true, true, false, false, false, false] rfl rfl (by kernel_rfl) (fun _ _ _ h => h) (Or.inl ⟨by rfl, ?_⟩) ?_ ?_
            rotate_left
            ·intro w'
             go_simp
             with_reducible rfl
            rotate_left
            ·simp only [Act.put, List.setIfInBounds_toArray, List.set_cons_zero, List.set_cons_succ, i64_w, i32_w]
             rfl
            refine pure_ (i := 9) (N := some 116) (v := ?_) (a' := ?_) #[true, true, true, true, true, true, true, true, true, true, false, false, false] rfl rfl (by kernel_rfl) (fun _ _ _ h => h) (Or.inl ⟨by rfl, ?_⟩) ?_ ?_
            rotate_left
            ·intro w'
             go_simp
             with_reducible rfl
            rotate_left
            ·simp only [Act.put, List.setIfInBounds_toArray, List.set_cons_zero, List.set_cons_succ, i64_w, i32_w]
             rfl
            refine one_ (i := 10) (N := some 20) #[true, true, true, true, true, true, true, true, true, true, true, false, false] rfl rfl (by kernel_rfl) (by decide) (fun K hK => ?_)
            refine box_step ?hg (N := 20) ?hd (cs := #[.int .i64 0, .slice none 0 0]) (t := 50) ?hr ?_; (case hd => rfl); (case hg => rfl); (case hr => first | (go_simp; done) | (go_simp; rfl))
            intro g11 hg w6 hbox hb
            have HB6 := Aside0.mk hb
            have CB6 := Aside0.mk hbox
            have HG6 := Aside0.mk hg
            clear hb hbox hg
            refine hK.out _ _ ⟨(pw_cell_below HB6.out hHeld.1), (pw_cell_below HB6.out hHeld.2.1), (pw_cell_below HB6.out hHeld.2.2.1), (pw_cell_below HB6.out hHeld.2.2.2.1), (pw_cell_below HB6.out hHeld.2.2.2.2.1), (pw_cell_below HB6.out hHeld.2.2.2.2.2)⟩ (fun hHeld => ?_)
            clear hK K
            refine norm_ (a' := ?_) ?_ ?_
            rotate_left
            ·show Act.put _ (some 20) _ = _
             simp only [Act.put, List.setIfInBounds_toArray, List.set_cons_zero, List.set_cons_succ, i64_w, i32_w]
             rfl
            exact norm_ (by simp only [putAll, Act.put, List.setIfInBounds_toArray, List.set_cons_zero, List.set_cons_succ]) (hCont (v5, g11) _ ⟨hHeld, Kd.V_mono (Kd.V_below HV5.out HB6.out) (fun k hk => ⟨by have := HX.out.oN; have := hk.1; omega, by have := HG6.out; have := hk.2; omega⟩), CB6.out, by rw [HG6.out]; exact HB5.out.size, below_step HB5.out HB6.out⟩)
           ·skip
            refine box_step ?hg (N := 20) ?hd (cs := #[.int .i64 0, .slice none 0 0]) (t := 50) ?hr ?_; (case hd => rfl); (case hg => rfl); (case hr => first | (go_simp; done) | (go_simp; rfl))
            intro g11 hg w6 hbox hb
            have HB6 := Aside0.mk hb
            have CB6 := Aside0.mk hbox
            have HG6 := Aside0.mk hg
            clear hb hbox hg
            refine hK.out _ _ ⟨(pw_cell_below HB6.out hHeld.1), (pw_cell_below HB6.out hHeld.2.1), (pw_cell_below HB6.out hHeld.2.2.1), (pw_cell_below HB6.out hHeld.2.2.2.1), (pw_cell_below HB6.out hHeld.2.2.2.2.1), (pw_cell_below HB6.out hHeld.2.2.2.2.2)⟩ (fun hHeld => ?_)
            clear hK K
            refine norm_ (a' := ?_) ?_ ?_
            rotate_left
            ·show Act.put _ (some 20) _ = _
             simp only [Act.put, List.setIfInBounds_toArray, List.set_cons_zero, List.set_cons_succ, i64_w, i32_w]
             rfl
            refine one_ (i := 6) (N := some 114) #[true, true, true, true, true, true, true, false, false, false, true, false, false] rfl rfl (by kernel_rfl) (by decide) (fun K hK => ?_)
            refine goes_ Tryd.func29 (by kernel_rfl) rfl #[.agg #[.int .i64 a0_0, .slice A L.length c], .agg #[.int .i64 kind, .string nextB, .string tn, .slice A3 bs.length e3]] (by rfl) rfl rfl (by simp only [List.map_toArray, List.map_cons, List.map_nil]; rfl) ?_
            with_reducible refine (do_calls a0_0 A c L kind nextB tn A3 bs.length e3 bs 0 [] e _ (Kd.C_below HX.out.reads HB6.out) HX.out.cap (Kd.C_below HC3.out HB6.out) HN3.out HLE3.out HDO.out).mono ?_
            rintro e_ w5 ⟨v5, rfl, hV, hb⟩
            refine ⟨_, rfl, ?_⟩
            have HB5 := Aside0.mk hb
            have HV5 := Aside0.mk hV
            clear hb hV
            refine hK.out _ _ ⟨(pw_cell_below HB5.out hHeld.1), (pw_cell_below HB5.out hHeld.2.1), (pw_cell_below HB5.out hHeld.2.2.1), (pw_cell_below HB5.out hHeld.2.2.2.1), (pw_cell_below HB5.out hHeld.2.2.2.2.1), (pw_cell_below HB5.out hHeld.2.2.2.2.2)⟩ (fun hHeld => ?_)
            clear hK K
            refine norm_ (a' := ?_) ?_ ?_
            rotate_left
            ·show Act.put _ (some 114) _ = _
             simp only [Act.put, List.setIfInBounds_toArray, List.set_cons_zero, List.set_cons_succ, i64_w, i32_w]
             rfl
            refine pure_ (i := 7) (N := some 107) (v := ?_) (a' := ?_) #[true, true, true, true, true, true, true, true, false, false, true, false, false] rfl rfl (by kernel_rfl) (fun _ _ _ h => h) (Or.inl ⟨by rfl, ?_⟩) ?_ ?_
            rotate_left
            ·intro w'
             go_simp
             with_reducible rfl
            rotate_left
            ·simp only [Act.put, List.setIfInBounds_toArray, List.set_cons_zero, List.set_cons_succ, i64_w, i32_w]
             rfl
            refine pure_ (i := 8) (N := some 115) (v := ?_) (a' := ?_) #[true, true, true, true, true, true, true, true, true, false, true, false, false] rfl rfl (by kernel_rfl) (fun _ _ _ h => h) (Or.inl ⟨by rfl, ?_⟩) ?_ ?_
            rotate_left
            ·intro w'
             go_simp
             with_reducible rfl
            rotate_left
            ·simp only [Act.put, List.setIfInBounds_toArray, List.set_cons_zero, List.set_cons_succ, i64_w, i32_w]
             rfl
            refine pure_ (i := 9) (N := some 116) (v := ?_) (a' := ?_) #[true, true, true, true, true, true, true, true, true, true, true, false, false] rfl rfl (by kernel_rfl) (fun _ _ _ h => h) (Or.inl ⟨by rfl, ?_⟩) ?_ ?_
            rotate_left
            ·intro w'
             go_simp
             with_reducible rfl
            rotate_left
            ·simp only [Act.put, List.setIfInBounds_toArray, List.set_cons_zero, List.set_cons_succ, i64_w, i32_w]
             rfl
            exact norm_ (by simp only [putAll, Act.put, List.setIfInBounds_toArray, List.set_cons_zero, List.set_cons_succ]) (hCont (v5, g11) _ ⟨hHeld, Kd.V_mono HV5.out (fun k hk => ⟨by have := HX.out.oN; have := blk_lt CB6.out; have := HB6.out.size; omega, by have := blk_lt CB6.out; omega⟩), blk_below CB6.out HB5.out, by rw [HG6.out]; exact Nat.le_refl _, below_step HB6.out HB5.out⟩)
          rintro ⟨vx, g11⟩ w6 ⟨hHeld, hV, hbox, hgs, hb⟩
          obtain ⟨Ax, cx, rfl⟩ : ∃ Ax cx, vx = .slice Ax 0 cx := Kd.V_slice hV
          have CB11 := Aside0.mk hbox
          have HGS := Aside0.mk hgs
          have HBX := Aside0.mk hb
          have HVX := Aside0.mk (show Kd.V k84 84 w6 0 (fun k => g7 < k ∧ k ≠ g11) (.slice Ax 0 cx) ([] : List S84) from hV)
          clear hbox hgs hb hV
          have v110 : w6.cell? ⟨g11, 0, none⟩ = some (.int .i64 0) := (blk_cell CB11.out 0).trans rfl
          have v111 : w6.cell? ⟨g11, 1, none⟩ = some (.slice none 0 0) := (blk_cell CB11.out 1).trans rfl
          have f110 := blk_frozen CB11.out 0
          have f111 := blk_frozen CB11.out 1
          refine norm_ (a' := ?_) ?_ ?_
          rotate_left
          ·simp only [putAll, Act.put, List.setIfInBounds_toArray, List.set_cons_zero, List.set_cons_succ]
           rfl
          refine last_ (i := 11) (N := none) #[true, true, true, true, true, true, true, true, true, true, true, true, false] rfl rfl (by kernel_rfl) (by decide) (fun K hK => ?_)
          refine skip_ (w1 := ?_) (by rfl) rfl ?_ ?_
          rotate_left
          ·go_simp
           rfl
          refine hK.out _ _ ?_
          clear hK K
          refine pure_ (i := 12) (N := some 21) (v := ?_) (a' := ?_) #[true, true, true, true, true, true, true, true, true, true, true, true, true] rfl rfl (by kernel_rfl) (fun _ _ _ h => h) (Or.inl ⟨by rfl, ?_⟩) ?_ ?_
          rotate_left
          ·intro w'
           go_simp
           with_reducible rfl
          rotate_left
          ·simp only [Act.put, List.setIfInBounds_toArray, List.set_cons_zero, List.set_cons_succ, i64_w, i32_w]
           rfl
          refine done_ (by kernel_rfl) ?_
          have HBY : Aside0 (Below WS.heap.size WS ((((w6).setCell ⟨g11, 0, none⟩ (.int .i64 0))).setCell ⟨g11, 1, none⟩ (.slice Ax 0 cx))) := ⟨(below_set (below_set HBX.out HGS.out) HGS.out)⟩
          have HX_ := Aside0.mk (HX.out.step HBY.out)
          have CB11_ := Aside0.mk (blk_put (cs' := #[.int .i64 0, .slice Ax 0 cx]) (blk_put (cs' := #[.int .i64 0, .slice none 0 0]) CB11.out 0 (.int .i64 0) rfl) 1 (.slice Ax 0 cx) rfl)
          have HVX_ := Aside0.mk (Kd.V_mono (Kd.V_far (p := ⟨g11, 1, none⟩) (Kd.V_far (p := ⟨g11, 0, none⟩) HVX.out (fun k hk => hk.2) (.int .i64 0)) (fun k hk => hk.2) (.slice Ax 0 cx)) (ok' := fun k => g7 < k) (fun k hk => hk.1))
          clear HX CB11 HVX HBX HBY HGS hHeld v30 v31 hx0 hx1 hx2 hx3 v110 v111 f110 f111
          generalize ((((w6).setCell ⟨g11, 0, none⟩ (.int .i64 0))).setCell ⟨g11, 1, none⟩ (.slice Ax 0 cx)) = W6 at *
          have HX := HX_
          have CB11 := CB11_
          have HVX := HVX_
          clear HX_ CB11_ HVX_
          obtain ⟨v30, v31, f30, f31, v40, v41, v42, f40, v70, v71, v72⟩ := HX.out.vis
          have v110 : W6.cell? ⟨g11, 0, none⟩ = some (.int .i64 0) := (blk_cell CB11.out 0).trans rfl
          have v111 : W6.cell? ⟨g11, 1, none⟩ = some (.slice Ax 0 cx) := (blk_cell CB11.out 1).trans rfl
          rcases HE.out with he | he
          ·subst he
           go_wp2
           go_ret
           exact ⟨rfl, HX.out.B⟩
          ·subst he
           go_wp2
           go_ret
           exact ⟨rfl, HX.out.B⟩
         ·have HDO := Aside0.mk hdo
          have HPK2 := Aside0.mk hpk2
          clear hdo hpk2 HPK
          go_upto_region 28 with (first
           | fail)
          have HX_ := Aside0.mk HX.out.drew
          have v30_ : wr.drew.cell? ⟨g3, 0, none⟩ = some (.int .i64 a0_0) := v30
          have v31_ : wr.drew.cell? ⟨g3, 1, none⟩ = some (.slice A L.length c) := v31
          have hx0_ : wr.drew.cell? (ad.add ((k - 1) * 4)) = some (.int .i64 kind) := hx0
          have hx1_ : wr.drew.cell? ⟨(ad.add ((k - 1) * 4)).block, (ad.add ((k - 1) * 4)).off + 1, none⟩ = some (.string nextB) := hx1
          have hx2_ : wr.drew.cell? ⟨(ad.add ((k - 1) * 4)).block, (ad.add ((k - 1) * 4)).off + 2, none⟩ = some (.string tn) := hx2
          have hx3_ : wr.drew.cell? ⟨(ad.add ((k - 1) * 4)).block, (ad.add ((k - 1) * 4)).off + 3, none⟩ = some (.slice A3 bs.length e3) := hx3
          clear HX hx0 hx1 hx2 hx3 v30 v31 f30 f31 v40 v41 v42 f40 v70 v71 v72
          have HX := HX_
          have v30 := v30_
          have v31 := v31_
          have hx0 := hx0_
          have hx1 := hx1_
          have hx2 := hx2_
          have hx3 := hx3_
          clear HX_ v30_ v31_ hx0_ hx1_ hx2_ hx3_
          refine start_ (n := 13) (S := fun w' => w'.cell? ⟨g3, 0, none⟩ = some (.int .i64 a0_0) ∧ w'.cell? ⟨g3, 1, none⟩ = some (.slice A L.length c) ∧ w'.cell? (ad.add ((k - 1) * 4)) = some (.int .i64 kind) ∧ w'.cell? ⟨(ad.add ((k - 1) * 4)).block, (ad.add ((k - 1) * 4)).off + 1, none⟩ = some (.string nextB) ∧ w'.cell? ⟨(ad.add ((k - 1) * 4)).block, (ad.add ((k - 1) * 4)).off + 2, none⟩ = some (.string tn) ∧ w'.cell? ⟨(ad.add ((k - 1) * 4)).block, (ad.add ((k - 1) * 4)).off + 3, none⟩ = some (.slice A3 bs.length e3)) (ds := [11]) #[false, false, false, false, false, false, false, false, false, false, false, false, false] (by kernel_rfl) rfl rfl ⟨v30, v31, hx0, hx1, hx2, hx3⟩ (fun hHeld => ?_)
          generalize wr.drew = WS at *
          refine pure_ (i := 1) (N := some 109) (v := ?_) (a' := ?_) #[false, true, false, false, false, false, false, false, false, false, false, false, false] rfl rfl (by kernel_rfl) (fun _ _ _ h => h) (Or.inl ⟨by rfl, ?_⟩) ?_ ?_
          rotate_left
          ·intro w'
           go_simp
           with_reducible rfl
          rotate_left
          ·simp only [Act.put, List.setIfInBounds_toArray, List.set_cons_zero, List.set_cons_succ, i64_w, i32_w]
           rfl
          refine pure_ (i := 2) (N := some 110) (v := ?_) (a' := ?_) #[false, true, true, false, false, false, false, false, false, false, false, false, false] rfl rfl (by kernel_rfl) (fun _ _ _ h => h) (Or.inl ⟨by rfl, ?_⟩) ?_ ?_
          rotate_left
          ·intro w'
           go_simp
           with_reducible rfl
          rotate_left
          ·simp only [Act.put, List.setIfInBounds_toArray, List.set_cons_zero, List.set_cons_succ, i64_w, i32_w]
           rfl
          refine pure_ (i := 3) (N := some 111) (v := ?_) (a' := ?_) #[false, true, true, true, false, false, false, false, false, false, false, false, false] rfl rfl (by kernel_rfl) (fun _ _ _ h => h) (Or.inl ⟨by rfl, ?_⟩) ?_ ?_
          rotate_left
          ·intro w'
           go_simp
           with_reducible rfl
          rotate_left
          ·simp only [Act.put, List.setIfInBounds_toArray, List.set_cons_zero, List.set_cons_succ, i64_w, i32_w]
           rfl
          refine pure_ (i := 4) (N := some 112) (v := ?_) (a' := ?_) #[false, true, true, true, true, false, false, false, false, false, false, false, false] rfl rfl (by kernel_rfl) (fun _ _ _ h => h) (Or.inl ⟨by rfl, ?_⟩) ?_ ?_
          rotate_left
          ·intro w'
           go_simp
           with_reducible rfl
          rotate_left
          ·simp only [Act.put, List.setIfInBounds_toArray, List.set_cons_zero, List.set_cons_succ, i64_w, i32_w]
           rfl
          refine take_ (i := 0) (N := some 108) (v := ?_) (a' := ?_) #[true, true, true, true, true, false, false, false, false, false, false, false, false] rfl rfl (by kernel_rfl) (fun _ _ _ h => h) (Or.inl ⟨by rfl, ?_⟩) hHeld ?_ ?_
          rotate_left
          ·rintro w' ⟨s0, s1, s2, s3, s4, s5⟩
           go_simp
           with_reducible rfl
          rotate_left
          ·simp only [Act.put, List.setIfInBounds_toArray, List.set_cons_zero, List.set_cons_succ, i64_w, i32_w]
           rfl
          refine take_ (i := 5) (N := some 113) (v := ?_) (a' := ?_) #[true, true, true, true, true, true, false, false, false, false, false, false, false] rfl rfl (by kernel_rfl) (fun _ _ _ h => h) (Or.inl ⟨by rfl, ?_⟩) hHeld ?_ ?_
          rotate_left
          ·rintro w' ⟨s0, s1, s2, s3, s4, s5⟩
           go_simp
           with_reducible rfl
          rotate_left
          ·simp only [Act.put, List.setIfInBounds_toArray, List.set_cons_zero, List.set_cons_succ, i64_w, i32_w]
           rfl
          refine join_ (σ := Value × Nat) 2 #[true, true, true, true, true, true, true, true, true, true, true, false, false] (fun s_ => [(114, .tuple #[.agg #[.int .i64 a0_0, s_.1], .int .i64 0]), (107, .tuple #[.agg #[.int .i64 a0_0, s_.1], .int .i64 0]), (115, .agg #[.int .i64 a0_0, s_.1]), (116, .int .i64 0), (20, .pointer (some ⟨s_.2, 0, none⟩))]) (fun s_ w' => (w'.cell? ⟨g3, 0, none⟩ = some (.int .i64 a0_0) ∧ w'.cell? ⟨g3, 1, none⟩ = some (.slice A L.length c) ∧ w'.cell? (ad.add ((k - 1) * 4)) = some (.int .i64 kind) ∧ w'.cell? ⟨(ad.add ((k - 1) * 4)).block, (ad.add ((k - 1) * 4)).off + 1, none⟩ = some (.string nextB) ∧ w'.cell? ⟨(ad.add ((k - 1) * 4)).block, (ad.add ((k - 1) * 4)).off + 2, none⟩ = some (.string tn) ∧ w'.cell? ⟨(ad.add ((k - 1) * 4)).block, (ad.add ((k - 1) * 4)).off + 3, none⟩ = some (.slice A3 bs.length e3)) ∧ Kd.V k84 84 w' 0 (fun k => g7 < k ∧ k ≠ s_.2) (s_.1) (L2 : List S84) ∧ w'.heap[s_.2]? = some (.cells #[.int .i64 0, .slice none 0 0] 50 (0, 0)) ∧ WS.heap.size ≤ s_.2 ∧ Below WS.heap.size WS w') ?_ ?_
          rotate_left
          ·intro hCont
           refine two_ (i := 6) (j := 10) (Ni := some 114) (Nj := some 20) #[true, true, true, true, true, true, true, false, false, false, false, false, false] #[true, true, true, true, true, true, false, false, false, false, true, false, false] rfl rfl rfl rfl (by kernel_rfl) (by decide) (by decide) (fun K hK => ?_) (fun K hK => ?_)
           ·skip
            refine goes_ Tryd.func29 (by kernel_rfl) rfl #[.agg #[.int .i64 a0_0, .slice A L.length c], .agg #[.int .i64 kind, .string nextB, .string tn, .slice A3 bs.length e3]] (by rfl) rfl rfl (by simp only [List.map_toArray, List.map_cons, List.map_nil]; rfl) ?_
            with_reducible refine (do_calls a0_0 A c L kind nextB tn A3 bs.length e3 bs a0_0 L2 0 _ HX.out.reads HX.out.cap HC3.out HN3.out HLE3.out HDO.out).mono ?_
            rintro e_ w5 ⟨v5, rfl, hV, hb⟩
            refine ⟨_, rfl, ?_⟩
            have HB5 := Aside0.mk hb
            have HV5 := Aside0.mk (Kd.V_bound hV)
            clear hb hV
            refine hK.out _ _ ⟨(pw_cell_below HB5.out hHeld.1), (pw_cell_below HB5.out hHeld.2.1), (pw_cell_below HB5.out hHeld.2.2.1), (pw_cell_below HB5.out hHeld.2.2.2.1), (pw_cell_below HB5.out hHeld.2.2.2.2.1), (pw_cell_below HB5.out hHeld.2.2.2.2.2)⟩ (fun hHeld => ?_)
            clear hK K
            refine norm_ (a' := ?_) ?_ ?_
            rotate_left
            ·show Act.put _ (some 114) _ = _
             simp only [Act.put, List.setIfInBounds_toArray, List.set_cons_zero, List.set_cons_succ, i64_w, i32_w]
             rfl
            refine pure_ (i := 7) (N := some 107) (v := ?_) (a' := ?_) #[true, true, true, true, true, true, true, true, false, false, false, false, false] rfl rfl (by kernel_rfl) (fun _ _ _ h => h) (Or.inl ⟨by rfl, ?_⟩) ?_ ?_
            rotate_left
            ·intro w'
             go_simp
             with_reducible rfl
            rotate_left
            ·simp only [Act.put, List.setIfInBounds_toArray, List.set_cons_zero, List.set_cons_succ, i64_w, i32_w]
             rfl
            refine pure_ (i := 8) (N := some 115) (v := ?_) (a' := ?_) #[true, true, true, true, true, true, true, true, true, false, false, false, false] rfl rfl (by kernel_rfl) (fun _ _ _ h => h) (Or.inl ⟨by rfl, ?_⟩) ?_ ?_
            rotate_left
            ·intro w'
             go_simp
             with_reducible rfl
            rotate_left
            ·simp only [Act.put, List.setIfInBounds_toArray, List.set_cons_zero, List.set_cons_succ, i64_w, i32_w]
             rfl
            refine pure_ (i := 9) (N := some 116) (v := ?_) (a' := ?_) #[true, true, true, true, true, true, true, true, true, true, false, false, false] rfl rfl (by kernel_rfl) (fun _ _ _ h => h) (Or.inl ⟨by rfl, ?_⟩) ?_ ?_
            rotate_left
            ·intro w'
             go_simp
             with_reducible rfl
            rotate_left
            ·simp only [Act.put, List.setIfInBounds_toArray, List.set_cons_zero, List.set_cons_succ, i64_w, i32_w]
             rfl
            refine one_ (i := 10) (N := some 20) #[true, true, true, true, true, true, true, true, true, true, true, false, false] rfl rfl (by kernel_rfl) (by decide) (fun K hK => ?_)
            refine box_step ?hg (N := 20) ?hd (cs := #[.int .i64 0, .slice none 0 0]) (t := 50) ?hr ?_; (case hd => rfl); (case hg => rfl); (case hr => first | (go_simp; done) | (go_simp; rfl))
            intro g11 hg w6 hbox hb
            have HB6 := Aside0.mk hb
            have CB6 := Aside0.mk hbox
            have HG6 := Aside0.mk hg
            clear hb hbox hg
            refine hK.out _ _ ⟨(pw_cell_below HB6.out hHeld.1), (pw_cell_below HB6.out hHeld.2.1), (pw_cell_below HB6.out hHeld.2.2.1), (pw_cell_below HB6.out hHeld.2.2.2.1), (pw_cell_below HB6.out hHeld.2.2.2.2.1), (pw_cell_below HB6.out hHeld.2.2.2.2.2)⟩ (fun hHeld => ?_)
            clear hK K
            refine norm_ (a' := ?_) ?_ ?_
            rotate_left
            ·show Act.put _ (some 20) _ = _
             simp only [Act.put, List.setIfInBounds_toArray, List.set_cons_zero, List.set_cons_succ, i64_w, i32_w]
             rfl
            exact norm_ (by simp only [putAll, Act.put, List.setIfInBounds_toArray, List.set_cons_zero, List.set_cons_succ]) (hCont (v5, g11) _ ⟨hHeld, Kd.V_mono (Kd.V_below HV5.out HB6.out) (fun k hk => ⟨by have := HX.out.oN; have := hk.1; omega, by have := HG6.out; have := hk.2; omega⟩), CB6.out, by rw [HG6.out]; exact HB5.out.size, below_step HB5.out HB6.out⟩)
           ·skip
            refine box_step ?hg (N := 20) ?hd (cs := #[.int .i64 0, .slice none 0 0]) (t := 50) ?hr ?_; (case hd => rfl); (case hg => rfl); (case hr => first | (go_simp; done) | (go_simp; rfl))
            intro g11 hg w6 hbox hb
            have HB6 := Aside0.mk hb
            have CB6 := Aside0.mk hbox
            have HG6 := Aside0.mk hg
            clear hb hbox hg
            refine hK.out _ _ ⟨(pw_cell_below HB6.out hHeld.1), (pw_cell_below HB6.out hHeld.2.1), (pw_cell_below HB6.out hHeld.2.2.1), (pw_cell_below HB6.out hHeld.2.2.2.1), (pw_cell_below HB6.out hHeld.2.2.2.2.1), (pw_cell_below HB6.out hHeld.2.2.2.2.2)⟩ (fun hHeld => ?_)
            clear hK K
            refine norm_ (a' := ?_) ?_ ?_
            rotate_left
            ·show Act.put _ (some 20) _ = _
             simp only [Act.put, List.setIfInBounds_toArray, List.set_cons_zero, List.set_cons_succ, i64_w, i32_w]
             rfl
            refine one_ (i := 6) (N := some 114) #[true, true, true, true, true, true, true, false, false, false, true, false, false] rfl rfl (by kernel_rfl) (by decide) (fun K hK => ?_)
            refine goes_ Tryd.func29 (by kernel_rfl) rfl #[.agg #[.int .i64 a0_0, .slice A L.length c], .agg #[.int .i64 kind, .string nextB, .string tn, .slice A3 bs.length e3]] (by rfl) rfl rfl (by simp only [List.map_toArray, List.map_cons, List.map_nil]; rfl) ?_
            with_reducible refine (do_calls a0_0 A c L kind nextB tn A3 bs.length e3 bs a0_0 L2 0 _ (Kd.C_below HX.out.reads HB6.out) HX.out.cap (Kd.C_below HC3.out HB6.out) HN3.out HLE3.out HDO.out).mono ?_
            rintro e_ w5 ⟨v5, rfl, hV, hb⟩
            refine ⟨_, rfl, ?_⟩
            have HB5 := Aside0.mk hb
            have HV5 := Aside0.mk hV
            clear hb hV
            refine hK.out _ _ ⟨(pw_cell_below HB5.out hHeld.1), (pw_cell_below HB5.out hHeld.2.1), (pw_cell_below HB5.out hHeld.2.2.1), (pw_cell_below HB5.out hHeld.2.2.2.1), (pw_cell_below HB5.out hHeld.2.2.2.2.1), (pw_cell_below HB5.out hHeld.2.2.2.2.2)⟩ (fun hHeld => ?_)
            clear hK K
            refine norm_ (a' := ?_) ?_ ?_
            rotate_left
            ·show Act.put _ (some 114) _ = _
             simp only [Act.put, List.setIfInBounds_toArray, List.set_cons_zero, List.set_cons_succ, i64_w, i32_w]
             rfl
            refine pure_ (i := 7) (N := some 107) (v := ?_) (a' := ?_) #[true, true, true, true, true, true, true, true, false, false, true, false, false] rfl rfl (by kernel_rfl) (fun _ _ _ h => h) (Or.inl ⟨by rfl, ?_⟩) ?_ ?_
            rotate_left
            ·intro w'
             go_simp
             with_reducible rfl
            rotate_left
            ·simp only [Act.put, List.setIfInBounds_toArray, List.set_cons_zero, List.set_cons_succ, i64_w, i32_w]
             rfl
            refine pure_ (i := 8) (N := some 115) (v := ?_) (a' := ?_) #[true, true, true, true, true, true, true, true, true, false, true, false, false] rfl rfl (by kernel_rfl) (fun _ _ _ h => h) (Or.inl ⟨by rfl, ?_⟩) ?_ ?_
            rotate_left
            ·intro w'
             go_simp
             with_reducible rfl
            rotate_left
            ·simp only [Act.put, List.setIfInBounds_toArray, List.set_cons_zero, List.set_cons_succ, i64_w, i32_w]
             rfl
            refine pure_ (i := 9) (N := some 116) (v := ?_) (a' := ?_) #[true, true, true, true, true, true, true, true, true, true, true, false, false] rfl rfl (by kernel_rfl) (fun _ _ _ h => h) (Or.inl ⟨by rfl, ?_⟩) ?_ ?_
            rotate_left
            ·intro w'
             go_simp
             with_reducible rfl
            rotate_left
            ·simp only [Act.put, List.setIfInBounds_toArray, List.set_cons_zero, List.set_cons_succ, i64_w, i32_w]
             rfl
            exact norm_ (by simp only [putAll, Act.put, List.setIfInBounds_toArray, List.set_cons_zero, List.set_cons_succ]) (hCont (v5, g11) _ ⟨hHeld, Kd.V_mono HV5.out (fun k hk => ⟨by have := HX.out.oN; have := blk_lt CB6.out; have := HB6.out.size; omega, by have := blk_lt CB6.out; omega⟩), blk_below CB6.out HB5.out, by rw [HG6.out]; exact Nat.le_refl _, below_step HB6.out HB5.out⟩)
          rintro ⟨vx, g11⟩ w6 ⟨hHeld, hV, hbox, hgs, hb⟩
          obtain ⟨Ax, cx, rfl⟩ : ∃ Ax cx, vx = .slice Ax L2.length cx := Kd.V_slice hV
          have CB11 := Aside0.mk hbox
          have HGS := Aside0.mk hgs
          have HBX := Aside0.mk hb
          have HVX := Aside0.mk (show Kd.V k84 84 w6 0 (fun k => g7 < k ∧ k ≠ g11) (.slice Ax L2.length cx) (L2 : List S84) from hV)
          clear hbox hgs hb hV
          have v110 : w6.cell? ⟨g11, 0, none⟩ = some (.int .i64 0) := (blk_cell CB11.out 0).trans rfl
          have v111 : w6.cell? ⟨g11, 1, none⟩ = some (.slice none 0 0) := (blk_cell CB11.out 1).trans rfl
          have f110 := blk_frozen CB11.out 0
          have f111 := blk_frozen CB11.out 1
          refine norm_ (a' := ?_) ?_ ?_
          rotate_left
          ·simp only [putAll, Act.put, List.setIfInBounds_toArray, List.set_cons_zero, List.set_cons_succ]
           rfl
          refine last_ (i := 11) (N := none) #[true, true, true, true, true, true, true, true, true, true, true, true, false] rfl rfl (by kernel_rfl) (by decide) (fun K hK => ?_)
          refine skip_ (w1 := ?_) (by rfl) rfl ?_ ?_
          rotate_left
          ·go_simp
           rfl
          refine hK.out _ _ ?_
          clear hK K
          refine pure_ (i := 12) (N := some 21) (v := ?_) (a' := ?_) #[true, true, true, true, true, true, true, true, true, true, true, true, true] rfl rfl (by kernel_rfl) (fun _ _ _ h => h) (Or.inl ⟨by rfl, ?_⟩) ?_ ?_
          rotate_left
          ·intro w'
           go_simp
           with_reducible rfl
          rotate_left
          ·simp only [Act.put, List.setIfInBounds_toArray, List.set_cons_zero, List.set_cons_succ, i64_w, i32_w]
           rfl
          refine done_ (by kernel_rfl) ?_
          have HBY : Aside0 (Below WS.heap.size WS ((((w6).setCell ⟨g11, 0, none⟩ (.int .i64 a0_0))).setCell ⟨g11, 1, none⟩ (.slice Ax L2.length cx))) := ⟨(below_set (below_set HBX.out HGS.out) HGS.out)⟩
          have HX_ := Aside0.mk (HX.out.step HBY.out)
          have CB11_ := Aside0.mk (blk_put (cs' := #[.int .i64 a0_0, .slice Ax L2.length cx]) (blk_put (cs' := #[.int .i64 a0_0, .slice none 0 0]) CB11.out 0 (.int .i64 a0_0) rfl) 1 (.slice Ax L2.length cx) rfl)
          have HVX_ := Aside0.mk (Kd.V_mono (Kd.V_far (p := ⟨g11, 1, none⟩) (Kd.V_far (p := ⟨g11, 0, none⟩) HVX.out (fun k hk => hk.2) (.int .i64 a0_0)) (fun k hk => hk.2) (.slice Ax L2.length cx)) (ok' := fun k => g7 < k) (fun k hk => hk.1))
          clear HX CB11 HVX HBX HBY HGS hHeld v30 v31 hx0 hx1 hx2 hx3 v110 v111 f110 f111
          generalize ((((w6).setCell ⟨g11, 0, none⟩ (.int .i64 a0_0))).setCell ⟨g11, 1, none⟩ (.slice Ax L2.length cx)) = W6 at *
          have HX := HX_
          have CB11 := CB11_
          have HVX := HVX_
          clear HX_ CB11_ HVX_
          obtain ⟨v30, v31, f30, f31, v40, v41, v42, f40, v70, v71, v72⟩ := HX.out.vis
          have v110 : W6.cell? ⟨g11, 0, none⟩ = some (.int .i64 a0_0) := (blk_cell CB11.out 0).trans rfl
          have v111 : W6.cell? ⟨g11, 1, none⟩ = some (.slice Ax L2.length cx) := (blk_cell CB11.out 1).trans rfl
          go_upto_region 34 with (first
           | fail)
          have HX_ := Aside0.mk (HX.out.new3 HVX.out)
          clear HX HVX CB11 v110 v111 v30 v31 f30 f31 v40 v41 v42 f40 v70 v71 v72
          generalize ((W6.setCell ⟨g3, 0, none⟩ (.int .i64 a0_0)).setCell ⟨g3, 1, none⟩ (.slice Ax L2.length cx)) = W7 at *
          generalize W6.heap.size = N7 at *
          have HX := HX_
          clear HX_
          obtain ⟨A, c, L, hA, hc, hL⟩ : ∃ A c L, A = Ax ∧ c = cx ∧ L = L2 := ⟨_, _, _, rfl, rfl, rfl⟩
          subst hA hc hL
          have HPK := HPK2
          clear HPK2
          obtain ⟨v30, v31, f30, f31, v40, v41, v42, f40, v70, v71, v72⟩ := HX.out.vis
          obtain ⟨y, hy⟩ : ∃ y, y = L.map (crashF l2) := ⟨_, rfl⟩
          have HCR := Aside0.mk (show store_Crash.f a0_0 L l2 = some (a0_0, y, 0) by rw [hy]; exact crash_f HPK.out.1 HKK.out)
          have HRY0 := Aside0.mk (show manifest_Recover.f a0_0 y = some (recF a0_0 y) by rw [hy]; exact own_rec _ _ (reach_of (crash_formed l2 HPK.out.1)) (crash_bytes l2 HPK.out.2.1))
          have hcase := crash_rec l2 HCF.out HPK.out (by omega)
          rw [← hy] at hcase
          clear hy
          rcases hcase with ⟨ops2, hrf⟩ | ⟨hk3, hrf, hsu⟩
          ·by_cases hk3 : k < 3
           ·rw [if_pos hk3, if_pos hk3, if_pos hk3] at hrf
            have HRY := Aside0.mk (show manifest_Recover.f a0_0 y = some (rs, nx, sq, ops2, 0) by rw [HRY0.out, hrf])
            have ct1 : decide ((k : Int) < (st.length : Int)) = true := decide_eq_true (by have := HSL.out; omega)
            have ct3 : decide (k < st.length) = true := decide_eq_true (by have := HSL.out; omega)
            have ct4 : (k < st.length) = True := eq_true (by have := HSL.out; omega)
            have ct5 : (st.length ≤ k) = False := eq_false (by have := HSL.out; omega)
            have ct2 : ((k : Int) == (st.length : Int)) = false := beq_eq_false_iff_ne.mpr (by have := HSL.out; omega)
            have HSAME := Aside0.mk (same18_reflk rs nx sq HRSL.out 140737488355400 (by have := HRSL.out; omega))
            clear hrf HRY0
            go_upto_region 35 with (first
             | (go_at_call 31; ((with_reducible refine (store_Crash.calls a0_0 A c L A2 c2 l2 a0_0 y 0 _ HX.out.reads HX.out.cap (Kd.C_below HR2.out HX.out.B) HC2.out HCR.out).mono ?_); rintro e_ w30 ⟨v30_, rfl, hV, hb⟩; obtain ⟨Ay, cy, rfl⟩ := Kd.V_slice hV; have HCY := Aside0.mk (Kd.V_reads' hV).2.2; have HLY := Aside0.mk (Kd.V_reads' hV).2.1; clear hV; have HX_ := Aside0.mk (HX.out.step hb); clear HX hb  v30 v31 f30 f31 v40 v41 v42 f40 v70 v71 v72; have HX := HX_; clear HX_; obtain ⟨v30, v31, f30, f31, v40, v41, v42, f40, v70, v71, v72⟩ := HX.out.vis))
             | ((with_reducible refine gate_dst (N := 22) rfl ?_); refine box_event ?hg (N := 22) ?hd (cs := #[.int .i64 0, .slice none 0 0]) (t := 50) ?hr ?_; (case hd => rfl); (case hg => rfl); (case hr => first | (go_simp; done) | (go_simp; rfl)); (intro g22 hg22 w31 hbox hb; have CB22 := Aside0.mk hbox; have HG22 := Aside0.mk hg22; have HBN := Aside0.mk hb; clear hbox hg22 hb v30 v31 f30 f31 v40 v41 v42 f40 v70 v71 v72; have v220 : w31.cell? ⟨g22, 0, none⟩ = some (.int .i64 0) := (blk_cell CB22.out 0).trans rfl; have v221 : w31.cell? ⟨g22, 1, none⟩ = some (.slice none 0 0) := (blk_cell CB22.out 1).trans rfl; have f220 := blk_frozen CB22.out 0; have f221 := blk_frozen CB22.out 1)))
            have HBx : Aside0 (Below w30.heap.size w30 ((((w31).setCell ⟨g22, 0, none⟩ (.int .i64 a0_0))).setCell ⟨g22, 1, none⟩ (.slice Ay y.length cy))) := ⟨(below_set (below_set HBN.out (Nat.le_of_eq HG22.out.symm)) (Nat.le_of_eq HG22.out.symm))⟩
            have HX_ := Aside0.mk (HX.out.step HBx.out)
            have HCY_ := Aside0.mk (Kd.C_below HCY.out HBx.out)
            have CB22_ := Aside0.mk (blk_put (cs' := #[.int .i64 a0_0, .slice Ay y.length cy]) (blk_put (cs' := #[.int .i64 a0_0, .slice none 0 0]) CB22.out 0 (.int .i64 a0_0) rfl) 1 (.slice Ay y.length cy) rfl)
            clear HX HCY CB22 HG22 HBN HBx v220 f220 v221 f221
            generalize ((((w31).setCell ⟨g22, 0, none⟩ (.int .i64 a0_0))).setCell ⟨g22, 1, none⟩ (.slice Ay y.length cy)) = W31 at *
            have HX := HX_
            have HCY := HCY_
            have CB22 := CB22_
            clear HX_ HCY_ CB22_
            obtain ⟨v30, v31, f30, f31, v40, v41, v42, f40, v70, v71, v72⟩ := HX.out.vis
            have v220 : W31.cell? ⟨g22, 0, none⟩ = some (.int .i64 a0_0) := (blk_cell CB22.out 0).trans rfl
            have v221 : W31.cell? ⟨g22, 1, none⟩ = some (.slice Ay y.length cy) := (blk_cell CB22.out 1).trans rfl
            go_upto_region 36 with (first
             | (go_at_call 26; ((with_reducible refine (manifest_Recover.calls a0_0 Ay cy y rs nx sq ops2 0 _ HCY.out HLY.out (GT.below HG.out HX.out.B) HRY.out).mono ?_); rintro e_ w32 ⟨v0, v3, rfl, hR, hS, hb⟩; obtain ⟨At, dt, rfl⟩ := Kd.R_slice hR; obtain ⟨Bt, et, rfl⟩ := Kd.S_slice hS; have HRL := Aside0.mk (Kd.R_reads' hR).2.1; have HRT := Aside0.mk (Kd.R_reads' hR).2.2; clear hR hS HCY HLY CB22 v220 v221; have HX_ := Aside0.mk (HX.out.step hb); clear HX hb  v30 v31 f30 f31 v40 v41 v42 f40 v70 v71 v72; have HX := HX_; clear HX_; obtain ⟨v30, v31, f30, f31, v40, v41, v42, f40, v70, v71, v72⟩ := HX.out.vis))
             | ((with_reducible refine gate_dst (N := 24) rfl ?_); refine box_event ?hg (N := 24) ?hd (cs := #[.slice none 0 0, .int .i64 0, .int .i64 0]) (t := 27) ?hr ?_; (case hd => rfl); (case hg => rfl); (case hr => first | (go_simp; done) | (go_simp; rfl)); (intro g24 hg24 w33 hbox hb; have CB24 := Aside0.mk hbox; have HG24 := Aside0.mk hg24; have HBN := Aside0.mk hb; clear hbox hg24 hb v30 v31 f30 f31 v40 v41 v42 f40 v70 v71 v72; have v240 : w33.cell? ⟨g24, 0, none⟩ = some (.slice none 0 0) := (blk_cell CB24.out 0).trans rfl; have v241 : w33.cell? ⟨g24, 1, none⟩ = some (.int .i64 0) := (blk_cell CB24.out 1).trans rfl; have v242 : w33.cell? ⟨g24, 2, none⟩ = some (.int .i64 0) := (blk_cell CB24.out 2).trans rfl; have f240 := blk_frozen CB24.out 0; have f241 := blk_frozen CB24.out 1; have f242 := blk_frozen CB24.out 2)))
            have HBx : Aside0 (Below w32.heap.size w32 ((((((w33).setCell ⟨g24, 0, none⟩ (.slice At rs.length dt))).setCell ⟨g24, 1, none⟩ (.int .i64 nx))).setCell ⟨g24, 2, none⟩ (.int .i64 sq))) := ⟨(below_set (below_set (below_set HBN.out (Nat.le_of_eq HG24.out.symm)) (Nat.le_of_eq HG24.out.symm)) (Nat.le_of_eq HG24.out.symm))⟩
            have HX_ := Aside0.mk (HX.out.step HBx.out)
            have HRT_ := Aside0.mk (Kd.C_below HRT.out HBx.out)
            have CB24_ := Aside0.mk (blk_put (cs' := #[.slice At rs.length dt, .int .i64 nx, .int .i64 sq]) (blk_put (cs' := #[.slice At rs.length dt, .int .i64 nx, .int .i64 0]) (blk_put (cs' := #[.slice At rs.length dt, .int .i64 0, .int .i64 0]) CB24.out 0 (.slice At rs.length dt) rfl) 1 (.int .i64 nx) rfl) 2 (.int .i64 sq) rfl)
            clear HX HRT CB24 HG24 HBN HBx v240 f240 v241 f241 v242 f242
            generalize ((((((w33).setCell ⟨g24, 0, none⟩ (.slice At rs.length dt))).setCell ⟨g24, 1, none⟩ (.int .i64 nx))).setCell ⟨g24, 2, none⟩ (.int .i64 sq)) = W33 at *
            have HX := HX_
            have HRT := HRT_
            have CB24 := CB24_
            clear HX_ HRT_ CB24_
            obtain ⟨v30, v31, f30, f31, v40, v41, v42, f40, v70, v71, v72⟩ := HX.out.vis
            have v240 : W33.cell? ⟨g24, 0, none⟩ = some (.slice At rs.length dt) := (blk_cell CB24.out 0).trans rfl
            have v241 : W33.cell? ⟨g24, 1, none⟩ = some (.int .i64 nx) := (blk_cell CB24.out 1).trans rfl
            have v242 : W33.cell? ⟨g24, 2, none⟩ = some (.int .i64 sq) := (blk_cell CB24.out 2).trans rfl
            go_wp2_with (first
             | (go_at_call 13; ((with_reducible refine (dragnetref18_Same.calls 140737488355400 At dt rs nx sq A7 d7 rs nx sq true _ HRT.out HRL.out (Kd.V_reads' HX.out.hS).2.2 (Kd.V_reads' HX.out.hS).2.1 HSAME.out).mono ?_); rintro e_ w34 ⟨rfl, hb⟩; clear HRT HRL CB24 v240 v241 v242; have HX_ := Aside0.mk (HX.out.step hb); clear HX hb  v30 v31 f30 f31 v40 v41 v42 f40 v70 v71 v72; have HX := HX_; clear HX_; obtain ⟨v30, v31, f30, f31, v40, v41, v42, f40, v70, v71, v72⟩ := HX.out.vis)))
            go_roundw
            ·exact ⟨k + 1, _, A, c, L, rfl, by omega, HPK, HX⟩
            ·show 4 - (((k + 1 : Nat) : Int)).toNat < 4 - (k : Int).toNat
             omega
           ·rw [if_neg hk3, if_neg hk3, if_neg hk3] at hrf
            have HRY := Aside0.mk (show manifest_Recover.f a0_0 y = some (acc, a1_1, a1_2, ops2, 0) by rw [HRY0.out, hrf])
            have ct1 : decide ((k : Int) < (st.length : Int)) = false := decide_eq_false (by have := HSL.out; omega)
            have ct3 : decide (k < st.length) = false := decide_eq_false (by have := HSL.out; omega)
            have ct4 : (k < st.length) = False := eq_false (by have := HSL.out; omega)
            have ct5 : (st.length ≤ k) = True := eq_true (by have := HSL.out; omega)
            have ct2 : ((k : Int) == (st.length : Int)) = true := beq_iff_eq.mpr (by have := HSL.out; omega)
            have HSAME := Aside0.mk (same18_reflk acc a1_1 a1_2 (by have := HAL2.out; omega) 140737488355400 (by have := HAL2.out; omega))
            clear hrf HRY0 hk3
            go_upto_region 35 with (first
             | (go_at_call 31; ((with_reducible refine (store_Crash.calls a0_0 A c L A2 c2 l2 a0_0 y 0 _ HX.out.reads HX.out.cap (Kd.C_below HR2.out HX.out.B) HC2.out HCR.out).mono ?_); rintro e_ w30 ⟨v30_, rfl, hV, hb⟩; obtain ⟨Ay, cy, rfl⟩ := Kd.V_slice hV; have HCY := Aside0.mk (Kd.V_reads' hV).2.2; have HLY := Aside0.mk (Kd.V_reads' hV).2.1; clear hV; have HX_ := Aside0.mk (HX.out.step hb); clear HX hb  v30 v31 f30 f31 v40 v41 v42 f40 v70 v71 v72; have HX := HX_; clear HX_; obtain ⟨v30, v31, f30, f31, v40, v41, v42, f40, v70, v71, v72⟩ := HX.out.vis))
             | ((with_reducible refine gate_dst (N := 22) rfl ?_); refine box_event ?hg (N := 22) ?hd (cs := #[.int .i64 0, .slice none 0 0]) (t := 50) ?hr ?_; (case hd => rfl); (case hg => rfl); (case hr => first | (go_simp; done) | (go_simp; rfl)); (intro g22 hg22 w31 hbox hb; have CB22 := Aside0.mk hbox; have HG22 := Aside0.mk hg22; have HBN := Aside0.mk hb; clear hbox hg22 hb v30 v31 f30 f31 v40 v41 v42 f40 v70 v71 v72; have v220 : w31.cell? ⟨g22, 0, none⟩ = some (.int .i64 0) := (blk_cell CB22.out 0).trans rfl; have v221 : w31.cell? ⟨g22, 1, none⟩ = some (.slice none 0 0) := (blk_cell CB22.out 1).trans rfl; have f220 := blk_frozen CB22.out 0; have f221 := blk_frozen CB22.out 1)))
            have HBx : Aside0 (Below w30.heap.size w30 ((((w31).setCell ⟨g22, 0, none⟩ (.int .i64 a0_0))).setCell ⟨g22, 1, none⟩ (.slice Ay y.length cy))) := ⟨(below_set (below_set HBN.out (Nat.le_of_eq HG22.out.symm)) (Nat.le_of_eq HG22.out.symm))⟩
            have HX_ := Aside0.mk (HX.out.step HBx.out)
            have HCY_ := Aside0.mk (Kd.C_below HCY.out HBx.out)
            have CB22_ := Aside0.mk (blk_put (cs' := #[.int .i64 a0_0, .slice Ay y.length cy]) (blk_put (cs' := #[.int .i64 a0_0, .slice none 0 0]) CB22.out 0 (.int .i64 a0_0) rfl) 1 (.slice Ay y.length cy) rfl)
            clear HX HCY CB22 HG22 HBN HBx v220 f220 v221 f221
            generalize ((((w31).setCell ⟨g22, 0, none⟩ (.int .i64 a0_0))).setCell ⟨g22, 1, none⟩ (.slice Ay y.length cy)) = W31 at *
            have HX := HX_
            have HCY := HCY_
            have CB22 := CB22_
            clear HX_ HCY_ CB22_
            obtain ⟨v30, v31, f30, f31, v40, v41, v42, f40, v70, v71, v72⟩ := HX.out.vis
            have v220 : W31.cell? ⟨g22, 0, none⟩ = some (.int .i64 a0_0) := (blk_cell CB22.out 0).trans rfl
            have v221 : W31.cell? ⟨g22, 1, none⟩ = some (.slice Ay y.length cy) := (blk_cell CB22.out 1).trans rfl
            go_upto_region 36 with (first
             | (go_at_call 26; ((with_reducible refine (manifest_Recover.calls a0_0 Ay cy y acc a1_1 a1_2 ops2 0 _ HCY.out HLY.out (GT.below HG.out HX.out.B) HRY.out).mono ?_); rintro e_ w32 ⟨v0, v3, rfl, hR, hS, hb⟩; obtain ⟨At, dt, rfl⟩ := Kd.R_slice hR; obtain ⟨Bt, et, rfl⟩ := Kd.S_slice hS; have HRL := Aside0.mk (Kd.R_reads' hR).2.1; have HRT := Aside0.mk (Kd.R_reads' hR).2.2; clear hR hS HCY HLY CB22 v220 v221; have HX_ := Aside0.mk (HX.out.step hb); clear HX hb  v30 v31 f30 f31 v40 v41 v42 f40 v70 v71 v72; have HX := HX_; clear HX_; obtain ⟨v30, v31, f30, f31, v40, v41, v42, f40, v70, v71, v72⟩ := HX.out.vis))
             | ((with_reducible refine gate_dst (N := 24) rfl ?_); refine box_event ?hg (N := 24) ?hd (cs := #[.slice none 0 0, .int .i64 0, .int .i64 0]) (t := 27) ?hr ?_; (case hd => rfl); (case hg => rfl); (case hr => first | (go_simp; done) | (go_simp; rfl)); (intro g24 hg24 w33 hbox hb; have CB24 := Aside0.mk hbox; have HG24 := Aside0.mk hg24; have HBN := Aside0.mk hb; clear hbox hg24 hb v30 v31 f30 f31 v40 v41 v42 f40 v70 v71 v72; have v240 : w33.cell? ⟨g24, 0, none⟩ = some (.slice none 0 0) := (blk_cell CB24.out 0).trans rfl; have v241 : w33.cell? ⟨g24, 1, none⟩ = some (.int .i64 0) := (blk_cell CB24.out 1).trans rfl; have v242 : w33.cell? ⟨g24, 2, none⟩ = some (.int .i64 0) := (blk_cell CB24.out 2).trans rfl; have f240 := blk_frozen CB24.out 0; have f241 := blk_frozen CB24.out 1; have f242 := blk_frozen CB24.out 2)))
            have HBx : Aside0 (Below w32.heap.size w32 ((((((w33).setCell ⟨g24, 0, none⟩ (.slice At acc.length dt))).setCell ⟨g24, 1, none⟩ (.int .i64 a1_1))).setCell ⟨g24, 2, none⟩ (.int .i64 a1_2))) := ⟨(below_set (below_set (below_set HBN.out (Nat.le_of_eq HG24.out.symm)) (Nat.le_of_eq HG24.out.symm)) (Nat.le_of_eq HG24.out.symm))⟩
            have HX_ := Aside0.mk (HX.out.step HBx.out)
            have HRT_ := Aside0.mk (Kd.C_below HRT.out HBx.out)
            have CB24_ := Aside0.mk (blk_put (cs' := #[.slice At acc.length dt, .int .i64 a1_1, .int .i64 a1_2]) (blk_put (cs' := #[.slice At acc.length dt, .int .i64 a1_1, .int .i64 0]) (blk_put (cs' := #[.slice At acc.length dt, .int .i64 0, .int .i64 0]) CB24.out 0 (.slice At acc.length dt) rfl) 1 (.int .i64 a1_1) rfl) 2 (.int .i64 a1_2) rfl)
            clear HX HRT CB24 HG24 HBN HBx v240 f240 v241 f241 v242 f242
            generalize ((((((w33).setCell ⟨g24, 0, none⟩ (.slice At acc.length dt))).setCell ⟨g24, 1, none⟩ (.int .i64 a1_1))).setCell ⟨g24, 2, none⟩ (.int .i64 a1_2)) = W33 at *
            have HX := HX_
            have HRT := HRT_
            have CB24 := CB24_
            clear HX_ HRT_ CB24_
            obtain ⟨v30, v31, f30, f31, v40, v41, v42, f40, v70, v71, v72⟩ := HX.out.vis
            have v240 : W33.cell? ⟨g24, 0, none⟩ = some (.slice At acc.length dt) := (blk_cell CB24.out 0).trans rfl
            have v241 : W33.cell? ⟨g24, 1, none⟩ = some (.int .i64 a1_1) := (blk_cell CB24.out 1).trans rfl
            have v242 : W33.cell? ⟨g24, 2, none⟩ = some (.int .i64 a1_2) := (blk_cell CB24.out 2).trans rfl
            go_wp2_with (first
             | (go_at_call 13; ((with_reducible refine (dragnetref18_Same.calls 140737488355400 At dt acc a1_1 a1_2 Ao co acc a1_1 a1_2 true _ HRT.out HRL.out (Kd.V_reads' HX.out.hR).2.2 (Kd.V_reads' HX.out.hR).2.1 HSAME.out).mono ?_); rintro e_ w34 ⟨rfl, hb⟩; clear HRT HRL CB24 v240 v241 v242; have HX_ := Aside0.mk (HX.out.step hb); clear HX hb  v30 v31 f30 f31 v40 v41 v42 f40 v70 v71 v72; have HX := HX_; clear HX_; obtain ⟨v30, v31, f30, f31, v40, v41, v42, f40, v70, v71, v72⟩ := HX.out.vis)))
            go_roundw
            ·exact ⟨k + 1, _, A, c, L, rfl, by omega, HPK, HX⟩
            ·show 4 - (((k + 1 : Nat) : Int)).toNat < 4 - (k : Int).toNat
             omega
          ·have HRY := Aside0.mk (show manifest_Recover.f a0_0 y = some ([], 0, 0, [], 13) by rw [HRY0.out, hrf])
           have HSU := Aside0.mk (sure_f a0_0 HPK.out.1.2.2.2.1 hsu)
           have ct1 : decide ((k : Int) < (st.length : Int)) = true := decide_eq_true (by have := HSL.out; omega)
           have ct3 : decide (k < st.length) = true := decide_eq_true (by have := HSL.out; omega)
           have ct4 : (k < st.length) = True := eq_true (by have := HSL.out; omega)
           have ct5 : (st.length ≤ k) = False := eq_false (by have := HSL.out; omega)
           have ct2 : ((k : Int) == (st.length : Int)) = false := beq_eq_false_iff_ne.mpr (by have := HSL.out; omega)
           clear hrf HRY0 hsu
           go_upto_region 35 with (first
            | (go_at_call 31; ((with_reducible refine (store_Crash.calls a0_0 A c L A2 c2 l2 a0_0 y 0 _ HX.out.reads HX.out.cap (Kd.C_below HR2.out HX.out.B) HC2.out HCR.out).mono ?_); rintro e_ w30 ⟨v30_, rfl, hV, hb⟩; obtain ⟨Ay, cy, rfl⟩ := Kd.V_slice hV; have HCY := Aside0.mk (Kd.V_reads' hV).2.2; have HLY := Aside0.mk (Kd.V_reads' hV).2.1; clear hV; have HX_ := Aside0.mk (HX.out.step hb); clear HX hb  v30 v31 f30 f31 v40 v41 v42 f40 v70 v71 v72; have HX := HX_; clear HX_; obtain ⟨v30, v31, f30, f31, v40, v41, v42, f40, v70, v71, v72⟩ := HX.out.vis))
            | ((with_reducible refine gate_dst (N := 22) rfl ?_); refine box_event ?hg (N := 22) ?hd (cs := #[.int .i64 0, .slice none 0 0]) (t := 50) ?hr ?_; (case hd => rfl); (case hg => rfl); (case hr => first | (go_simp; done) | (go_simp; rfl)); (intro g22 hg22 w31 hbox hb; have CB22 := Aside0.mk hbox; have HG22 := Aside0.mk hg22; have HBN := Aside0.mk hb; clear hbox hg22 hb v30 v31 f30 f31 v40 v41 v42 f40 v70 v71 v72; have v220 : w31.cell? ⟨g22, 0, none⟩ = some (.int .i64 0) := (blk_cell CB22.out 0).trans rfl; have v221 : w31.cell? ⟨g22, 1, none⟩ = some (.slice none 0 0) := (blk_cell CB22.out 1).trans rfl; have f220 := blk_frozen CB22.out 0; have f221 := blk_frozen CB22.out 1)))
           have HBx : Aside0 (Below w30.heap.size w30 ((((w31).setCell ⟨g22, 0, none⟩ (.int .i64 a0_0))).setCell ⟨g22, 1, none⟩ (.slice Ay y.length cy))) := ⟨(below_set (below_set HBN.out (Nat.le_of_eq HG22.out.symm)) (Nat.le_of_eq HG22.out.symm))⟩
           have HX_ := Aside0.mk (HX.out.step HBx.out)
           have HCY_ := Aside0.mk (Kd.C_below HCY.out HBx.out)
           have CB22_ := Aside0.mk (blk_put (cs' := #[.int .i64 a0_0, .slice Ay y.length cy]) (blk_put (cs' := #[.int .i64 a0_0, .slice none 0 0]) CB22.out 0 (.int .i64 a0_0) rfl) 1 (.slice Ay y.length cy) rfl)
           clear HX HCY CB22 HG22 HBN HBx v220 f220 v221 f221
           generalize ((((w31).setCell ⟨g22, 0, none⟩ (.int .i64 a0_0))).setCell ⟨g22, 1, none⟩ (.slice Ay y.length cy)) = W31 at *
           have HX := HX_
           have HCY := HCY_
           have CB22 := CB22_
           clear HX_ HCY_ CB22_
           obtain ⟨v30, v31, f30, f31, v40, v41, v42, f40, v70, v71, v72⟩ := HX.out.vis
           have v220 : W31.cell? ⟨g22, 0, none⟩ = some (.int .i64 a0_0) := (blk_cell CB22.out 0).trans rfl
           have v221 : W31.cell? ⟨g22, 1, none⟩ = some (.slice Ay y.length cy) := (blk_cell CB22.out 1).trans rfl
           go_upto_region 36 with (first
            | (go_at_call 26; ((with_reducible refine (manifest_Recover.calls a0_0 Ay cy y [] 0 0 [] 13 _ HCY.out HLY.out (GT.below HG.out HX.out.B) HRY.out).mono ?_); rintro e_ w32 ⟨v0, v3, rfl, hR, hS, hb⟩; obtain ⟨At, dt, rfl⟩ := Kd.R_slice hR; obtain ⟨Bt, et, rfl⟩ := Kd.S_slice hS; have HRL := Aside0.mk (Kd.R_reads' hR).2.1; have HRT := Aside0.mk (Kd.R_reads' hR).2.2; clear hR hS HCY HLY CB22 v220 v221; have HX_ := Aside0.mk (HX.out.step hb); clear HX hb  v30 v31 f30 f31 v40 v41 v42 f40 v70 v71 v72; have HX := HX_; clear HX_; obtain ⟨v30, v31, f30, f31, v40, v41, v42, f40, v70, v71, v72⟩ := HX.out.vis))
            | ((with_reducible refine gate_dst (N := 24) rfl ?_); refine box_event ?hg (N := 24) ?hd (cs := #[.slice none 0 0, .int .i64 0, .int .i64 0]) (t := 27) ?hr ?_; (case hd => rfl); (case hg => rfl); (case hr => first | (go_simp; done) | (go_simp; rfl)); (intro g24 hg24 w33 hbox hb; have CB24 := Aside0.mk hbox; have HG24 := Aside0.mk hg24; have HBN := Aside0.mk hb; clear hbox hg24 hb v30 v31 f30 f31 v40 v41 v42 f40 v70 v71 v72; have v240 : w33.cell? ⟨g24, 0, none⟩ = some (.slice none 0 0) := (blk_cell CB24.out 0).trans rfl; have v241 : w33.cell? ⟨g24, 1, none⟩ = some (.int .i64 0) := (blk_cell CB24.out 1).trans rfl; have v242 : w33.cell? ⟨g24, 2, none⟩ = some (.int .i64 0) := (blk_cell CB24.out 2).trans rfl; have f240 := blk_frozen CB24.out 0; have f241 := blk_frozen CB24.out 1; have f242 := blk_frozen CB24.out 2)))
           have HBx : Aside0 (Below w32.heap.size w32 ((((((w33).setCell ⟨g24, 0, none⟩ (.slice At 0 dt))).setCell ⟨g24, 1, none⟩ (.int .i64 0))).setCell ⟨g24, 2, none⟩ (.int .i64 0))) := ⟨(below_set (below_set (below_set HBN.out (Nat.le_of_eq HG24.out.symm)) (Nat.le_of_eq HG24.out.symm)) (Nat.le_of_eq HG24.out.symm))⟩
           have HX_ := Aside0.mk (HX.out.step HBx.out)
           have HRT_ := Aside0.mk (Kd.C_below HRT.out HBx.out)
           have CB24_ := Aside0.mk (blk_put (cs' := #[.slice At 0 dt, .int .i64 0, .int .i64 0]) (blk_put (cs' := #[.slice At 0 dt, .int .i64 0, .int .i64 0]) (blk_put (cs' := #[.slice At 0 dt, .int .i64 0, .int .i64 0]) CB24.out 0 (.slice At 0 dt) rfl) 1 (.int .i64 0) rfl) 2 (.int .i64 0) rfl)
           clear HX HRT CB24 HG24 HBN HBx v240 f240 v241 f241 v242 f242
           generalize ((((((w33).setCell ⟨g24, 0, none⟩ (.slice At 0 dt))).setCell ⟨g24, 1, none⟩ (.int .i64 0))).setCell ⟨g24, 2, none⟩ (.int .i64 0)) = W33 at *
           have HX := HX_
           have HRT := HRT_
           have CB24 := CB24_
           clear HX_ HRT_ CB24_
           obtain ⟨v30, v31, f30, f31, v40, v41, v42, f40, v70, v71, v72⟩ := HX.out.vis
           have v240 : W33.cell? ⟨g24, 0, none⟩ = some (.slice At 0 dt) := (blk_cell CB24.out 0).trans rfl
           have v241 : W33.cell? ⟨g24, 1, none⟩ = some (.int .i64 0) := (blk_cell CB24.out 1).trans rfl
           have v242 : W33.cell? ⟨g24, 2, none⟩ = some (.int .i64 0) := (blk_cell CB24.out 2).trans rfl
           go_wp2_with (first
            | (go_at_call 32; ((with_reducible refine (dragnetlaw18_sure.calls 300 a0_0 A c L false _ HX.out.reads HX.out.cap HSU.out).mono ?_); rintro e_ w34 ⟨rfl, hb⟩; have HX_ := Aside0.mk (HX.out.step hb); clear HX hb  v30 v31 f30 f31 v40 v41 v42 f40 v70 v71 v72; have HX := HX_; clear HX_; obtain ⟨v30, v31, f30, f31, v40, v41, v42, f40, v70, v71, v72⟩ := HX.out.vis)))
           go_ret
           exact ⟨rfl, HX.out.B⟩
     ·have HCOM := Aside0.mk (show manifest_Commit.f acc a1_1 a1_2 = some ([], 1) by rw [commit_f HAL2.out, if_neg cf])
      have HF18 := Aside0.mk (show dragnetref18_Formed.f acc a1_1 a1_2 = some false by rw [formed18_f HAL2.out, decide_eq_false cf])
      clear cf
      go_wp2_with (first
       | (go_at_call 19; ((with_reducible refine (manifest_Commit.calls Ao co acc a1_1 a1_2 [] 1 _ (Kd.V_reads' HX.out.hR).2.2 (Kd.V_reads' HX.out.hR).2.1 (GT.below HG.out HX.out.B) HCOM.out).mono ?_); rintro e_ w21 ⟨v21, rfl, hN, hb⟩; clear hN; have HX_ := Aside0.mk (HX.out.step hb); clear HX hb  v30 v31 f30 f31 v40 v41 v42 f40 v70 v71 v72; have HX := HX_; clear HX_; obtain ⟨v30, v31, f30, f31, v40, v41, v42, f40, v70, v71, v72⟩ := HX.out.vis))
       | (go_at_call 16; ((with_reducible refine (dragnetref18_Formed.calls Ao co acc a1_1 a1_2 false _ (Kd.V_reads' HX.out.hR).2.2 (Kd.V_reads' HX.out.hR).2.1 HF18.out).mono ?_); rintro e_ w22 ⟨rfl, hb⟩; have HX_ := Aside0.mk (HX.out.step hb); clear HX hb  v30 v31 f30 f31 v40 v41 v42 f40 v70 v71 v72; have HX := HX_; clear HX_; obtain ⟨v30, v31, f30, f31, v40, v41, v42, f40, v70, v71, v72⟩ := HX.out.vis)))
      go_ret
      exact ⟨rfl, HX.out.B⟩
end Go.Proofs.YtdcifmonhaklcaaDoor.A
