/- Walks: each Go function told here comes to what the plain function beside it says, wherever that one answers. -/
import Derived.Test.YtdcifmonhaklcaaDoorTaAx0
import Derived.Test.YtdcifmonhaklcaaDoorTaAx7
import Derived.Test.YtdcifmonhaklcaaDoorTaAx8
import Derived.Test.YtdcifmonhaklcaaDoorTaAx9
import Derived.Test.YtdcifmonhaklcaaDoorTaAx11
import Derived.Test.YtdcifmonhaklcaaDoorTaAx12
import Derived.Test.YtdcifmonhaklcaaDoorTaAx13
namespace Go.Proofs.YtdcifmonhaklcaaDoor.A
open Go.RowKit YtdcifmonhaklcaaDoorW.PrintWords YtdcifmonhaklcaaDoorW.PrintLast YtdcifmonhaklcaaDoorW.PrintMore
attribute [local go_sem] max2_int min2_int max_two min_two
set_option linter.unusedVariables false
set_option linter.unusedSimpArgs false
theorem S_V {α : Type} {d : Kd α} {e base : Nat} {W : World} {ok : Nat → Prop} {A : Option Addr} {n c : Nat} {xs : List α} (h : Kd.S d e W base ok (.slice A n c) xs) : Kd.V d e W base ok (.slice A n c) xs := by
 have h2 := Kd.S_reads' h
 have hF := Kd.S_F h
 rw [h2.1] at hF ⊢
 exact Kd.V_mk (h2.1 ▸ h2.2.1) hF
theorem N_V {α : Type} {d : Kd α} {e base : Nat} {W : World} {ok : Nat → Prop} {A : Option Addr} {n c : Nat} {xs : List α} (h : Kd.N d e W base ok (.slice A n c) xs) : Kd.V d e W base ok (.slice A n c) xs := by
 have h2 := Kd.N_reads' h
 have hF := Kd.N_F h
 rw [h2.1] at hF ⊢
 exact Kd.V_mk (h2.1 ▸ h2.2.1) hF
theorem found_lt {l : List S84} {n : ByteArray} (h : foundS l n = true) : idxS l n < l.length := by
 unfold foundS at h
 rw [Bool.and_eq_true] at h
 exact of_decide_eq_true h.1
set_option maxHeartbeats 4000000 in
set_option maxRecDepth 100000 in
theorem do_sync (a0_0 : Int) (A0_1 : Option Addr) (c0_1 : Nat) (l0_1 : List S84) (a1_0 : Int) (a1_1 : ByteArray) (a1_2 : ByteArray) (A1_3 : Option Addr) (c1_3 : Nat) (l1_3 : List Int) (r1 : Int) (r2 : List S84) (r3 : Int) (w : World) (hr0_1 : Kd.C k84 w A0_1 l0_1.length l0_1) (hc0_1 : l0_1.length ≤ c0_1) (hr1_3 : Kd.C (Kd.int .u8) w A1_3 l1_3.length l1_3) (hc1_3 : l1_3.length ≤ c1_3) (hs : SmallD l0_1) (hf : FormedR a0_0 l0_1) (hn : nmd a1_1) (hm : l1_3.length ≤ 140737488351232) (hfo : foundS l0_1 a1_1 = true) (hk : a1_0 = 2) (he : (a0_0, l0_1.set (idxS l0_1 a1_1) ⟨(rd_T84 l0_1 (idxS l0_1 a1_1 : Int)).f0, (rd_T84 l0_1 (idxS l0_1 a1_1 : Int)).f1, ((rd_T84 l0_1 (idxS l0_1 a1_1 : Int)).f1.length : Int)⟩, 0) = (r1, r2, r3)) :
  Calls Tryd.prog 29 #[.agg #[.int .i64 a0_0, .slice A0_1 l0_1.length c0_1], .agg #[.int .i64 a1_0, .string a1_1, .string a1_2, .slice A1_3 l1_3.length c1_3]] w fun e w' => ∃ v1_ : Value, e = .returned (.tuple #[.agg #[.int .i64 r1, v1_], .int .i64 r3]) ∧ Kd.V k84 84 w' w.heap.size (fun k_ => w.heap.size ≤ k_) v1_ r2 ∧ Below w.heap.size w w' := by
 have HR := Aside0.mk hr0_1
 have HC := Aside0.mk hc0_1
 have HR3 := Aside0.mk hr1_3
 have HC3 := Aside0.mk hc1_3
 have HB := Aside0.mk (Below.refl w.heap.size w)
 clear hr0_1 hc0_1 hr1_3 hc1_3
 have hu24 := Tryd.underlying50
 have hu27 := Tryd.underlying60
 have hu61 := Tryd.underlying84
 obtain ⟨i, hi⟩ : ∃ i, i = idxS l0_1 a1_1 := ⟨_, rfl⟩
 have hk1 : decide (a1_0 < 1) = false := decide_eq_false (by omega)
 have hk4 : decide (4 < a1_0) = false := decide_eq_false (by omega)
 have hq1 : decide (a1_0 = 1) = false := decide_eq_false (by omega)
 have hq1b : (a1_0 == 1) = false := by simp; omega
 have hq2 : decide (a1_0 = 2) = true := decide_eq_true (by omega)
 have hq2b : (a1_0 == 2) = true := by simp; omega
 have hq3 : decide (a1_0 = 3) = false := decide_eq_false (by omega)
 have hq3b : (a1_0 == 3) = false := by simp; omega
 have hq4 : decide (a1_0 = 4) = false := decide_eq_false (by omega)
 have hq4b : (a1_0 == 4) = false := by simp; omega
 have hne1 : decide (a1_0 ≠ 1) = true := decide_eq_true (by omega)
 have hne1b : (a1_0 != 1) = true := by simp; omega
 have HFI := Aside0.mk (show store_find.f l0_1 a1_1 = some ((i : Int), true) by unfold store_find.f; rw [if_pos ⟨by have := hf.2.2.2.1; omega, formed_srt hf⟩, hfo, hi])
 have HF := Aside0.mk (show store_Formed.f (3 * l0_1.length + 3) a0_0 l0_1 = some true by rw [formed_plain a0_0 l0_1 hs.small, decide_eq_true hf])
 have HN := Aside0.mk (show store_named.f a1_1 = some true by rw [named_nmd, decide_eq_true hn])
 have HTW := Aside0.mk (show store_twin.f a0_0 l0_1 = some (a0_0, l0_1) by unfold store_twin.f; rw [if_pos ⟨by have := hf.2.2.2.1; omega, fun x hx => by have := hs.2 x hx; omega⟩])
 clear hk
 have HS0 := Aside0.mk hs
 have HFO := Aside0.mk hfo
 have HFM := Aside0.mk hf
 have HE := Aside0.mk he
 have HI := Aside0.mk hi
 clear hs hf hn hm hfo he hi
 go_enter Tryd.func29, Tryd.ntmps29
 go_upto_region 14 with (first
  | ((with_reducible refine gate_dst (N := 2) rfl ?_); refine box_event ?hg (N := 2) ?hd (cs := #[.int .i64 a0_0, .slice A0_1 l0_1.length c0_1]) (t := 50) ?hr ?_; (case hd => rfl); (case hg => rfl); (case hr => first | (go_simp; done) | (go_simp; rfl)); intro g2 hg2 w2 hbox hb; have HB2 := Aside0.mk (below_step HB.out hb); have CB2 := Aside0.mk hbox; have G2 := Aside0.mk (show w.heap.size ≤ g2 by rw [hg2]; exact below_size HB.out); clear hb hbox hg2 HB; have HB := HB2; clear HB2)
  | ((with_reducible refine gate_dst (N := 3) rfl ?_); refine box_event ?hg (N := 3) ?hd (cs := #[.int .i64 a1_0, .string a1_1, .string a1_2, .slice A1_3 l1_3.length c1_3]) (t := 60) ?hr ?_; (case hd => rfl); (case hg => rfl); (case hr => first | (go_simp; done) | (go_simp; rfl)); intro g3 hg3 w3 hbox hb; have HB3 := Aside0.mk (below_step HB.out hb); have CB3 := Aside0.mk hbox; have G23 := Aside0.mk (show g2 < g3 by rw [hg3]; exact blk_lt CB2.out); have CB2_ := Aside0.mk (blk_below CB2.out hb); clear hb hbox hg3 HB CB2; have HB := HB3; have CB2 := CB2_; clear HB3 CB2_)
  | ((with_reducible refine gate_dst (N := 4) rfl ?_); refine box_event ?hg (N := 4) ?hd (cs := #[.int .i64 0, .slice none 0 0]) (t := 50) ?hr ?_; (case hd => rfl); (case hg => rfl); (case hr => first | (go_simp; done) | (go_simp; rfl)); intro g4 hg4 w4 hbox hb; have HX := Aside0.mk (Rbox.mk (below_step HB.out hb) (blk_below CB2.out hb) (blk_below CB3.out hb) hbox G2.out G23.out (show g3 < g4 by rw [hg4]; exact blk_lt CB3.out)); clear hb hbox hg4 HB CB2 CB3 G2 G23; obtain ⟨v20, v21, v30, v31, v32, v33, v40, v41, f40, f41⟩ := HX.out.vis)
  | (go_at_call 48; (with_reducible refine (store_Formed.calls _ a0_0 A0_1 c0_1 l0_1 true _ (Kd.C_below HR.out HX.out.B) HC.out HF.out).mono ?_); rintro e w5 ⟨rfl, hb⟩; have HX_ := Aside0.mk (HX.out.step hb); clear HX hb v20 v21 v30 v31 v32 v33 v40 v41 f40 f41; have HX := HX_; clear HX_; obtain ⟨v20, v21, v30, v31, v32, v33, v40, v41, f40, f41⟩ := HX.out.vis)
  | (go_at_call 49; (with_reducible refine (store_named.calls a1_1 true _ HN.out).mono ?_); rintro e w6 ⟨rfl, hd⟩; have hb := Drawn0.below hd; clear hd; have HX_ := Aside0.mk (HX.out.step hb); clear HX hb v20 v21 v30 v31 v32 v33 v40 v41 f40 f41; have HX := HX_; clear HX_; obtain ⟨v20, v21, v30, v31, v32, v33, v40, v41, f40, f41⟩ := HX.out.vis)
  | (go_at_call 49; (with_reducible refine (store_named.calls a1_2 true _ HT.out).mono ?_); rintro e w7 ⟨rfl, hd⟩; have hb := Drawn0.below hd; clear hd; have HX_ := Aside0.mk (HX.out.step hb); clear HX hb v20 v21 v30 v31 v32 v33 v40 v41 f40 f41; have HX := HX_; clear HX_; obtain ⟨v20, v21, v30, v31, v32, v33, v40, v41, f40, f41⟩ := HX.out.vis)
  | (go_at_call 50; (with_reducible refine (store_find.calls A0_1 c0_1 l0_1 a1_1 _ _ _ (Kd.C_below HR.out HX.out.B) HC.out HFI.out).mono ?_); rintro e w8 ⟨rfl, hb⟩; have HX_ := Aside0.mk (HX.out.step hb); clear HX hb v20 v21 v30 v31 v32 v33 v40 v41 f40 f41; have HX := HX_; clear HX_; obtain ⟨v20, v21, v30, v31, v32, v33, v40, v41, f40, f41⟩ := HX.out.vis)
  | (go_at_call 52; (with_reducible refine (store_twin.calls a0_0 A0_1 c0_1 l0_1 a0_0 l0_1 _ (Kd.C_below HR.out HX.out.B) HC.out HTW.out).mono ?_); rintro e w10 ⟨v10, rfl, hS, hb⟩; obtain ⟨A10, c10, rfl⟩ := Kd.S_slice hS; have hg4_ := blk_lt HX.out.c4; have HS := Aside0.mk (Kd.S_mono (Kd.S_bound (Kd.S_lower (Kd.S_mono (Kd.S_bound hS) (ok' := fun k => g4 < k) (fun k hk => by have := hk.2.1; omega)) HX.out.B.size)) (ok' := fun k => g4 < k ∧ k < w10.heap.size) (fun k hk => ⟨hk.1, hk.2.2.1⟩)); clear hS hg4_; have HX_ := Aside0.mk (HX.out.step hb); clear HX hb v20 v21 v30 v31 v32 v33 v40 v41 f40 f41; have HX := HX_; clear HX_; obtain ⟨v20, v21, v30, v31, v32, v33, v40, v41, f40, f41⟩ := HX.out.vis)
  | ((with_reducible refine gate_dst (N := 8) rfl ?_); refine box_event ?hg (N := 8) ?hd (cs := #[.int .i64 0, .slice none 0 0]) (t := 50) ?hr ?_; (case hd => rfl); (case hg => rfl); (case hr => first | (go_simp; done) | (go_simp; rfl)); intro g8 hg8 w11 hbox hb; have CB8 := Aside0.mk hbox; have G48 := Aside0.mk (show g4 < g8 by rw [hg8]; exact blk_lt HX.out.c4); have HS_ := Aside0.mk (Kd.S_mono (Kd.S_below HS.out hb) (ok' := fun k => g4 < k ∧ k ≠ g8) (fun k hk => ⟨hk.1, by have := hk.2; omega⟩)); clear HS; have HS := HS_; clear HS_; clear hbox hg8; have hn2 : g2 ≠ g8 := (by have := HX.out.l3; have := HX.out.l4; have := G48.out; omega); have hn3 : g3 ≠ g8 := (by have := HX.out.l4; have := G48.out; omega); have hn4 : g4 ≠ g8 := (by have := G48.out; omega); have hm2 := Ne.symm hn2; have hm3 := Ne.symm hn3; have hm4 := Ne.symm hn4; have HX_ := Aside0.mk (HX.out.step hb); clear HX hb v20 v21 v30 v31 v32 v33 v40 v41 f40 f41; have HX := HX_; clear HX_; obtain ⟨v20, v21, v30, v31, v32, v33, v40, v41, f40, f41⟩ := HX.out.vis; have v80 : w11.cell? ⟨g8, 0, none⟩ = some (.int .i64 0) := (blk_cell CB8.out 0).trans rfl; have v81 : w11.cell? ⟨g8, 1, none⟩ = some (.slice none 0 0) := (blk_cell CB8.out 1).trans rfl; have f80 := blk_frozen CB8.out 0; have f81 := blk_frozen CB8.out 1))
 have HB := Aside0.mk HX.out.B
 have CB2 := Aside0.mk HX.out.c2
 have CB3 := Aside0.mk HX.out.c3
 have CB4 := Aside0.mk HX.out.c4
 have G4 := Aside0.mk HX.out.l
 have G23 := Aside0.mk HX.out.l3
 have G34 := Aside0.mk HX.out.l4
 clear HX
 have CB8_ := Aside0.mk (blk_put (cs' := #[.int .i64 a0_0, .slice A10 l0_1.length c10]) (blk_put (cs' := #[.int .i64 a0_0, .slice none 0 0]) CB8.out 0 (.int .i64 a0_0) rfl) 1 (.slice A10 l0_1.length c10) rfl)
 have CB2_ := Aside0.mk (blk_far (p := ⟨g8, 1, none⟩) (blk_far (p := ⟨g8, 0, none⟩) CB2.out hn2 (.int .i64 a0_0)) hn2 (.slice A10 l0_1.length c10))
 have CB3_ := Aside0.mk (blk_far (p := ⟨g8, 1, none⟩) (blk_far (p := ⟨g8, 0, none⟩) CB3.out hn3 (.int .i64 a0_0)) hn3 (.slice A10 l0_1.length c10))
 have CB4_ := Aside0.mk (blk_far (p := ⟨g8, 1, none⟩) (blk_far (p := ⟨g8, 0, none⟩) CB4.out hn4 (.int .i64 a0_0)) hn4 (.slice A10 l0_1.length c10))
 have HS_ := Aside0.mk (Kd.S_far (p := ⟨g8, 1, none⟩) (Kd.S_far (p := ⟨g8, 0, none⟩) HS.out (fun k hk => hk.2) (.int .i64 a0_0)) (fun k hk => hk.2) (.slice A10 l0_1.length c10))
 have G8 := Aside0.mk (show w.heap.size ≤ g8 by have := G4.out; have := G48.out; omega)
 have HB_ := Aside0.mk (below_set (j := 1) (v := .slice A10 l0_1.length c10) (below_set (j := 0) (v := .int .i64 a0_0) HB.out G8.out) G8.out)
 clear HB CB2 CB3 CB4 CB8 HS v20 v21 v30 v31 v32 v33 v40 v41 f40 f41 v80 v81 f80 f81
 generalize (w11.setCell ⟨g8, 0, none⟩ (.int .i64 a0_0)).setCell ⟨g8, 1, none⟩ (.slice A10 l0_1.length c10) = W at *
 have HB := HB_
 have CB2 := CB2_
 have CB3 := CB3_
 have CB4 := CB4_
 have CB8 := CB8_
 have HS := HS_
 clear HB_ CB2_ CB3_ CB4_ CB8_ HS_
 have v20 : W.cell? ⟨g2, 0, none⟩ = some (.int .i64 a0_0) := (blk_cell CB2.out 0).trans rfl
 have v21 : W.cell? ⟨g2, 1, none⟩ = some (.slice A0_1 l0_1.length c0_1) := (blk_cell CB2.out 1).trans rfl
 have v30 : W.cell? ⟨g3, 0, none⟩ = some (.int .i64 a1_0) := (blk_cell CB3.out 0).trans rfl
 have v31 : W.cell? ⟨g3, 1, none⟩ = some (.string a1_1) := (blk_cell CB3.out 1).trans rfl
 have v32 : W.cell? ⟨g3, 2, none⟩ = some (.string a1_2) := (blk_cell CB3.out 2).trans rfl
 have v33 : W.cell? ⟨g3, 3, none⟩ = some (.slice A1_3 l1_3.length c1_3) := (blk_cell CB3.out 3).trans rfl
 have v40 : W.cell? ⟨g4, 0, none⟩ = some (.int .i64 0) := (blk_cell CB4.out 0).trans rfl
 have v41 : W.cell? ⟨g4, 1, none⟩ = some (.slice none 0 0) := (blk_cell CB4.out 1).trans rfl
 have f40 := blk_frozen CB4.out 0
 have f41 := blk_frozen CB4.out 1
 have v80 : W.cell? ⟨g8, 0, none⟩ = some (.int .i64 a0_0) := (blk_cell CB8.out 0).trans rfl
 have v81 : W.cell? ⟨g8, 1, none⟩ = some (.slice A10 l0_1.length c10) := (blk_cell CB8.out 1).trans rfl
 have f80 := blk_frozen CB8.out 0
 have f81 := blk_frozen CB8.out 1
 have hfo := HFO.out
 have hf := HFM.out
 have hi := HI.out
 have hin : i < l0_1.length := by rw [hi]; exact found_lt hfo
 have hl256 := hf.2.2.2.1
 obtain ⟨go, cap, hv, GO1, GO2, _⟩ := Kd.S_form HS.out (by omega)
 injection hv with e1 e2 e3
 subst e1
 subst e3
 clear e2
 have HGO := Aside0.mk (And.intro GO1 GO2)
 clear GO1 GO2
 obtain ⟨x, hx⟩ : ∃ x, x = rd_T84 l0_1 (i : Int) := ⟨_, rfl⟩
 have HX := Aside0.mk hx
 obtain ⟨oki, c, hcl, hM, hcc, hfr, hoki, hH⟩ := Kd.S_elem HS.out z84 (i : Int) (by omega) (by omega)
 rw [show l0_1.getD (i : Int).toNat z84 = x from hx.symm] at hM
 obtain ⟨v1, rfl, hv1⟩ := k84_openM hM
 obtain ⟨A1, c1, rfl⟩ := Kd.R_slice hv1
 have hz0 : W.cell? ⟨go, i * 3, none⟩ = some (.string x.f0) := hcc 0 _ rfl
 have hz1 : W.cell? ⟨go, i * 3 + 1, none⟩ = some (.slice A1 x.f1.length c1) := hcc 1 _ rfl
 have hz2 : W.cell? ⟨go, i * 3 + 2, none⟩ = some (.int .i64 x.f2) := hcc 2 _ rfl
 have hfz1 : W.frozen? ⟨go, i * 3 + 1, none⟩ = false := hfr 1
 have hfz2 : W.frozen? ⟨go, i * 3 + 2, none⟩ = false := hfr 2
 have HV1 := Aside0.mk hv1
 have HH := Aside0.mk hH
 have HOK := Aside0.mk hoki
 have ng2 : g2 ≠ go := fun e => Kd.S_ne HS.out CB2.out (by decide) (by simp [Value.ownBlock, e])
 have ng3 : g3 ≠ go := fun e => Kd.S_ne HS.out CB3.out (by decide) (by simp [Value.ownBlock, e])
 have ng4 : g4 ≠ go := fun e => Kd.S_ne HS.out CB4.out (by decide) (by simp [Value.ownBlock, e])
 have ng8 : g8 ≠ go := fun e => Kd.S_ne HS.out CB8.out (by decide) (by simp [Value.ownBlock, e])
 clear hcl hM hcc hfr hoki hH hv1 hx
 have i0 := eq_true (show (0 : Int) ≤ (i : Int) by omega)
 have i1 := eq_true (show (i : Int) < (l0_1.length : Int) by omega)
 clear hfo hf hi
 clear hl256
 go_wp2
 refine start_ (n := 13) (S := fun w' => w'.cell? ⟨g8, 1, none⟩ = some (.slice (some ⟨go, 0, none⟩) l0_1.length c10) ∧ w'.cell? ⟨go, i * 3 + 1, none⟩ = some (.slice A1 x.f1.length c1)) (ds := [12]) #[false, false, false, false, false, false, false, false, false, false, false, false, false] (by kernel_rfl) rfl rfl ⟨v81, hz1⟩ (fun hHeld => ?_)
 refine pure_ (i := 0) (N := some 115) (v := ?_) (a' := ?_) #[true, false, false, false, false, false, false, false, false, false, false, false, false] rfl rfl (by kernel_rfl) (fun _ _ _ h => h) (Or.inl ⟨by rfl, ?_⟩) ?_ ?_
 rotate_left
 ·intro w'
  go_simp
  with_reducible rfl
 rotate_left
 ·simp only [Act.put, List.setIfInBounds_toArray, List.set_cons_zero, List.set_cons_succ, i64_w, i32_w]
  rfl
 refine pure_ (i := 2) (N := some 117) (v := ?_) (a' := ?_) #[true, false, true, false, false, false, false, false, false, false, false, false, false] rfl rfl (by kernel_rfl) (fun _ _ _ h => h) (Or.inl ⟨by rfl, ?_⟩) ?_ ?_
 rotate_left
 ·intro w'
  go_simp
  with_reducible rfl
 rotate_left
 ·simp only [Act.put, List.setIfInBounds_toArray, List.set_cons_zero, List.set_cons_succ, i64_w, i32_w]
  rfl
 refine pure_ (i := 3) (N := some 118) (v := ?_) (a' := ?_) #[true, false, true, true, false, false, false, false, false, false, false, false, false] rfl rfl (by kernel_rfl) (fun _ _ _ h => h) (Or.inl ⟨by rfl, ?_⟩) ?_ ?_
 rotate_left
 ·intro w'
  go_simp
  with_reducible rfl
 rotate_left
 ·simp only [Act.put, List.setIfInBounds_toArray, List.set_cons_zero, List.set_cons_succ, i64_w, i32_w]
  rfl
 refine pure_ (i := 5) (N := some 120) (v := ?_) (a' := ?_) #[true, false, true, true, false, true, false, false, false, false, false, false, false] rfl rfl (by kernel_rfl) (fun _ _ _ h => h) (Or.inl ⟨by rfl, ?_⟩) ?_ ?_
 rotate_left
 ·intro w'
  go_simp
  with_reducible rfl
 rotate_left
 ·simp only [Act.put, List.setIfInBounds_toArray, List.set_cons_zero, List.set_cons_succ, i64_w, i32_w]
  rfl
 refine take_ (i := 1) (N := some 116) (v := ?_) (a' := ?_) #[true, true, true, true, false, true, false, false, false, false, false, false, false] rfl rfl (by kernel_rfl) (fun _ _ _ h => h) (Or.inl ⟨by rfl, ?_⟩) hHeld ?_ ?_
 rotate_left
 ·rintro w' ⟨s0, s1⟩
  go_simp
  with_reducible rfl
 rotate_left
 ·simp only [Act.put, List.setIfInBounds_toArray, List.set_cons_zero, List.set_cons_succ, i64_w, i32_w]
  rfl
 refine take_ (i := 4) (N := some 119) (v := ?_) (a' := ?_) #[true, true, true, true, true, true, false, false, false, false, false, false, false] rfl rfl (by kernel_rfl) (fun _ _ _ h => h) (Or.inl ⟨by rfl, ?_⟩) hHeld ?_ ?_
 rotate_left
 ·rintro w' ⟨s0, s1⟩
  go_simp
  with_reducible rfl
 rotate_left
 ·simp only [Act.put, List.setIfInBounds_toArray, List.set_cons_zero, List.set_cons_succ, i64_w, i32_w]
  rfl
 refine pure_ (i := 6) (N := some 121) (v := ?_) (a' := ?_) #[true, true, true, true, true, true, true, false, false, false, false, false, false] rfl rfl (by kernel_rfl) (fun _ _ _ h => h) (Or.inl ⟨by rfl, ?_⟩) ?_ ?_
 rotate_left
 ·intro w'
  go_simp
  with_reducible rfl
 rotate_left
 ·simp only [Act.put, List.setIfInBounds_toArray, List.set_cons_zero, List.set_cons_succ, i64_w, i32_w]
  rfl
 refine pure_ (i := 7) (N := some 122) (v := ?_) (a' := ?_) #[true, true, true, true, true, true, true, true, false, false, false, false, false] rfl rfl (by kernel_rfl) (fun _ _ _ h => h) (Or.inl ⟨by rfl, ?_⟩) ?_ ?_
 rotate_left
 ·intro w'
  go_simp
  with_reducible rfl
 rotate_left
 ·simp only [Act.put, List.setIfInBounds_toArray, List.set_cons_zero, List.set_cons_succ, i64_w, i32_w]
  rfl
 refine take_ (i := 8) (N := some 123) (v := ?_) (a' := ?_) #[true, true, true, true, true, true, true, true, true, false, false, false, false] rfl rfl (by kernel_rfl) (fun _ _ _ h => h) (Or.inl ⟨by rfl, ?_⟩) hHeld ?_ ?_
 rotate_left
 ·rintro w' ⟨s0, s1⟩
  go_simp
  with_reducible rfl
 rotate_left
 ·simp only [Act.put, List.setIfInBounds_toArray, List.set_cons_zero, List.set_cons_succ, i64_w, i32_w]
  rfl
 refine pure_ (i := 9) (N := some 124) (v := ?_) (a' := ?_) #[true, true, true, true, true, true, true, true, true, true, false, false, false] rfl rfl (by kernel_rfl) (fun _ _ _ h => h) (Or.inl ⟨by rfl, ?_⟩) ?_ ?_
 rotate_left
 ·intro w'
  go_simp
  with_reducible rfl
 rotate_left
 ·simp only [Act.put, List.setIfInBounds_toArray, List.set_cons_zero, List.set_cons_succ, i64_w, i32_w]
  rfl
 refine pure_ (i := 10) (N := some 125) (v := ?_) (a' := ?_) #[true, true, true, true, true, true, true, true, true, true, true, false, false] rfl rfl (by kernel_rfl) (fun _ _ _ h => h) (Or.inl ⟨by rfl, ?_⟩) ?_ ?_
 rotate_left
 ·intro w'
  go_simp
  with_reducible rfl
 rotate_left
 ·simp only [Act.put, List.setIfInBounds_toArray, List.set_cons_zero, List.set_cons_succ, i64_w, i32_w]
  rfl
 refine pure_ (i := 11) (N := some 126) (v := ?_) (a' := ?_) #[true, true, true, true, true, true, true, true, true, true, true, true, false] rfl rfl (by kernel_rfl) (fun _ _ _ h => h) (Or.inl ⟨by rfl, ?_⟩) ?_ ?_
 rotate_left
 ·intro w'
  go_simp
  with_reducible rfl
 rotate_left
 ·simp only [Act.put, List.setIfInBounds_toArray, List.set_cons_zero, List.set_cons_succ, i64_w, i32_w]
  rfl
 refine last_ (i := 12) (N := none) #[true, true, true, true, true, true, true, true, true, true, true, true, true] rfl rfl (by kernel_rfl) (by decide) (fun K hK => ?_)
 have hz2d : World.cell? (World.drew W) ⟨go, i * 3 + 2, none⟩ = some (.int .i64 x.f2) := hz2
 have hfz2d : World.frozen? (World.drew W) ⟨go, i * 3 + 2, none⟩ = false := hfz2
 refine skip_ (w1 := ?_) (by rfl) rfl ?_ ?_
 rotate_left
 ·go_simp
  rfl
 refine hK.out _ _ ?_
 clear hK K
 refine done_ (by kernel_rfl) ?_
 have hM' : k84.M W w.heap.size oki (⟨x.f0, x.f1, (x.f1.length : Int)⟩ : S84) [.string x.f0, .slice A1 x.f1.length c1, .int .i64 (x.f1.length : Int)] := k84_mkM _ _ _ (⟨x.f0, x.f1, (x.f1.length : Int)⟩ : S84) HV1.out
 obtain ⟨hs1, hs2⟩ := Kd.H_seg HH.out (by omega) (by omega) (seg := [.int .i64 (x.f1.length : Int)]) (j := 2) (show 3 ≤ 3 by decide) (fun q hq => by simp at hq; subst hq; rfl)
 have hS := Kd.H_back hs1 (Kd.M_step hM' (fun k hk hlt => hs2.block k hlt (fun e => (HOK.out k hk).2 (by injection e)))) (fun k hk => hk)
 have hE := HE.out
 rw [← HI.out, ← HX.out] at hE
 injection hE with he1 he2
 injection he2 with he2 he3
 subst he1
 subst he2
 subst he3
 have CB8_ : Aside0 (((W.setCell ⟨go, i * 3 + 2, none⟩ (.int .i64 (x.f1.length : Int))).drew).heap[g8]? = some (.cells #[.int .i64 a0_0, .slice (some ⟨go, 0, none⟩) l0_1.length c10] 50 (0, 0))) := ⟨blk_drew (blk_far CB8.out ng8 _)⟩
 have CB4_ : Aside0 (((W.setCell ⟨go, i * 3 + 2, none⟩ (.int .i64 (x.f1.length : Int))).drew).heap[g4]? = some (.cells #[.int .i64 0, .slice none 0 0] 50 (0, 0))) := ⟨blk_drew (blk_far CB4.out ng4 _)⟩
 have HB_ : Aside0 (Below w.heap.size w ((W.setCell ⟨go, i * 3 + 2, none⟩ (.int .i64 (x.f1.length : Int))).drew)) := ⟨below_drew1 (below_set HB.out HGO.out.1)⟩
 have HV : Aside0 (Kd.V k84 84 ((W.setCell ⟨go, i * 3 + 2, none⟩ (.int .i64 (x.f1.length : Int))).drew) w.heap.size (fun k => g4 < k ∧ k ≠ g8) (.slice (some ⟨go, 0, none⟩) l0_1.length c10) _) := ⟨Kd.V_drew (S_V hS)⟩
 clear HB CB2 CB3 CB4 CB8 v20 v21 v30 v31 v32 v33 v40 v41 f40 f41 v80 v81 f80 f81
 generalize (W.setCell ⟨go, i * 3 + 2, none⟩ (.int .i64 (x.f1.length : Int))).drew = WX at *
 have HB := HB_
 have CB4 := CB4_
 have CB8 := CB8_
 clear HB_ CB4_ CB8_
 have v40 : WX.cell? ⟨g4, 0, none⟩ = some (.int .i64 0) := (blk_cell CB4.out 0).trans rfl
 have v41 : WX.cell? ⟨g4, 1, none⟩ = some (.slice none 0 0) := (blk_cell CB4.out 1).trans rfl
 have f40 := blk_frozen CB4.out 0
 have f41 := blk_frozen CB4.out 1
 have v80 : WX.cell? ⟨g8, 0, none⟩ = some (.int .i64 a0_0) := (blk_cell CB8.out 0).trans rfl
 have v81 : WX.cell? ⟨g8, 1, none⟩ = some (.slice (some ⟨go, 0, none⟩) l0_1.length c10) := (blk_cell CB8.out 1).trans rfl
 have f80 := blk_frozen CB8.out 0
 have f81 := blk_frozen CB8.out 1
 go_wp2
 refine bodyPost_ret (results_ct rfl _ _ g4 50 #[.int .i64 a0_0, .slice (some ⟨go, 0, none⟩) l0_1.length c10] (0, 0) _ rfl (blk_put (cs := #[.int .i64 a0_0, .slice none 0 0]) (blk_put (cs := #[.int .i64 0, .slice none 0 0]) CB4.out 0 _ rfl) 1 _ rfl) Tryd.underlying50 rfl (by kernel_rfl)) rfl ?_
 exact ⟨_, rfl, Kd.V_mono (Kd.V_far (p := ⟨g4, 1, none⟩) (Kd.V_far (p := ⟨g4, 0, none⟩) HV.out (fun k hk => Nat.ne_of_gt hk.1) _) (fun k hk => Nat.ne_of_gt hk.1) _) (fun k hk => Nat.le_of_lt (Nat.lt_of_le_of_lt G4.out hk.1)), below_set (below_set HB.out G4.out) G4.out⟩
set_option maxHeartbeats 4000000 in
set_option maxRecDepth 100000 in
theorem do_remove (a0_0 : Int) (A0_1 : Option Addr) (c0_1 : Nat) (l0_1 : List S84) (a1_0 : Int) (a1_1 : ByteArray) (a1_2 : ByteArray) (A1_3 : Option Addr) (c1_3 : Nat) (l1_3 : List Int) (r1 : Int) (r2 : List S84) (r3 : Int) (w : World) (hr0_1 : Kd.C k84 w A0_1 l0_1.length l0_1) (hc0_1 : l0_1.length ≤ c0_1) (hr1_3 : Kd.C (Kd.int .u8) w A1_3 l1_3.length l1_3) (hc1_3 : l1_3.length ≤ c1_3) (hs : SmallD l0_1) (hf : FormedR a0_0 l0_1) (hn : nmd a1_1) (hm : l1_3.length ≤ 140737488351232) (hfo : foundS l0_1 a1_1 = true) (hk : a1_0 = 4) (he : (a0_0, l0_1.eraseIdx (idxS l0_1 a1_1), 0) = (r1, r2, r3)) :
  Calls Tryd.prog 29 #[.agg #[.int .i64 a0_0, .slice A0_1 l0_1.length c0_1], .agg #[.int .i64 a1_0, .string a1_1, .string a1_2, .slice A1_3 l1_3.length c1_3]] w fun e w' => ∃ v1_ : Value, e = .returned (.tuple #[.agg #[.int .i64 r1, v1_], .int .i64 r3]) ∧ Kd.V k84 84 w' w.heap.size (fun k_ => w.heap.size ≤ k_) v1_ r2 ∧ Below w.heap.size w w' := by
 have HR := Aside0.mk hr0_1
 have HC := Aside0.mk hc0_1
 have HR3 := Aside0.mk hr1_3
 have HC3 := Aside0.mk hc1_3
 have HB := Aside0.mk (Below.refl w.heap.size w)
 clear hr0_1 hc0_1 hr1_3 hc1_3
 have hu24 := Tryd.underlying50
 have hu27 := Tryd.underlying60
 have hu61 := Tryd.underlying84
 obtain ⟨i, hi⟩ : ∃ i, i = idxS l0_1 a1_1 := ⟨_, rfl⟩
 have hk1 : decide (a1_0 < 1) = false := decide_eq_false (by omega)
 have hk4 : decide (4 < a1_0) = false := decide_eq_false (by omega)
 have hq1 : decide (a1_0 = 1) = false := decide_eq_false (by omega)
 have hq1b : (a1_0 == 1) = false := by simp; omega
 have hq2 : decide (a1_0 = 2) = false := decide_eq_false (by omega)
 have hq2b : (a1_0 == 2) = false := by simp; omega
 have hq3 : decide (a1_0 = 3) = false := decide_eq_false (by omega)
 have hq3b : (a1_0 == 3) = false := by simp; omega
 have hq4 : decide (a1_0 = 4) = true := decide_eq_true (by omega)
 have hq4b : (a1_0 == 4) = true := by simp; omega
 have hne1 : decide (a1_0 ≠ 1) = true := decide_eq_true (by omega)
 have hne1b : (a1_0 != 1) = true := by simp; omega
 have HFI := Aside0.mk (show store_find.f l0_1 a1_1 = some ((i : Int), true) by unfold store_find.f; rw [if_pos ⟨by have := hf.2.2.2.1; omega, formed_srt hf⟩, hfo, hi])
 have HF := Aside0.mk (show store_Formed.f (3 * l0_1.length + 3) a0_0 l0_1 = some true by rw [formed_plain a0_0 l0_1 hs.small, decide_eq_true hf])
 have HN := Aside0.mk (show store_named.f a1_1 = some true by rw [named_nmd, decide_eq_true hn])
 have HTW := Aside0.mk (show store_twin.f a0_0 l0_1 = some (a0_0, l0_1) by unfold store_twin.f; rw [if_pos ⟨by have := hf.2.2.2.1; omega, fun x hx => by have := hs.2 x hx; omega⟩])
 clear hk
 have HS0 := Aside0.mk hs
 have HFO := Aside0.mk hfo
 have HFM := Aside0.mk hf
 have HE := Aside0.mk he
 have HI := Aside0.mk hi
 have HM := Aside0.mk hm
 clear hs hf hn hm hfo he hi
 go_enter Tryd.func29, Tryd.ntmps29
 go_upto_region 14 with (first
  | ((with_reducible refine gate_dst (N := 2) rfl ?_); refine box_event ?hg (N := 2) ?hd (cs := #[.int .i64 a0_0, .slice A0_1 l0_1.length c0_1]) (t := 50) ?hr ?_; (case hd => rfl); (case hg => rfl); (case hr => first | (go_simp; done) | (go_simp; rfl)); intro g2 hg2 w2 hbox hb; have HB2 := Aside0.mk (below_step HB.out hb); have CB2 := Aside0.mk hbox; have G2 := Aside0.mk (show w.heap.size ≤ g2 by rw [hg2]; exact below_size HB.out); clear hb hbox hg2 HB; have HB := HB2; clear HB2)
  | ((with_reducible refine gate_dst (N := 3) rfl ?_); refine box_event ?hg (N := 3) ?hd (cs := #[.int .i64 a1_0, .string a1_1, .string a1_2, .slice A1_3 l1_3.length c1_3]) (t := 60) ?hr ?_; (case hd => rfl); (case hg => rfl); (case hr => first | (go_simp; done) | (go_simp; rfl)); intro g3 hg3 w3 hbox hb; have HB3 := Aside0.mk (below_step HB.out hb); have CB3 := Aside0.mk hbox; have G23 := Aside0.mk (show g2 < g3 by rw [hg3]; exact blk_lt CB2.out); have CB2_ := Aside0.mk (blk_below CB2.out hb); clear hb hbox hg3 HB CB2; have HB := HB3; have CB2 := CB2_; clear HB3 CB2_)
  | ((with_reducible refine gate_dst (N := 4) rfl ?_); refine box_event ?hg (N := 4) ?hd (cs := #[.int .i64 0, .slice none 0 0]) (t := 50) ?hr ?_; (case hd => rfl); (case hg => rfl); (case hr => first | (go_simp; done) | (go_simp; rfl)); intro g4 hg4 w4 hbox hb; have HX := Aside0.mk (Rbox.mk (below_step HB.out hb) (blk_below CB2.out hb) (blk_below CB3.out hb) hbox G2.out G23.out (show g3 < g4 by rw [hg4]; exact blk_lt CB3.out)); clear hb hbox hg4 HB CB2 CB3 G2 G23; obtain ⟨v20, v21, v30, v31, v32, v33, v40, v41, f40, f41⟩ := HX.out.vis)
  | (go_at_call 48; (with_reducible refine (store_Formed.calls _ a0_0 A0_1 c0_1 l0_1 true _ (Kd.C_below HR.out HX.out.B) HC.out HF.out).mono ?_); rintro e w5 ⟨rfl, hb⟩; have HX_ := Aside0.mk (HX.out.step hb); clear HX hb v20 v21 v30 v31 v32 v33 v40 v41 f40 f41; have HX := HX_; clear HX_; obtain ⟨v20, v21, v30, v31, v32, v33, v40, v41, f40, f41⟩ := HX.out.vis)
  | (go_at_call 49; (with_reducible refine (store_named.calls a1_1 true _ HN.out).mono ?_); rintro e w6 ⟨rfl, hd⟩; have hb := Drawn0.below hd; clear hd; have HX_ := Aside0.mk (HX.out.step hb); clear HX hb v20 v21 v30 v31 v32 v33 v40 v41 f40 f41; have HX := HX_; clear HX_; obtain ⟨v20, v21, v30, v31, v32, v33, v40, v41, f40, f41⟩ := HX.out.vis)
  | (go_at_call 49; (with_reducible refine (store_named.calls a1_2 true _ HT.out).mono ?_); rintro e w7 ⟨rfl, hd⟩; have hb := Drawn0.below hd; clear hd; have HX_ := Aside0.mk (HX.out.step hb); clear HX hb v20 v21 v30 v31 v32 v33 v40 v41 f40 f41; have HX := HX_; clear HX_; obtain ⟨v20, v21, v30, v31, v32, v33, v40, v41, f40, f41⟩ := HX.out.vis)
  | (go_at_call 50; (with_reducible refine (store_find.calls A0_1 c0_1 l0_1 a1_1 _ _ _ (Kd.C_below HR.out HX.out.B) HC.out HFI.out).mono ?_); rintro e w8 ⟨rfl, hb⟩; have HX_ := Aside0.mk (HX.out.step hb); clear HX hb v20 v21 v30 v31 v32 v33 v40 v41 f40 f41; have HX := HX_; clear HX_; obtain ⟨v20, v21, v30, v31, v32, v33, v40, v41, f40, f41⟩ := HX.out.vis)
  | (go_at_call 52; (with_reducible refine (store_twin.calls a0_0 A0_1 c0_1 l0_1 a0_0 l0_1 _ (Kd.C_below HR.out HX.out.B) HC.out HTW.out).mono ?_); rintro e w10 ⟨v10, rfl, hS, hb⟩; obtain ⟨A10, c10, rfl⟩ := Kd.S_slice hS; have hg4_ := blk_lt HX.out.c4; have HS := Aside0.mk (Kd.S_mono (Kd.S_bound (Kd.S_lower (Kd.S_mono (Kd.S_bound hS) (ok' := fun k => g4 < k) (fun k hk => by have := hk.2.1; omega)) HX.out.B.size)) (ok' := fun k => g4 < k ∧ k < w10.heap.size) (fun k hk => ⟨hk.1, hk.2.2.1⟩)); clear hS hg4_; have HX_ := Aside0.mk (HX.out.step hb); clear HX hb v20 v21 v30 v31 v32 v33 v40 v41 f40 f41; have HX := HX_; clear HX_; obtain ⟨v20, v21, v30, v31, v32, v33, v40, v41, f40, f41⟩ := HX.out.vis)
  | ((with_reducible refine gate_dst (N := 8) rfl ?_); refine box_event ?hg (N := 8) ?hd (cs := #[.int .i64 0, .slice none 0 0]) (t := 50) ?hr ?_; (case hd => rfl); (case hg => rfl); (case hr => first | (go_simp; done) | (go_simp; rfl)); intro g8 hg8 w11 hbox hb; have CB8 := Aside0.mk hbox; have G48 := Aside0.mk (show g4 < g8 by rw [hg8]; exact blk_lt HX.out.c4); have HS_ := Aside0.mk (Kd.S_mono (Kd.S_below HS.out hb) (ok' := fun k => g4 < k ∧ k ≠ g8) (fun k hk => ⟨hk.1, by have := hk.2; omega⟩)); clear HS; have HS := HS_; clear HS_; clear hbox hg8; have hn2 : g2 ≠ g8 := (by have := HX.out.l3; have := HX.out.l4; have := G48.out; omega); have hn3 : g3 ≠ g8 := (by have := HX.out.l4; have := G48.out; omega); have hn4 : g4 ≠ g8 := (by have := G48.out; omega); have hm2 := Ne.symm hn2; have hm3 := Ne.symm hn3; have hm4 := Ne.symm hn4; have HX_ := Aside0.mk (HX.out.step hb); clear HX hb v20 v21 v30 v31 v32 v33 v40 v41 f40 f41; have HX := HX_; clear HX_; obtain ⟨v20, v21, v30, v31, v32, v33, v40, v41, f40, f41⟩ := HX.out.vis; have v80 : w11.cell? ⟨g8, 0, none⟩ = some (.int .i64 0) := (blk_cell CB8.out 0).trans rfl; have v81 : w11.cell? ⟨g8, 1, none⟩ = some (.slice none 0 0) := (blk_cell CB8.out 1).trans rfl; have f80 := blk_frozen CB8.out 0; have f81 := blk_frozen CB8.out 1))
 have HB := Aside0.mk HX.out.B
 have CB2 := Aside0.mk HX.out.c2
 have CB3 := Aside0.mk HX.out.c3
 have CB4 := Aside0.mk HX.out.c4
 have G4 := Aside0.mk HX.out.l
 have G23 := Aside0.mk HX.out.l3
 have G34 := Aside0.mk HX.out.l4
 clear HX
 have CB8_ := Aside0.mk (blk_put (cs' := #[.int .i64 a0_0, .slice A10 l0_1.length c10]) (blk_put (cs' := #[.int .i64 a0_0, .slice none 0 0]) CB8.out 0 (.int .i64 a0_0) rfl) 1 (.slice A10 l0_1.length c10) rfl)
 have CB2_ := Aside0.mk (blk_far (p := ⟨g8, 1, none⟩) (blk_far (p := ⟨g8, 0, none⟩) CB2.out hn2 (.int .i64 a0_0)) hn2 (.slice A10 l0_1.length c10))
 have CB3_ := Aside0.mk (blk_far (p := ⟨g8, 1, none⟩) (blk_far (p := ⟨g8, 0, none⟩) CB3.out hn3 (.int .i64 a0_0)) hn3 (.slice A10 l0_1.length c10))
 have CB4_ := Aside0.mk (blk_far (p := ⟨g8, 1, none⟩) (blk_far (p := ⟨g8, 0, none⟩) CB4.out hn4 (.int .i64 a0_0)) hn4 (.slice A10 l0_1.length c10))
 have HS_ := Aside0.mk (Kd.S_far (p := ⟨g8, 1, none⟩) (Kd.S_far (p := ⟨g8, 0, none⟩) HS.out (fun k hk => hk.2) (.int .i64 a0_0)) (fun k hk => hk.2) (.slice A10 l0_1.length c10))
 have G8 := Aside0.mk (show w.heap.size ≤ g8 by have := G4.out; have := G48.out; omega)
 have HB_ := Aside0.mk (below_set (j := 1) (v := .slice A10 l0_1.length c10) (below_set (j := 0) (v := .int .i64 a0_0) HB.out G8.out) G8.out)
 clear HB CB2 CB3 CB4 CB8 HS v20 v21 v30 v31 v32 v33 v40 v41 f40 f41 v80 v81 f80 f81
 generalize (w11.setCell ⟨g8, 0, none⟩ (.int .i64 a0_0)).setCell ⟨g8, 1, none⟩ (.slice A10 l0_1.length c10) = W at *
 have HB := HB_
 have CB2 := CB2_
 have CB3 := CB3_
 have CB4 := CB4_
 have CB8 := CB8_
 have HS := HS_
 clear HB_ CB2_ CB3_ CB4_ CB8_ HS_
 have v20 : W.cell? ⟨g2, 0, none⟩ = some (.int .i64 a0_0) := (blk_cell CB2.out 0).trans rfl
 have v21 : W.cell? ⟨g2, 1, none⟩ = some (.slice A0_1 l0_1.length c0_1) := (blk_cell CB2.out 1).trans rfl
 have v30 : W.cell? ⟨g3, 0, none⟩ = some (.int .i64 a1_0) := (blk_cell CB3.out 0).trans rfl
 have v31 : W.cell? ⟨g3, 1, none⟩ = some (.string a1_1) := (blk_cell CB3.out 1).trans rfl
 have v32 : W.cell? ⟨g3, 2, none⟩ = some (.string a1_2) := (blk_cell CB3.out 2).trans rfl
 have v33 : W.cell? ⟨g3, 3, none⟩ = some (.slice A1_3 l1_3.length c1_3) := (blk_cell CB3.out 3).trans rfl
 have v40 : W.cell? ⟨g4, 0, none⟩ = some (.int .i64 0) := (blk_cell CB4.out 0).trans rfl
 have v41 : W.cell? ⟨g4, 1, none⟩ = some (.slice none 0 0) := (blk_cell CB4.out 1).trans rfl
 have f40 := blk_frozen CB4.out 0
 have f41 := blk_frozen CB4.out 1
 have v80 : W.cell? ⟨g8, 0, none⟩ = some (.int .i64 a0_0) := (blk_cell CB8.out 0).trans rfl
 have v81 : W.cell? ⟨g8, 1, none⟩ = some (.slice A10 l0_1.length c10) := (blk_cell CB8.out 1).trans rfl
 have f80 := blk_frozen CB8.out 0
 have f81 := blk_frozen CB8.out 1
 have hfo := HFO.out
 have hf := HFM.out
 have hi := HI.out
 have hin : i < l0_1.length := by rw [hi]; exact found_lt hfo
 have hl256 := hf.2.2.2.1
 obtain ⟨go, cap, hv, GO1, GO2, _⟩ := Kd.S_form HS.out (by omega)
 injection hv with e1 e2 e3
 subst e1
 subst e3
 clear e2
 have HGO := Aside0.mk (And.intro GO1 GO2)
 clear GO1 GO2
 obtain ⟨x, hx⟩ : ∃ x, x = rd_T84 l0_1 (i : Int) := ⟨_, rfl⟩
 have HX := Aside0.mk hx
 obtain ⟨oki, c, hcl, hM, hcc, hfr, hoki, hH⟩ := Kd.S_elem HS.out z84 (i : Int) (by omega) (by omega)
 rw [show l0_1.getD (i : Int).toNat z84 = x from hx.symm] at hM
 obtain ⟨v1, rfl, hv1⟩ := k84_openM hM
 obtain ⟨A1, c1, rfl⟩ := Kd.R_slice hv1
 have hz0 : W.cell? ⟨go, i * 3, none⟩ = some (.string x.f0) := hcc 0 _ rfl
 have hz1 : W.cell? ⟨go, i * 3 + 1, none⟩ = some (.slice A1 x.f1.length c1) := hcc 1 _ rfl
 have hz2 : W.cell? ⟨go, i * 3 + 2, none⟩ = some (.int .i64 x.f2) := hcc 2 _ rfl
 have hfz1 : W.frozen? ⟨go, i * 3 + 1, none⟩ = false := hfr 1
 have hfz2 : W.frozen? ⟨go, i * 3 + 2, none⟩ = false := hfr 2
 have HV1 := Aside0.mk hv1
 have HH := Aside0.mk hH
 have HOK := Aside0.mk hoki
 have ng2 : g2 ≠ go := fun e => Kd.S_ne HS.out CB2.out (by decide) (by simp [Value.ownBlock, e])
 have ng3 : g3 ≠ go := fun e => Kd.S_ne HS.out CB3.out (by decide) (by simp [Value.ownBlock, e])
 have ng4 : g4 ≠ go := fun e => Kd.S_ne HS.out CB4.out (by decide) (by simp [Value.ownBlock, e])
 have ng8 : g8 ≠ go := fun e => Kd.S_ne HS.out CB8.out (by decide) (by simp [Value.ownBlock, e])
 clear hcl hM hcc hfr hoki hH hv1 hx
 have i0 := eq_true (show (0 : Int) ≤ (i : Int) by omega)
 have i1 := eq_true (show (i : Int) < (l0_1.length : Int) by omega)
 clear hfo hf hi
 have HNN := Aside0.mk (Kd.S_N HS.out)
 have HIN := Aside0.mk hin
 have HL := Aside0.mk (show l0_1.length < 1048576 by omega)
 have hwr : IntKind.i64.wrap ((i : Int) + 1) = ((i + 1 : Nat) : Int) := by rw [IntKind.wrap_i64]; omega
 clear hl256 hz0 hz1 hz2 hfz1 hfz2 hin
 go_wp2_with (first
  | (go_at_call 54; (with_reducible refine (delete_N1 w.heap.size i go l0_1.length c10 l0_1 W HNN.out (fun k hk => ⟨Nat.lt_of_lt_of_le (blk_lt CB4.out) hk, fun e => absurd (blk_lt CB8.out) (by omega)⟩) HIN.out HL.out).mono ?_); rintro e w14 ⟨rfl, hN, hg⟩; have HN14 := Aside0.mk hN; have HB_ := Aside0.mk (HB.out.grown hg HB.out.size (fun k hk => by injection hk with hk; subst hk; exact HGO.out.1)); clear HB hN v20 v21 v30 v31 v32 v33 v40 v41 f40 f41 v80 v81 f80 f81; have HB := HB_; clear HB_; have CB2_ := Aside0.mk (blk_grown CB2.out hg (fun e => ng2 (by injection e))); have CB3_ := Aside0.mk (blk_grown CB3.out hg (fun e => ng3 (by injection e))); have CB4_ := Aside0.mk (blk_grown CB4.out hg (fun e => ng4 (by injection e))); have CB8_ := Aside0.mk (blk_grown CB8.out hg (fun e => ng8 (by injection e))); clear CB2; have CB2 := CB2_; clear CB2_; clear CB3; have CB3 := CB3_; clear CB3_; clear CB4; have CB4 := CB4_; clear CB4_; clear CB8; have CB8 := CB8_; clear CB8_; clear hg; have v20 : w14.cell? ⟨g2, 0, none⟩ = some (.int .i64 a0_0) := (blk_cell CB2.out 0).trans rfl; have v21 : w14.cell? ⟨g2, 1, none⟩ = some (.slice A0_1 l0_1.length c0_1) := (blk_cell CB2.out 1).trans rfl; have v30 : w14.cell? ⟨g3, 0, none⟩ = some (.int .i64 a1_0) := (blk_cell CB3.out 0).trans rfl; have v31 : w14.cell? ⟨g3, 1, none⟩ = some (.string a1_1) := (blk_cell CB3.out 1).trans rfl; have v32 : w14.cell? ⟨g3, 2, none⟩ = some (.string a1_2) := (blk_cell CB3.out 2).trans rfl; have v33 : w14.cell? ⟨g3, 3, none⟩ = some (.slice A1_3 l1_3.length c1_3) := (blk_cell CB3.out 3).trans rfl; have v40 : w14.cell? ⟨g4, 0, none⟩ = some (.int .i64 0) := (blk_cell CB4.out 0).trans rfl; have v41 : w14.cell? ⟨g4, 1, none⟩ = some (.slice none 0 0) := (blk_cell CB4.out 1).trans rfl; have f40 := blk_frozen CB4.out 0; have f41 := blk_frozen CB4.out 1; have v80 : w14.cell? ⟨g8, 0, none⟩ = some (.int .i64 a0_0) := (blk_cell CB8.out 0).trans rfl; have v81 : w14.cell? ⟨g8, 1, none⟩ = some (.slice (some ⟨go, 0, none⟩) l0_1.length c10) := (blk_cell CB8.out 1).trans rfl; have f80 := blk_frozen CB8.out 0; have f81 := blk_frozen CB8.out 1))
 have hE := HE.out
 rw [← HI.out] at hE
 injection hE with he1 he2
 injection he2 with he2 he3
 subst he1
 subst he2
 subst he3
 have CB8_ : Aside0 ((w14.setCell ⟨g8, 1, none⟩ (.slice (some ⟨go, 0, none⟩) (l0_1.length - 1) c10)).heap[g8]? = some (.cells #[.int .i64 a0_0, .slice (some ⟨go, 0, none⟩) (l0_1.length - 1) c10] 50 (0, 0))) := ⟨blk_put (cs := #[.int .i64 a0_0, .slice (some ⟨go, 0, none⟩) l0_1.length c10]) CB8.out 1 _ rfl⟩
 have CB4_ : Aside0 ((w14.setCell ⟨g8, 1, none⟩ (.slice (some ⟨go, 0, none⟩) (l0_1.length - 1) c10)).heap[g4]? = some (.cells #[.int .i64 0, .slice none 0 0] 50 (0, 0))) := ⟨blk_far CB4.out hn4 _⟩
 have HB_ : Aside0 (Below w.heap.size w (w14.setCell ⟨g8, 1, none⟩ (.slice (some ⟨go, 0, none⟩) (l0_1.length - 1) c10))) := ⟨below_set HB.out G8.out⟩
 have HV : Aside0 (Kd.V k84 84 (w14.setCell ⟨g8, 1, none⟩ (.slice (some ⟨go, 0, none⟩) (l0_1.length - 1) c10)) w.heap.size (fun k => g4 < k ∧ k ≠ g8) (.slice (some ⟨go, 0, none⟩) (l0_1.length - 1) c10) _) := ⟨N_V (Kd.N_far (p := ⟨g8, 1, none⟩) HN14.out (fun k hk => hk.2) _)⟩
 clear HB CB2 CB3 CB4 CB8 v20 v21 v30 v31 v32 v33 v40 v41 f40 f41 v80 v81 f80 f81
 generalize w14.setCell ⟨g8, 1, none⟩ (.slice (some ⟨go, 0, none⟩) (l0_1.length - 1) c10) = WX at *
 have HB := HB_
 have CB4 := CB4_
 have CB8 := CB8_
 clear HB_ CB4_ CB8_
 have v40 : WX.cell? ⟨g4, 0, none⟩ = some (.int .i64 0) := (blk_cell CB4.out 0).trans rfl
 have v41 : WX.cell? ⟨g4, 1, none⟩ = some (.slice none 0 0) := (blk_cell CB4.out 1).trans rfl
 have f40 := blk_frozen CB4.out 0
 have f41 := blk_frozen CB4.out 1
 have v80 : WX.cell? ⟨g8, 0, none⟩ = some (.int .i64 a0_0) := (blk_cell CB8.out 0).trans rfl
 have v81 : WX.cell? ⟨g8, 1, none⟩ = some (.slice (some ⟨go, 0, none⟩) (l0_1.length - 1) c10) := (blk_cell CB8.out 1).trans rfl
 have f80 := blk_frozen CB8.out 0
 have f81 := blk_frozen CB8.out 1
 refine bodyPost_ret (results_ct rfl _ _ g4 50 #[.int .i64 a0_0, .slice (some ⟨go, 0, none⟩) (l0_1.length - 1) c10] (0, 0) _ rfl (blk_put (cs := #[.int .i64 a0_0, .slice none 0 0]) (blk_put (cs := #[.int .i64 0, .slice none 0 0]) CB4.out 0 _ rfl) 1 _ rfl) Tryd.underlying50 rfl (by kernel_rfl)) rfl ?_
 exact ⟨_, rfl, Kd.V_mono (Kd.V_far (p := ⟨g4, 1, none⟩) (Kd.V_far (p := ⟨g4, 0, none⟩) HV.out (fun k hk => Nat.ne_of_gt hk.1) _) (fun k hk => Nat.ne_of_gt hk.1) _) (fun k hk => Nat.le_of_lt (Nat.lt_of_le_of_lt G4.out hk.1)), below_set (below_set HB.out G4.out) G4.out⟩
set_option maxHeartbeats 4000000 in
set_option maxRecDepth 100000 in
theorem do_bad9 (a0_0 : Int) (A0_1 : Option Addr) (c0_1 : Nat) (l0_1 : List S84) (a1_0 : Int) (a1_1 : ByteArray) (a1_2 : ByteArray) (A1_3 : Option Addr) (c1_3 : Nat) (l1_3 : List Int) (r1 : Int) (r2 : List S84) (r3 : Int) (w : World) (hr0_1 : Kd.C k84 w A0_1 l0_1.length l0_1) (hc0_1 : l0_1.length ≤ c0_1) (hr1_3 : Kd.C (Kd.int .u8) w A1_3 l1_3.length l1_3) (hc1_3 : l1_3.length ≤ c1_3) (hs : SmallD l0_1) (hf : FormedR a0_0 l0_1) (hn : nmd a1_1) (hm : l1_3.length ≤ 140737488351232) (hfo : foundS l0_1 a1_1 = true) (hk : a1_0 = 1) (hsp : totS l0_1 + (l1_3.length : Int) > a0_0) (he : (0, [], 11) = (r1, r2, r3)) :
  Calls Tryd.prog 29 #[.agg #[.int .i64 a0_0, .slice A0_1 l0_1.length c0_1], .agg #[.int .i64 a1_0, .string a1_1, .string a1_2, .slice A1_3 l1_3.length c1_3]] w fun e w' => ∃ v1_ : Value, e = .returned (.tuple #[.agg #[.int .i64 r1, v1_], .int .i64 r3]) ∧ Kd.V k84 84 w' w.heap.size (fun k_ => w.heap.size ≤ k_) v1_ r2 ∧ Below w.heap.size w w' := by
 have HR := Aside0.mk hr0_1
 have HC := Aside0.mk hc0_1
 have HR3 := Aside0.mk hr1_3
 have HC3 := Aside0.mk hc1_3
 have HB := Aside0.mk (Below.refl w.heap.size w)
 clear hr0_1 hc0_1 hr1_3 hc1_3
 have hu24 := Tryd.underlying50
 have hu27 := Tryd.underlying60
 have hu61 := Tryd.underlying84
 obtain ⟨i, hi⟩ : ∃ i, i = idxS l0_1 a1_1 := ⟨_, rfl⟩
 have hgt : decide (a0_0 < totS l0_1 + (l1_3.length : Int)) = true := decide_eq_true hsp
 clear hsp
 have hk1 : decide (a1_0 < 1) = false := decide_eq_false (by omega)
 have hk4 : decide (4 < a1_0) = false := decide_eq_false (by omega)
 have hq1 : decide (a1_0 = 1) = true := decide_eq_true (by omega)
 have hq1b : (a1_0 == 1) = true := by simp; omega
 have hq2 : decide (a1_0 = 2) = false := decide_eq_false (by omega)
 have hq2b : (a1_0 == 2) = false := by simp; omega
 have hq3 : decide (a1_0 = 3) = false := decide_eq_false (by omega)
 have hq3b : (a1_0 == 3) = false := by simp; omega
 have hq4 : decide (a1_0 = 4) = false := decide_eq_false (by omega)
 have hq4b : (a1_0 == 4) = false := by simp; omega
 have hne1 : decide (a1_0 ≠ 1) = false := decide_eq_false (by omega)
 have hne1b : (a1_0 != 1) = false := by simp; omega
 have HFI := Aside0.mk (show store_find.f l0_1 a1_1 = some ((i : Int), true) by unfold store_find.f; rw [if_pos ⟨by have := hf.2.2.2.1; omega, formed_srt hf⟩, hfo, hi])
 have HF := Aside0.mk (show store_Formed.f (3 * l0_1.length + 3) a0_0 l0_1 = some true by rw [formed_plain a0_0 l0_1 hs.small, decide_eq_true hf])
 have HN := Aside0.mk (show store_named.f a1_1 = some true by rw [named_nmd, decide_eq_true hn])
 have HTW := Aside0.mk (show store_twin.f a0_0 l0_1 = some (a0_0, l0_1) by unfold store_twin.f; rw [if_pos ⟨by have := hf.2.2.2.1; omega, fun x hx => by have := hs.2 x hx; omega⟩])
 have HU := Aside0.mk (show store_used.f (l0_1.length + 1) a0_0 l0_1 = some (totS l0_1) by rw [used_plain a0_0 l0_1 hs.small ⟨hf.2.1, hf.2.2.1⟩, if_pos hf.2.2.2.2])
 have hwu : IntKind.i64.wrap (totS l0_1 + (l1_3.length : Int)) = totS l0_1 + (l1_3.length : Int) := by have := tot_nonneg l0_1; have := hf.2.2.1; have := hf.2.2.2.2; rw [IntKind.wrap_i64]; omega
 clear hk
 have HS0 := Aside0.mk hs
 have HFO := Aside0.mk hfo
 have HFM := Aside0.mk hf
 have HE := Aside0.mk he
 have HI := Aside0.mk hi
 have HM := Aside0.mk hm
 clear hs hf hn hm hfo he hi
 go_enter Tryd.func29, Tryd.ntmps29
 go_upto_region 11 with (first
  | ((with_reducible refine gate_dst (N := 2) rfl ?_); refine box_event ?hg (N := 2) ?hd (cs := #[.int .i64 a0_0, .slice A0_1 l0_1.length c0_1]) (t := 50) ?hr ?_; (case hd => rfl); (case hg => rfl); (case hr => first | (go_simp; done) | (go_simp; rfl)); intro g2 hg2 w2 hbox hb; have HB2 := Aside0.mk (below_step HB.out hb); have CB2 := Aside0.mk hbox; have G2 := Aside0.mk (show w.heap.size ≤ g2 by rw [hg2]; exact below_size HB.out); clear hb hbox hg2 HB; have HB := HB2; clear HB2)
  | ((with_reducible refine gate_dst (N := 3) rfl ?_); refine box_event ?hg (N := 3) ?hd (cs := #[.int .i64 a1_0, .string a1_1, .string a1_2, .slice A1_3 l1_3.length c1_3]) (t := 60) ?hr ?_; (case hd => rfl); (case hg => rfl); (case hr => first | (go_simp; done) | (go_simp; rfl)); intro g3 hg3 w3 hbox hb; have HB3 := Aside0.mk (below_step HB.out hb); have CB3 := Aside0.mk hbox; have G23 := Aside0.mk (show g2 < g3 by rw [hg3]; exact blk_lt CB2.out); have CB2_ := Aside0.mk (blk_below CB2.out hb); clear hb hbox hg3 HB CB2; have HB := HB3; have CB2 := CB2_; clear HB3 CB2_)
  | ((with_reducible refine gate_dst (N := 4) rfl ?_); refine box_event ?hg (N := 4) ?hd (cs := #[.int .i64 0, .slice none 0 0]) (t := 50) ?hr ?_; (case hd => rfl); (case hg => rfl); (case hr => first | (go_simp; done) | (go_simp; rfl)); intro g4 hg4 w4 hbox hb; have HX := Aside0.mk (Rbox.mk (below_step HB.out hb) (blk_below CB2.out hb) (blk_below CB3.out hb) hbox G2.out G23.out (show g3 < g4 by rw [hg4]; exact blk_lt CB3.out)); clear hb hbox hg4 HB CB2 CB3 G2 G23; obtain ⟨v20, v21, v30, v31, v32, v33, v40, v41, f40, f41⟩ := HX.out.vis)
  | (go_at_call 48; (with_reducible refine (store_Formed.calls _ a0_0 A0_1 c0_1 l0_1 true _ (Kd.C_below HR.out HX.out.B) HC.out HF.out).mono ?_); rintro e w5 ⟨rfl, hb⟩; have HX_ := Aside0.mk (HX.out.step hb); clear HX hb v20 v21 v30 v31 v32 v33 v40 v41 f40 f41; have HX := HX_; clear HX_; obtain ⟨v20, v21, v30, v31, v32, v33, v40, v41, f40, f41⟩ := HX.out.vis)
  | (go_at_call 49; (with_reducible refine (store_named.calls a1_1 true _ HN.out).mono ?_); rintro e w6 ⟨rfl, hd⟩; have hb := Drawn0.below hd; clear hd; have HX_ := Aside0.mk (HX.out.step hb); clear HX hb v20 v21 v30 v31 v32 v33 v40 v41 f40 f41; have HX := HX_; clear HX_; obtain ⟨v20, v21, v30, v31, v32, v33, v40, v41, f40, f41⟩ := HX.out.vis)
  | (go_at_call 50; (with_reducible refine (store_find.calls A0_1 c0_1 l0_1 a1_1 _ _ _ (Kd.C_below HR.out HX.out.B) HC.out HFI.out).mono ?_); rintro e w8 ⟨rfl, hb⟩; have HX_ := Aside0.mk (HX.out.step hb); clear HX hb v20 v21 v30 v31 v32 v33 v40 v41 f40 f41; have HX := HX_; clear HX_; obtain ⟨v20, v21, v30, v31, v32, v33, v40, v41, f40, f41⟩ := HX.out.vis))
 have HX_ := Aside0.mk HX.out.drew
 clear HX
 have HX := HX_
 clear HX_
 refine start_ (n := 10) (S := fun w' => w'.cell? ⟨g2, 0, none⟩ = some (.int .i64 a0_0) ∧ w'.cell? ⟨g2, 1, none⟩ = some (.slice A0_1 l0_1.length c0_1) ∧ w'.cell? ⟨g3, 3, none⟩ = some (.slice A1_3 l1_3.length c1_3)) (ds := []) #[false, false, false, false, false, false, false, false, false, false] (by kernel_rfl) rfl rfl ⟨v20, v21, v33⟩ (fun hHeld => ?_)
 refine pure_ (i := 2) (N := some 74) (v := ?_) (a' := ?_) #[false, false, true, false, false, false, false, false, false, false] rfl rfl (by kernel_rfl) (fun _ _ _ h => h) (Or.inl ⟨by rfl, ?_⟩) ?_ ?_
 rotate_left
 ·intro w'
  go_simp
  with_reducible rfl
 rotate_left
 ·simp only [Act.put, List.setIfInBounds_toArray, List.set_cons_zero, List.set_cons_succ, i64_w, i32_w]
  rfl
 refine pure_ (i := 6) (N := some 78) (v := ?_) (a' := ?_) #[false, false, true, false, false, false, true, false, false, false] rfl rfl (by kernel_rfl) (fun _ _ _ h => h) (Or.inl ⟨by rfl, ?_⟩) ?_ ?_
 rotate_left
 ·intro w'
  go_simp
  with_reducible rfl
 rotate_left
 ·simp only [Act.put, List.setIfInBounds_toArray, List.set_cons_zero, List.set_cons_succ, i64_w, i32_w]
  rfl
 refine take_ (i := 0) (N := some 72) (v := ?_) (a' := ?_) #[true, false, true, false, false, false, true, false, false, false] rfl rfl (by kernel_rfl) (fun _ _ _ h => h) (Or.inl ⟨by rfl, ?_⟩) hHeld ?_ ?_
 rotate_left
 ·rintro w' ⟨s0, s1, s2⟩
  go_simp
  with_reducible rfl
 rotate_left
 ·simp only [Act.put, List.setIfInBounds_toArray, List.set_cons_zero, List.set_cons_succ, i64_w, i32_w]
  rfl
 refine take_ (i := 3) (N := some 75) (v := ?_) (a' := ?_) #[true, false, true, true, false, false, true, false, false, false] rfl rfl (by kernel_rfl) (fun _ _ _ h => h) (Or.inl ⟨by rfl, ?_⟩) hHeld ?_ ?_
 rotate_left
 ·rintro w' ⟨s0, s1, s2⟩
  go_simp
  with_reducible rfl
 rotate_left
 ·simp only [Act.put, List.setIfInBounds_toArray, List.set_cons_zero, List.set_cons_succ, i64_w, i32_w]
  rfl
 refine pure_ (i := 4) (N := some 76) (v := ?_) (a' := ?_) #[true, false, true, true, true, false, true, false, false, false] rfl rfl (by kernel_rfl) (fun _ _ _ h => h) (Or.inl ⟨by rfl, ?_⟩) ?_ ?_
 rotate_left
 ·intro w'
  go_simp
  with_reducible rfl
 rotate_left
 ·simp only [Act.put, List.setIfInBounds_toArray, List.set_cons_zero, List.set_cons_succ, i64_w, i32_w]
  rfl
 refine take_ (i := 7) (N := some 79) (v := ?_) (a' := ?_) #[true, false, true, true, true, false, true, true, false, false] rfl rfl (by kernel_rfl) (fun _ _ _ h => h) (Or.inl ⟨by rfl, ?_⟩) hHeld ?_ ?_
 rotate_left
 ·rintro w' ⟨s0, s1, s2⟩
  go_simp
  with_reducible rfl
 rotate_left
 ·simp only [Act.put, List.setIfInBounds_toArray, List.set_cons_zero, List.set_cons_succ, i64_w, i32_w]
  rfl
 refine one_ (i := 1) (N := some 73) #[true, true, true, true, true, false, true, true, false, false] rfl rfl (by kernel_rfl) (by decide) (fun K hK => ?_)
 refine goes_ Tryd.func51 (by kernel_rfl) rfl #[.agg #[.int .i64 a0_0, .slice A0_1 l0_1.length c0_1]] (by rfl) rfl rfl (by simp only [List.map_toArray, List.map_cons, List.map_nil]; rfl) ?_
 with_reducible refine (store_used.calls _ a0_0 A0_1 c0_1 l0_1 (totS l0_1) _ (Kd.C_below HR.out HX.out.B) HC.out HU.out).mono ?_
 rintro e w9 ⟨rfl, hb⟩
 refine ⟨_, rfl, ?_⟩
 have HB9 := Aside0.mk hb
 clear hb
 refine hK.out _ _ ⟨(pw_cell_below HB9.out v20), (pw_cell_below HB9.out v21), (pw_cell_below HB9.out v33)⟩ (fun hHeld => ?_)
 clear hK K
 refine norm_ (a' := ?_) ?_ ?_
 rotate_left
 ·show Act.put _ (some 73) _ = _
  simp only [Act.put, List.setIfInBounds_toArray, List.set_cons_zero, List.set_cons_succ, i64_w, i32_w]
  rfl
 refine pure_ (i := 5) (N := some 77) (v := ?_) (a' := ?_) #[true, true, true, true, true, true, true, true, false, false] rfl rfl (by kernel_rfl) (fun _ _ _ h => h) (Or.inl ⟨by rfl, ?_⟩) ?_ ?_
 rotate_left
 ·intro w'
  go_simp
  with_reducible rfl
 rotate_left
 ·simp only [Act.put, List.setIfInBounds_toArray, List.set_cons_zero, List.set_cons_succ, i64_w, i32_w]
  rfl
 refine pure_ (i := 8) (N := some 80) (v := ?_) (a' := ?_) #[true, true, true, true, true, true, true, true, true, false] rfl rfl (by kernel_rfl) (fun _ _ _ h => h) (Or.inl ⟨by rfl, ?_⟩) ?_ ?_
 rotate_left
 ·intro w'
  go_simp
  with_reducible rfl
 rotate_left
 ·simp only [Act.put, List.setIfInBounds_toArray, List.set_cons_zero, List.set_cons_succ, i64_w, i32_w]
  rfl
 refine pure_ (i := 9) (N := some 71) (v := ?_) (a' := ?_) #[true, true, true, true, true, true, true, true, true, true] rfl rfl (by kernel_rfl) (fun _ _ _ h => h) (Or.inl ⟨by rfl, ?_⟩) ?_ ?_
 rotate_left
 ·intro w'
  go_simp
  with_reducible rfl
 rotate_left
 ·simp only [Act.put, List.setIfInBounds_toArray, List.set_cons_zero, List.set_cons_succ, i64_w, i32_w]
  rfl
 refine done_ (by kernel_rfl) ?_
 have hb := HB9.out
 clear HB9
 have HX_ := Aside0.mk (HX.out.step hb)
 clear HX hb v20 v21 v30 v31 v32 v33 v40 v41 f40 f41
 have HX := HX_
 clear HX_
 obtain ⟨v20, v21, v30, v31, v32, v33, v40, v41, f40, f41⟩ := HX.out.vis
 go_wp2
 have hE := HE.out
 injection hE with he1 he2
 injection he2 with he2 he3
 subst he1
 subst he2
 subst he3
 refine bodyPost_ret (results_ct rfl _ _ g4 50 #[.int .i64 0, .slice none 0 0] (0, 0) _ rfl (blk_put (cs := #[.int .i64 0, .slice none 0 0]) (blk_put (cs := #[.int .i64 0, .slice none 0 0]) HX.out.c4 0 _ rfl) 1 _ rfl) Tryd.underlying50 rfl (by kernel_rfl)) rfl ?_
 exact ⟨_, rfl, Kd.V_nil _ _ _ _ _, below_set (below_set HX.out.B HX.out.l) HX.out.l⟩
set_option maxHeartbeats 4000000 in
set_option maxRecDepth 100000 in
theorem do_bad10 (a0_0 : Int) (A0_1 : Option Addr) (c0_1 : Nat) (l0_1 : List S84) (a1_0 : Int) (a1_1 : ByteArray) (a1_2 : ByteArray) (A1_3 : Option Addr) (c1_3 : Nat) (l1_3 : List Int) (r1 : Int) (r2 : List S84) (r3 : Int) (w : World) (hr0_1 : Kd.C k84 w A0_1 l0_1.length l0_1) (hc0_1 : l0_1.length ≤ c0_1) (hr1_3 : Kd.C (Kd.int .u8) w A1_3 l1_3.length l1_3) (hc1_3 : l1_3.length ≤ c1_3) (hs : SmallD l0_1) (hf : FormedR a0_0 l0_1) (hn : nmd a1_1) (hm : l1_3.length ≤ 140737488351232) (hfo : foundS l0_1 a1_1 = false) (hk : a1_0 = 1) (hl : l0_1.length ≠ 256) (hsp : totS l0_1 + (l1_3.length : Int) > a0_0) (he : (0, [], 11) = (r1, r2, r3)) :
  Calls Tryd.prog 29 #[.agg #[.int .i64 a0_0, .slice A0_1 l0_1.length c0_1], .agg #[.int .i64 a1_0, .string a1_1, .string a1_2, .slice A1_3 l1_3.length c1_3]] w fun e w' => ∃ v1_ : Value, e = .returned (.tuple #[.agg #[.int .i64 r1, v1_], .int .i64 r3]) ∧ Kd.V k84 84 w' w.heap.size (fun k_ => w.heap.size ≤ k_) v1_ r2 ∧ Below w.heap.size w w' := by
 have HR := Aside0.mk hr0_1
 have HC := Aside0.mk hc0_1
 have HR3 := Aside0.mk hr1_3
 have HC3 := Aside0.mk hc1_3
 have HB := Aside0.mk (Below.refl w.heap.size w)
 clear hr0_1 hc0_1 hr1_3 hc1_3
 have hu24 := Tryd.underlying50
 have hu27 := Tryd.underlying60
 have hu61 := Tryd.underlying84
 obtain ⟨i, hi⟩ : ∃ i, i = idxS l0_1 a1_1 := ⟨_, rfl⟩
 have hl1 : decide ((l0_1.length : Int) = 256) = false := decide_eq_false (by omega)
 have hl2 : ((l0_1.length : Int) == 256) = false := by simp; omega
 have hgt : decide (a0_0 < totS l0_1 + (l1_3.length : Int)) = true := decide_eq_true hsp
 clear hsp
 clear hl
 have hk1 : decide (a1_0 < 1) = false := decide_eq_false (by omega)
 have hk4 : decide (4 < a1_0) = false := decide_eq_false (by omega)
 have hq1 : decide (a1_0 = 1) = true := decide_eq_true (by omega)
 have hq1b : (a1_0 == 1) = true := by simp; omega
 have hq2 : decide (a1_0 = 2) = false := decide_eq_false (by omega)
 have hq2b : (a1_0 == 2) = false := by simp; omega
 have hq3 : decide (a1_0 = 3) = false := decide_eq_false (by omega)
 have hq3b : (a1_0 == 3) = false := by simp; omega
 have hq4 : decide (a1_0 = 4) = false := decide_eq_false (by omega)
 have hq4b : (a1_0 == 4) = false := by simp; omega
 have hne1 : decide (a1_0 ≠ 1) = false := decide_eq_false (by omega)
 have hne1b : (a1_0 != 1) = false := by simp; omega
 have HFI := Aside0.mk (show store_find.f l0_1 a1_1 = some ((i : Int), false) by unfold store_find.f; rw [if_pos ⟨by have := hf.2.2.2.1; omega, formed_srt hf⟩, hfo, hi])
 have HF := Aside0.mk (show store_Formed.f (3 * l0_1.length + 3) a0_0 l0_1 = some true by rw [formed_plain a0_0 l0_1 hs.small, decide_eq_true hf])
 have HN := Aside0.mk (show store_named.f a1_1 = some true by rw [named_nmd, decide_eq_true hn])
 have HTW := Aside0.mk (show store_twin.f a0_0 l0_1 = some (a0_0, l0_1) by unfold store_twin.f; rw [if_pos ⟨by have := hf.2.2.2.1; omega, fun x hx => by have := hs.2 x hx; omega⟩])
 have HU := Aside0.mk (show store_used.f (l0_1.length + 1) a0_0 l0_1 = some (totS l0_1) by rw [used_plain a0_0 l0_1 hs.small ⟨hf.2.1, hf.2.2.1⟩, if_pos hf.2.2.2.2])
 have hwu : IntKind.i64.wrap (totS l0_1 + (l1_3.length : Int)) = totS l0_1 + (l1_3.length : Int) := by have := tot_nonneg l0_1; have := hf.2.2.1; have := hf.2.2.2.2; rw [IntKind.wrap_i64]; omega
 clear hk
 have HS0 := Aside0.mk hs
 have HFO := Aside0.mk hfo
 have HFM := Aside0.mk hf
 have HE := Aside0.mk he
 have HI := Aside0.mk hi
 have HM := Aside0.mk hm
 clear hs hf hn hm hfo he hi
 go_enter Tryd.func29, Tryd.ntmps29
 go_upto_region 11 with (first
  | ((with_reducible refine gate_dst (N := 2) rfl ?_); refine box_event ?hg (N := 2) ?hd (cs := #[.int .i64 a0_0, .slice A0_1 l0_1.length c0_1]) (t := 50) ?hr ?_; (case hd => rfl); (case hg => rfl); (case hr => first | (go_simp; done) | (go_simp; rfl)); intro g2 hg2 w2 hbox hb; have HB2 := Aside0.mk (below_step HB.out hb); have CB2 := Aside0.mk hbox; have G2 := Aside0.mk (show w.heap.size ≤ g2 by rw [hg2]; exact below_size HB.out); clear hb hbox hg2 HB; have HB := HB2; clear HB2)
  | ((with_reducible refine gate_dst (N := 3) rfl ?_); refine box_event ?hg (N := 3) ?hd (cs := #[.int .i64 a1_0, .string a1_1, .string a1_2, .slice A1_3 l1_3.length c1_3]) (t := 60) ?hr ?_; (case hd => rfl); (case hg => rfl); (case hr => first | (go_simp; done) | (go_simp; rfl)); intro g3 hg3 w3 hbox hb; have HB3 := Aside0.mk (below_step HB.out hb); have CB3 := Aside0.mk hbox; have G23 := Aside0.mk (show g2 < g3 by rw [hg3]; exact blk_lt CB2.out); have CB2_ := Aside0.mk (blk_below CB2.out hb); clear hb hbox hg3 HB CB2; have HB := HB3; have CB2 := CB2_; clear HB3 CB2_)
  | ((with_reducible refine gate_dst (N := 4) rfl ?_); refine box_event ?hg (N := 4) ?hd (cs := #[.int .i64 0, .slice none 0 0]) (t := 50) ?hr ?_; (case hd => rfl); (case hg => rfl); (case hr => first | (go_simp; done) | (go_simp; rfl)); intro g4 hg4 w4 hbox hb; have HX := Aside0.mk (Rbox.mk (below_step HB.out hb) (blk_below CB2.out hb) (blk_below CB3.out hb) hbox G2.out G23.out (show g3 < g4 by rw [hg4]; exact blk_lt CB3.out)); clear hb hbox hg4 HB CB2 CB3 G2 G23; obtain ⟨v20, v21, v30, v31, v32, v33, v40, v41, f40, f41⟩ := HX.out.vis)
  | (go_at_call 48; (with_reducible refine (store_Formed.calls _ a0_0 A0_1 c0_1 l0_1 true _ (Kd.C_below HR.out HX.out.B) HC.out HF.out).mono ?_); rintro e w5 ⟨rfl, hb⟩; have HX_ := Aside0.mk (HX.out.step hb); clear HX hb v20 v21 v30 v31 v32 v33 v40 v41 f40 f41; have HX := HX_; clear HX_; obtain ⟨v20, v21, v30, v31, v32, v33, v40, v41, f40, f41⟩ := HX.out.vis)
  | (go_at_call 49; (with_reducible refine (store_named.calls a1_1 true _ HN.out).mono ?_); rintro e w6 ⟨rfl, hd⟩; have hb := Drawn0.below hd; clear hd; have HX_ := Aside0.mk (HX.out.step hb); clear HX hb v20 v21 v30 v31 v32 v33 v40 v41 f40 f41; have HX := HX_; clear HX_; obtain ⟨v20, v21, v30, v31, v32, v33, v40, v41, f40, f41⟩ := HX.out.vis)
  | (go_at_call 50; (with_reducible refine (store_find.calls A0_1 c0_1 l0_1 a1_1 _ _ _ (Kd.C_below HR.out HX.out.B) HC.out HFI.out).mono ?_); rintro e w8 ⟨rfl, hb⟩; have HX_ := Aside0.mk (HX.out.step hb); clear HX hb v20 v21 v30 v31 v32 v33 v40 v41 f40 f41; have HX := HX_; clear HX_; obtain ⟨v20, v21, v30, v31, v32, v33, v40, v41, f40, f41⟩ := HX.out.vis))
 have HX_ := Aside0.mk HX.out.drew
 clear HX
 have HX := HX_
 clear HX_
 refine start_ (n := 10) (S := fun w' => w'.cell? ⟨g2, 0, none⟩ = some (.int .i64 a0_0) ∧ w'.cell? ⟨g2, 1, none⟩ = some (.slice A0_1 l0_1.length c0_1) ∧ w'.cell? ⟨g3, 3, none⟩ = some (.slice A1_3 l1_3.length c1_3)) (ds := []) #[false, false, false, false, false, false, false, false, false, false] (by kernel_rfl) rfl rfl ⟨v20, v21, v33⟩ (fun hHeld => ?_)
 refine pure_ (i := 2) (N := some 74) (v := ?_) (a' := ?_) #[false, false, true, false, false, false, false, false, false, false] rfl rfl (by kernel_rfl) (fun _ _ _ h => h) (Or.inl ⟨by rfl, ?_⟩) ?_ ?_
 rotate_left
 ·intro w'
  go_simp
  with_reducible rfl
 rotate_left
 ·simp only [Act.put, List.setIfInBounds_toArray, List.set_cons_zero, List.set_cons_succ, i64_w, i32_w]
  rfl
 refine pure_ (i := 6) (N := some 78) (v := ?_) (a' := ?_) #[false, false, true, false, false, false, true, false, false, false] rfl rfl (by kernel_rfl) (fun _ _ _ h => h) (Or.inl ⟨by rfl, ?_⟩) ?_ ?_
 rotate_left
 ·intro w'
  go_simp
  with_reducible rfl
 rotate_left
 ·simp only [Act.put, List.setIfInBounds_toArray, List.set_cons_zero, List.set_cons_succ, i64_w, i32_w]
  rfl
 refine take_ (i := 0) (N := some 72) (v := ?_) (a' := ?_) #[true, false, true, false, false, false, true, false, false, false] rfl rfl (by kernel_rfl) (fun _ _ _ h => h) (Or.inl ⟨by rfl, ?_⟩) hHeld ?_ ?_
 rotate_left
 ·rintro w' ⟨s0, s1, s2⟩
  go_simp
  with_reducible rfl
 rotate_left
 ·simp only [Act.put, List.setIfInBounds_toArray, List.set_cons_zero, List.set_cons_succ, i64_w, i32_w]
  rfl
 refine take_ (i := 3) (N := some 75) (v := ?_) (a' := ?_) #[true, false, true, true, false, false, true, false, false, false] rfl rfl (by kernel_rfl) (fun _ _ _ h => h) (Or.inl ⟨by rfl, ?_⟩) hHeld ?_ ?_
 rotate_left
 ·rintro w' ⟨s0, s1, s2⟩
  go_simp
  with_reducible rfl
 rotate_left
 ·simp only [Act.put, List.setIfInBounds_toArray, List.set_cons_zero, List.set_cons_succ, i64_w, i32_w]
  rfl
 refine pure_ (i := 4) (N := some 76) (v := ?_) (a' := ?_) #[true, false, true, true, true, false, true, false, false, false] rfl rfl (by kernel_rfl) (fun _ _ _ h => h) (Or.inl ⟨by rfl, ?_⟩) ?_ ?_
 rotate_left
 ·intro w'
  go_simp
  with_reducible rfl
 rotate_left
 ·simp only [Act.put, List.setIfInBounds_toArray, List.set_cons_zero, List.set_cons_succ, i64_w, i32_w]
  rfl
 refine take_ (i := 7) (N := some 79) (v := ?_) (a' := ?_) #[true, false, true, true, true, false, true, true, false, false] rfl rfl (by kernel_rfl) (fun _ _ _ h => h) (Or.inl ⟨by rfl, ?_⟩) hHeld ?_ ?_
 rotate_left
 ·rintro w' ⟨s0, s1, s2⟩
  go_simp
  with_reducible rfl
 rotate_left
 ·simp only [Act.put, List.setIfInBounds_toArray, List.set_cons_zero, List.set_cons_succ, i64_w, i32_w]
  rfl
 refine one_ (i := 1) (N := some 73) #[true, true, true, true, true, false, true, true, false, false] rfl rfl (by kernel_rfl) (by decide) (fun K hK => ?_)
 refine goes_ Tryd.func51 (by kernel_rfl) rfl #[.agg #[.int .i64 a0_0, .slice A0_1 l0_1.length c0_1]] (by rfl) rfl rfl (by simp only [List.map_toArray, List.map_cons, List.map_nil]; rfl) ?_
 with_reducible refine (store_used.calls _ a0_0 A0_1 c0_1 l0_1 (totS l0_1) _ (Kd.C_below HR.out HX.out.B) HC.out HU.out).mono ?_
 rintro e w9 ⟨rfl, hb⟩
 refine ⟨_, rfl, ?_⟩
 have HB9 := Aside0.mk hb
 clear hb
 refine hK.out _ _ ⟨(pw_cell_below HB9.out v20), (pw_cell_below HB9.out v21), (pw_cell_below HB9.out v33)⟩ (fun hHeld => ?_)
 clear hK K
 refine norm_ (a' := ?_) ?_ ?_
 rotate_left
 ·show Act.put _ (some 73) _ = _
  simp only [Act.put, List.setIfInBounds_toArray, List.set_cons_zero, List.set_cons_succ, i64_w, i32_w]
  rfl
 refine pure_ (i := 5) (N := some 77) (v := ?_) (a' := ?_) #[true, true, true, true, true, true, true, true, false, false] rfl rfl (by kernel_rfl) (fun _ _ _ h => h) (Or.inl ⟨by rfl, ?_⟩) ?_ ?_
 rotate_left
 ·intro w'
  go_simp
  with_reducible rfl
 rotate_left
 ·simp only [Act.put, List.setIfInBounds_toArray, List.set_cons_zero, List.set_cons_succ, i64_w, i32_w]
  rfl
 refine pure_ (i := 8) (N := some 80) (v := ?_) (a' := ?_) #[true, true, true, true, true, true, true, true, true, false] rfl rfl (by kernel_rfl) (fun _ _ _ h => h) (Or.inl ⟨by rfl, ?_⟩) ?_ ?_
 rotate_left
 ·intro w'
  go_simp
  with_reducible rfl
 rotate_left
 ·simp only [Act.put, List.setIfInBounds_toArray, List.set_cons_zero, List.set_cons_succ, i64_w, i32_w]
  rfl
 refine pure_ (i := 9) (N := some 71) (v := ?_) (a' := ?_) #[true, true, true, true, true, true, true, true, true, true] rfl rfl (by kernel_rfl) (fun _ _ _ h => h) (Or.inl ⟨by rfl, ?_⟩) ?_ ?_
 rotate_left
 ·intro w'
  go_simp
  with_reducible rfl
 rotate_left
 ·simp only [Act.put, List.setIfInBounds_toArray, List.set_cons_zero, List.set_cons_succ, i64_w, i32_w]
  rfl
 refine done_ (by kernel_rfl) ?_
 have hb := HB9.out
 clear HB9
 have HX_ := Aside0.mk (HX.out.step hb)
 clear HX hb v20 v21 v30 v31 v32 v33 v40 v41 f40 f41
 have HX := HX_
 clear HX_
 obtain ⟨v20, v21, v30, v31, v32, v33, v40, v41, f40, f41⟩ := HX.out.vis
 go_wp2
 have hE := HE.out
 injection hE with he1 he2
 injection he2 with he2 he3
 subst he1
 subst he2
 subst he3
 refine bodyPost_ret (results_ct rfl _ _ g4 50 #[.int .i64 0, .slice none 0 0] (0, 0) _ rfl (blk_put (cs := #[.int .i64 0, .slice none 0 0]) (blk_put (cs := #[.int .i64 0, .slice none 0 0]) HX.out.c4 0 _ rfl) 1 _ rfl) Tryd.underlying50 rfl (by kernel_rfl)) rfl ?_
 exact ⟨_, rfl, Kd.V_nil _ _ _ _ _, below_set (below_set HX.out.B HX.out.l) HX.out.l⟩
set_option maxHeartbeats 4000000 in
set_option maxRecDepth 100000 in
theorem do_app_found (a0_0 : Int) (A0_1 : Option Addr) (c0_1 : Nat) (l0_1 : List S84) (a1_0 : Int) (a1_1 : ByteArray) (a1_2 : ByteArray) (A1_3 : Option Addr) (c1_3 : Nat) (l1_3 : List Int) (r1 : Int) (r2 : List S84) (r3 : Int) (w : World) (hr0_1 : Kd.C k84 w A0_1 l0_1.length l0_1) (hc0_1 : l0_1.length ≤ c0_1) (hr1_3 : Kd.C (Kd.int .u8) w A1_3 l1_3.length l1_3) (hc1_3 : l1_3.length ≤ c1_3) (hs : SmallD l0_1) (hf : FormedR a0_0 l0_1) (hn : nmd a1_1) (hm : l1_3.length ≤ 140737488351232) (hfo : foundS l0_1 a1_1 = true) (hk : a1_0 = 1) (hsp : totS l0_1 + (l1_3.length : Int) ≤ a0_0) (he : (a0_0, l0_1.set (idxS l0_1 a1_1) ⟨(rd_T84 l0_1 (idxS l0_1 a1_1 : Int)).f0, (rd_T84 l0_1 (idxS l0_1 a1_1 : Int)).f1 ++ l1_3, (rd_T84 l0_1 (idxS l0_1 a1_1 : Int)).f2⟩, 0) = (r1, r2, r3)) :
  Calls Tryd.prog 29 #[.agg #[.int .i64 a0_0, .slice A0_1 l0_1.length c0_1], .agg #[.int .i64 a1_0, .string a1_1, .string a1_2, .slice A1_3 l1_3.length c1_3]] w fun e w' => ∃ v1_ : Value, e = .returned (.tuple #[.agg #[.int .i64 r1, v1_], .int .i64 r3]) ∧ Kd.V k84 84 w' w.heap.size (fun k_ => w.heap.size ≤ k_) v1_ r2 ∧ Below w.heap.size w w' := by
 have HR := Aside0.mk hr0_1
 have HC := Aside0.mk hc0_1
 have HR3 := Aside0.mk hr1_3
 have HC3 := Aside0.mk hc1_3
 have HB := Aside0.mk (Below.refl w.heap.size w)
 clear hr0_1 hc0_1 hr1_3 hc1_3
 have hu24 := Tryd.underlying50
 have hu27 := Tryd.underlying60
 have hu61 := Tryd.underlying84
 obtain ⟨i, hi⟩ : ∃ i, i = idxS l0_1 a1_1 := ⟨_, rfl⟩
 have hgt : decide (a0_0 < totS l0_1 + (l1_3.length : Int)) = false := decide_eq_false (by omega)
 have HSP := Aside0.mk hsp
 clear hsp
 have hk1 : decide (a1_0 < 1) = false := decide_eq_false (by omega)
 have hk4 : decide (4 < a1_0) = false := decide_eq_false (by omega)
 have hq1 : decide (a1_0 = 1) = true := decide_eq_true (by omega)
 have hq1b : (a1_0 == 1) = true := by simp; omega
 have hq2 : decide (a1_0 = 2) = false := decide_eq_false (by omega)
 have hq2b : (a1_0 == 2) = false := by simp; omega
 have hq3 : decide (a1_0 = 3) = false := decide_eq_false (by omega)
 have hq3b : (a1_0 == 3) = false := by simp; omega
 have hq4 : decide (a1_0 = 4) = false := decide_eq_false (by omega)
 have hq4b : (a1_0 == 4) = false := by simp; omega
 have hne1 : decide (a1_0 ≠ 1) = false := decide_eq_false (by omega)
 have hne1b : (a1_0 != 1) = false := by simp; omega
 have HFI := Aside0.mk (show store_find.f l0_1 a1_1 = some ((i : Int), true) by unfold store_find.f; rw [if_pos ⟨by have := hf.2.2.2.1; omega, formed_srt hf⟩, hfo, hi])
 have HF := Aside0.mk (show store_Formed.f (3 * l0_1.length + 3) a0_0 l0_1 = some true by rw [formed_plain a0_0 l0_1 hs.small, decide_eq_true hf])
 have HN := Aside0.mk (show store_named.f a1_1 = some true by rw [named_nmd, decide_eq_true hn])
 have HTW := Aside0.mk (show store_twin.f a0_0 l0_1 = some (a0_0, l0_1) by unfold store_twin.f; rw [if_pos ⟨by have := hf.2.2.2.1; omega, fun x hx => by have := hs.2 x hx; omega⟩])
 have HU := Aside0.mk (show store_used.f (l0_1.length + 1) a0_0 l0_1 = some (totS l0_1) by rw [used_plain a0_0 l0_1 hs.small ⟨hf.2.1, hf.2.2.1⟩, if_pos hf.2.2.2.2])
 have hwu : IntKind.i64.wrap (totS l0_1 + (l1_3.length : Int)) = totS l0_1 + (l1_3.length : Int) := by have := tot_nonneg l0_1; have := hf.2.2.1; have := hf.2.2.2.2; rw [IntKind.wrap_i64]; omega
 clear hk
 have HS0 := Aside0.mk hs
 have HFO := Aside0.mk hfo
 have HFM := Aside0.mk hf
 have HE := Aside0.mk he
 have HI := Aside0.mk hi
 have HM := Aside0.mk hm
 clear hs hf hn hm hfo he hi
 go_enter Tryd.func29, Tryd.ntmps29
 go_upto_region 11 with (first
  | ((with_reducible refine gate_dst (N := 2) rfl ?_); refine box_event ?hg (N := 2) ?hd (cs := #[.int .i64 a0_0, .slice A0_1 l0_1.length c0_1]) (t := 50) ?hr ?_; (case hd => rfl); (case hg => rfl); (case hr => first | (go_simp; done) | (go_simp; rfl)); intro g2 hg2 w2 hbox hb; have HB2 := Aside0.mk (below_step HB.out hb); have CB2 := Aside0.mk hbox; have G2 := Aside0.mk (show w.heap.size ≤ g2 by rw [hg2]; exact below_size HB.out); clear hb hbox hg2 HB; have HB := HB2; clear HB2)
  | ((with_reducible refine gate_dst (N := 3) rfl ?_); refine box_event ?hg (N := 3) ?hd (cs := #[.int .i64 a1_0, .string a1_1, .string a1_2, .slice A1_3 l1_3.length c1_3]) (t := 60) ?hr ?_; (case hd => rfl); (case hg => rfl); (case hr => first | (go_simp; done) | (go_simp; rfl)); intro g3 hg3 w3 hbox hb; have HB3 := Aside0.mk (below_step HB.out hb); have CB3 := Aside0.mk hbox; have G23 := Aside0.mk (show g2 < g3 by rw [hg3]; exact blk_lt CB2.out); have CB2_ := Aside0.mk (blk_below CB2.out hb); clear hb hbox hg3 HB CB2; have HB := HB3; have CB2 := CB2_; clear HB3 CB2_)
  | ((with_reducible refine gate_dst (N := 4) rfl ?_); refine box_event ?hg (N := 4) ?hd (cs := #[.int .i64 0, .slice none 0 0]) (t := 50) ?hr ?_; (case hd => rfl); (case hg => rfl); (case hr => first | (go_simp; done) | (go_simp; rfl)); intro g4 hg4 w4 hbox hb; have HX := Aside0.mk (Rbox.mk (below_step HB.out hb) (blk_below CB2.out hb) (blk_below CB3.out hb) hbox G2.out G23.out (show g3 < g4 by rw [hg4]; exact blk_lt CB3.out)); clear hb hbox hg4 HB CB2 CB3 G2 G23; obtain ⟨v20, v21, v30, v31, v32, v33, v40, v41, f40, f41⟩ := HX.out.vis)
  | (go_at_call 48; (with_reducible refine (store_Formed.calls _ a0_0 A0_1 c0_1 l0_1 true _ (Kd.C_below HR.out HX.out.B) HC.out HF.out).mono ?_); rintro e w5 ⟨rfl, hb⟩; have HX_ := Aside0.mk (HX.out.step hb); clear HX hb v20 v21 v30 v31 v32 v33 v40 v41 f40 f41; have HX := HX_; clear HX_; obtain ⟨v20, v21, v30, v31, v32, v33, v40, v41, f40, f41⟩ := HX.out.vis)
  | (go_at_call 49; (with_reducible refine (store_named.calls a1_1 true _ HN.out).mono ?_); rintro e w6 ⟨rfl, hd⟩; have hb := Drawn0.below hd; clear hd; have HX_ := Aside0.mk (HX.out.step hb); clear HX hb v20 v21 v30 v31 v32 v33 v40 v41 f40 f41; have HX := HX_; clear HX_; obtain ⟨v20, v21, v30, v31, v32, v33, v40, v41, f40, f41⟩ := HX.out.vis)
  | (go_at_call 50; (with_reducible refine (store_find.calls A0_1 c0_1 l0_1 a1_1 _ _ _ (Kd.C_below HR.out HX.out.B) HC.out HFI.out).mono ?_); rintro e w8 ⟨rfl, hb⟩; have HX_ := Aside0.mk (HX.out.step hb); clear HX hb v20 v21 v30 v31 v32 v33 v40 v41 f40 f41; have HX := HX_; clear HX_; obtain ⟨v20, v21, v30, v31, v32, v33, v40, v41, f40, f41⟩ := HX.out.vis))
 have HX_ := Aside0.mk HX.out.drew
 clear HX
 have HX := HX_
 clear HX_
 refine start_ (n := 10) (S := fun w' => w'.cell? ⟨g2, 0, none⟩ = some (.int .i64 a0_0) ∧ w'.cell? ⟨g2, 1, none⟩ = some (.slice A0_1 l0_1.length c0_1) ∧ w'.cell? ⟨g3, 3, none⟩ = some (.slice A1_3 l1_3.length c1_3)) (ds := []) #[false, false, false, false, false, false, false, false, false, false] (by kernel_rfl) rfl rfl ⟨v20, v21, v33⟩ (fun hHeld => ?_)
 refine pure_ (i := 2) (N := some 74) (v := ?_) (a' := ?_) #[false, false, true, false, false, false, false, false, false, false] rfl rfl (by kernel_rfl) (fun _ _ _ h => h) (Or.inl ⟨by rfl, ?_⟩) ?_ ?_
 rotate_left
 ·intro w'
  go_simp
  with_reducible rfl
 rotate_left
 ·simp only [Act.put, List.setIfInBounds_toArray, List.set_cons_zero, List.set_cons_succ, i64_w, i32_w]
  rfl
 refine pure_ (i := 6) (N := some 78) (v := ?_) (a' := ?_) #[false, false, true, false, false, false, true, false, false, false] rfl rfl (by kernel_rfl) (fun _ _ _ h => h) (Or.inl ⟨by rfl, ?_⟩) ?_ ?_
 rotate_left
 ·intro w'
  go_simp
  with_reducible rfl
 rotate_left
 ·simp only [Act.put, List.setIfInBounds_toArray, List.set_cons_zero, List.set_cons_succ, i64_w, i32_w]
  rfl
 refine take_ (i := 0) (N := some 72) (v := ?_) (a' := ?_) #[true, false, true, false, false, false, true, false, false, false] rfl rfl (by kernel_rfl) (fun _ _ _ h => h) (Or.inl ⟨by rfl, ?_⟩) hHeld ?_ ?_
 rotate_left
 ·rintro w' ⟨s0, s1, s2⟩
  go_simp
  with_reducible rfl
 rotate_left
 ·simp only [Act.put, List.setIfInBounds_toArray, List.set_cons_zero, List.set_cons_succ, i64_w, i32_w]
  rfl
 refine take_ (i := 3) (N := some 75) (v := ?_) (a' := ?_) #[true, false, true, true, false, false, true, false, false, false] rfl rfl (by kernel_rfl) (fun _ _ _ h => h) (Or.inl ⟨by rfl, ?_⟩) hHeld ?_ ?_
 rotate_left
 ·rintro w' ⟨s0, s1, s2⟩
  go_simp
  with_reducible rfl
 rotate_left
 ·simp only [Act.put, List.setIfInBounds_toArray, List.set_cons_zero, List.set_cons_succ, i64_w, i32_w]
  rfl
 refine pure_ (i := 4) (N := some 76) (v := ?_) (a' := ?_) #[true, false, true, true, true, false, true, false, false, false] rfl rfl (by kernel_rfl) (fun _ _ _ h => h) (Or.inl ⟨by rfl, ?_⟩) ?_ ?_
 rotate_left
 ·intro w'
  go_simp
  with_reducible rfl
 rotate_left
 ·simp only [Act.put, List.setIfInBounds_toArray, List.set_cons_zero, List.set_cons_succ, i64_w, i32_w]
  rfl
 refine take_ (i := 7) (N := some 79) (v := ?_) (a' := ?_) #[true, false, true, true, true, false, true, true, false, false] rfl rfl (by kernel_rfl) (fun _ _ _ h => h) (Or.inl ⟨by rfl, ?_⟩) hHeld ?_ ?_
 rotate_left
 ·rintro w' ⟨s0, s1, s2⟩
  go_simp
  with_reducible rfl
 rotate_left
 ·simp only [Act.put, List.setIfInBounds_toArray, List.set_cons_zero, List.set_cons_succ, i64_w, i32_w]
  rfl
 refine one_ (i := 1) (N := some 73) #[true, true, true, true, true, false, true, true, false, false] rfl rfl (by kernel_rfl) (by decide) (fun K hK => ?_)
 refine goes_ Tryd.func51 (by kernel_rfl) rfl #[.agg #[.int .i64 a0_0, .slice A0_1 l0_1.length c0_1]] (by rfl) rfl rfl (by simp only [List.map_toArray, List.map_cons, List.map_nil]; rfl) ?_
 with_reducible refine (store_used.calls _ a0_0 A0_1 c0_1 l0_1 (totS l0_1) _ (Kd.C_below HR.out HX.out.B) HC.out HU.out).mono ?_
 rintro e w9 ⟨rfl, hb⟩
 refine ⟨_, rfl, ?_⟩
 have HB9 := Aside0.mk hb
 clear hb
 refine hK.out _ _ ⟨(pw_cell_below HB9.out v20), (pw_cell_below HB9.out v21), (pw_cell_below HB9.out v33)⟩ (fun hHeld => ?_)
 clear hK K
 refine norm_ (a' := ?_) ?_ ?_
 rotate_left
 ·show Act.put _ (some 73) _ = _
  simp only [Act.put, List.setIfInBounds_toArray, List.set_cons_zero, List.set_cons_succ, i64_w, i32_w]
  rfl
 refine pure_ (i := 5) (N := some 77) (v := ?_) (a' := ?_) #[true, true, true, true, true, true, true, true, false, false] rfl rfl (by kernel_rfl) (fun _ _ _ h => h) (Or.inl ⟨by rfl, ?_⟩) ?_ ?_
 rotate_left
 ·intro w'
  go_simp
  with_reducible rfl
 rotate_left
 ·simp only [Act.put, List.setIfInBounds_toArray, List.set_cons_zero, List.set_cons_succ, i64_w, i32_w]
  rfl
 refine pure_ (i := 8) (N := some 80) (v := ?_) (a' := ?_) #[true, true, true, true, true, true, true, true, true, false] rfl rfl (by kernel_rfl) (fun _ _ _ h => h) (Or.inl ⟨by rfl, ?_⟩) ?_ ?_
 rotate_left
 ·intro w'
  go_simp
  with_reducible rfl
 rotate_left
 ·simp only [Act.put, List.setIfInBounds_toArray, List.set_cons_zero, List.set_cons_succ, i64_w, i32_w]
  rfl
 refine pure_ (i := 9) (N := some 71) (v := ?_) (a' := ?_) #[true, true, true, true, true, true, true, true, true, true] rfl rfl (by kernel_rfl) (fun _ _ _ h => h) (Or.inl ⟨by rfl, ?_⟩) ?_ ?_
 rotate_left
 ·intro w'
  go_simp
  with_reducible rfl
 rotate_left
 ·simp only [Act.put, List.setIfInBounds_toArray, List.set_cons_zero, List.set_cons_succ, i64_w, i32_w]
  rfl
 refine done_ (by kernel_rfl) ?_
 have hb := HB9.out
 clear HB9
 have HX_ := Aside0.mk (HX.out.step hb)
 clear HX hb v20 v21 v30 v31 v32 v33 v40 v41 f40 f41
 have HX := HX_
 clear HX_
 obtain ⟨v20, v21, v30, v31, v32, v33, v40, v41, f40, f41⟩ := HX.out.vis
 go_upto_region 14 with (first
  | (go_at_call 52; (with_reducible refine (store_twin.calls a0_0 A0_1 c0_1 l0_1 a0_0 l0_1 _ (Kd.C_below HR.out HX.out.B) HC.out HTW.out).mono ?_); rintro e w10 ⟨v10, rfl, hS, hb⟩; obtain ⟨A10, c10, rfl⟩ := Kd.S_slice hS; have hg4_ := blk_lt HX.out.c4; have HS := Aside0.mk (Kd.S_mono (Kd.S_bound (Kd.S_lower (Kd.S_mono (Kd.S_bound hS) (ok' := fun k => g4 < k) (fun k hk => by have := hk.2.1; omega)) HX.out.B.size)) (ok' := fun k => g4 < k ∧ k < w10.heap.size) (fun k hk => ⟨hk.1, hk.2.2.1⟩)); clear hS hg4_; have HX_ := Aside0.mk (HX.out.step hb); clear HX hb v20 v21 v30 v31 v32 v33 v40 v41 f40 f41; have HX := HX_; clear HX_; obtain ⟨v20, v21, v30, v31, v32, v33, v40, v41, f40, f41⟩ := HX.out.vis)
  | ((with_reducible refine gate_dst (N := 8) rfl ?_); refine box_event ?hg (N := 8) ?hd (cs := #[.int .i64 0, .slice none 0 0]) (t := 50) ?hr ?_; (case hd => rfl); (case hg => rfl); (case hr => first | (go_simp; done) | (go_simp; rfl)); intro g8 hg8 w11 hbox hb; have CB8 := Aside0.mk hbox; have G48 := Aside0.mk (show g4 < g8 by rw [hg8]; exact blk_lt HX.out.c4); have HS_ := Aside0.mk (Kd.S_mono (Kd.S_below HS.out hb) (ok' := fun k => g4 < k ∧ k ≠ g8) (fun k hk => ⟨hk.1, by have := hk.2; omega⟩)); clear HS; have HS := HS_; clear HS_; clear hbox hg8; have hn2 : g2 ≠ g8 := (by have := HX.out.l3; have := HX.out.l4; have := G48.out; omega); have hn3 : g3 ≠ g8 := (by have := HX.out.l4; have := G48.out; omega); have hn4 : g4 ≠ g8 := (by have := G48.out; omega); have hm2 := Ne.symm hn2; have hm3 := Ne.symm hn3; have hm4 := Ne.symm hn4; have HX_ := Aside0.mk (HX.out.step hb); clear HX hb v20 v21 v30 v31 v32 v33 v40 v41 f40 f41; have HX := HX_; clear HX_; obtain ⟨v20, v21, v30, v31, v32, v33, v40, v41, f40, f41⟩ := HX.out.vis; have v80 : w11.cell? ⟨g8, 0, none⟩ = some (.int .i64 0) := (blk_cell CB8.out 0).trans rfl; have v81 : w11.cell? ⟨g8, 1, none⟩ = some (.slice none 0 0) := (blk_cell CB8.out 1).trans rfl; have f80 := blk_frozen CB8.out 0; have f81 := blk_frozen CB8.out 1))
 have HB := Aside0.mk HX.out.B
 have CB2 := Aside0.mk HX.out.c2
 have CB3 := Aside0.mk HX.out.c3
 have CB4 := Aside0.mk HX.out.c4
 have G4 := Aside0.mk HX.out.l
 have G23 := Aside0.mk HX.out.l3
 have G34 := Aside0.mk HX.out.l4
 clear HX
 have CB8_ := Aside0.mk (blk_put (cs' := #[.int .i64 a0_0, .slice A10 l0_1.length c10]) (blk_put (cs' := #[.int .i64 a0_0, .slice none 0 0]) CB8.out 0 (.int .i64 a0_0) rfl) 1 (.slice A10 l0_1.length c10) rfl)
 have CB2_ := Aside0.mk (blk_far (p := ⟨g8, 1, none⟩) (blk_far (p := ⟨g8, 0, none⟩) CB2.out hn2 (.int .i64 a0_0)) hn2 (.slice A10 l0_1.length c10))
 have CB3_ := Aside0.mk (blk_far (p := ⟨g8, 1, none⟩) (blk_far (p := ⟨g8, 0, none⟩) CB3.out hn3 (.int .i64 a0_0)) hn3 (.slice A10 l0_1.length c10))
 have CB4_ := Aside0.mk (blk_far (p := ⟨g8, 1, none⟩) (blk_far (p := ⟨g8, 0, none⟩) CB4.out hn4 (.int .i64 a0_0)) hn4 (.slice A10 l0_1.length c10))
 have HS_ := Aside0.mk (Kd.S_far (p := ⟨g8, 1, none⟩) (Kd.S_far (p := ⟨g8, 0, none⟩) HS.out (fun k hk => hk.2) (.int .i64 a0_0)) (fun k hk => hk.2) (.slice A10 l0_1.length c10))
 have G8 := Aside0.mk (show w.heap.size ≤ g8 by have := G4.out; have := G48.out; omega)
 have HB_ := Aside0.mk (below_set (j := 1) (v := .slice A10 l0_1.length c10) (below_set (j := 0) (v := .int .i64 a0_0) HB.out G8.out) G8.out)
 clear HB CB2 CB3 CB4 CB8 HS v20 v21 v30 v31 v32 v33 v40 v41 f40 f41 v80 v81 f80 f81
 generalize (w11.setCell ⟨g8, 0, none⟩ (.int .i64 a0_0)).setCell ⟨g8, 1, none⟩ (.slice A10 l0_1.length c10) = W at *
 have HB := HB_
 have CB2 := CB2_
 have CB3 := CB3_
 have CB4 := CB4_
 have CB8 := CB8_
 have HS := HS_
 clear HB_ CB2_ CB3_ CB4_ CB8_ HS_
 have v20 : W.cell? ⟨g2, 0, none⟩ = some (.int .i64 a0_0) := (blk_cell CB2.out 0).trans rfl
 have v21 : W.cell? ⟨g2, 1, none⟩ = some (.slice A0_1 l0_1.length c0_1) := (blk_cell CB2.out 1).trans rfl
 have v30 : W.cell? ⟨g3, 0, none⟩ = some (.int .i64 a1_0) := (blk_cell CB3.out 0).trans rfl
 have v31 : W.cell? ⟨g3, 1, none⟩ = some (.string a1_1) := (blk_cell CB3.out 1).trans rfl
 have v32 : W.cell? ⟨g3, 2, none⟩ = some (.string a1_2) := (blk_cell CB3.out 2).trans rfl
 have v33 : W.cell? ⟨g3, 3, none⟩ = some (.slice A1_3 l1_3.length c1_3) := (blk_cell CB3.out 3).trans rfl
 have v40 : W.cell? ⟨g4, 0, none⟩ = some (.int .i64 0) := (blk_cell CB4.out 0).trans rfl
 have v41 : W.cell? ⟨g4, 1, none⟩ = some (.slice none 0 0) := (blk_cell CB4.out 1).trans rfl
 have f40 := blk_frozen CB4.out 0
 have f41 := blk_frozen CB4.out 1
 have v80 : W.cell? ⟨g8, 0, none⟩ = some (.int .i64 a0_0) := (blk_cell CB8.out 0).trans rfl
 have v81 : W.cell? ⟨g8, 1, none⟩ = some (.slice A10 l0_1.length c10) := (blk_cell CB8.out 1).trans rfl
 have f80 := blk_frozen CB8.out 0
 have f81 := blk_frozen CB8.out 1
 have hfo := HFO.out
 have hf := HFM.out
 have hi := HI.out
 have hin : i < l0_1.length := by rw [hi]; exact found_lt hfo
 have hl256 := hf.2.2.2.1
 obtain ⟨go, cap, hv, GO1, GO2, _⟩ := Kd.S_form HS.out (by omega)
 injection hv with e1 e2 e3
 subst e1
 subst e3
 clear e2
 have HGO := Aside0.mk (And.intro GO1 GO2)
 clear GO1 GO2
 obtain ⟨x, hx⟩ : ∃ x, x = rd_T84 l0_1 (i : Int) := ⟨_, rfl⟩
 have HX := Aside0.mk hx
 obtain ⟨oki, c, hcl, hM, hcc, hfr, hoki, hH⟩ := Kd.S_elem HS.out z84 (i : Int) (by omega) (by omega)
 rw [show l0_1.getD (i : Int).toNat z84 = x from hx.symm] at hM
 obtain ⟨v1, rfl, hv1⟩ := k84_openM hM
 obtain ⟨A1, c1, rfl⟩ := Kd.R_slice hv1
 have hz0 : W.cell? ⟨go, i * 3, none⟩ = some (.string x.f0) := hcc 0 _ rfl
 have hz1 : W.cell? ⟨go, i * 3 + 1, none⟩ = some (.slice A1 x.f1.length c1) := hcc 1 _ rfl
 have hz2 : W.cell? ⟨go, i * 3 + 2, none⟩ = some (.int .i64 x.f2) := hcc 2 _ rfl
 have hfz1 : W.frozen? ⟨go, i * 3 + 1, none⟩ = false := hfr 1
 have hfz2 : W.frozen? ⟨go, i * 3 + 2, none⟩ = false := hfr 2
 have HV1 := Aside0.mk hv1
 have HH := Aside0.mk hH
 have HOK := Aside0.mk hoki
 have ng2 : g2 ≠ go := fun e => Kd.S_ne HS.out CB2.out (by decide) (by simp [Value.ownBlock, e])
 have ng3 : g3 ≠ go := fun e => Kd.S_ne HS.out CB3.out (by decide) (by simp [Value.ownBlock, e])
 have ng4 : g4 ≠ go := fun e => Kd.S_ne HS.out CB4.out (by decide) (by simp [Value.ownBlock, e])
 have ng8 : g8 ≠ go := fun e => Kd.S_ne HS.out CB8.out (by decide) (by simp [Value.ownBlock, e])
 clear hcl hM hcc hfr hoki hH hv1 hx
 have i0 := eq_true (show (0 : Int) ≤ (i : Int) by omega)
 have i1 := eq_true (show (i : Int) < (l0_1.length : Int) by omega)
 have HLX := Aside0.mk (show (x.f1.length + l1_3.length) * 1 ≤ 140737488355328 by have h1 := tot_at l0_1 i hin; rw [← HX.out] at h1; have := hf.2.2.1; have := hf.2.2.2.2; have := HSP.out; omega)
 clear hfo hf hi hl256 hin
 obtain ⟨y, hy⟩ : ∃ y, y = x.f1 ++ l1_3 := ⟨_, rfl⟩
 have HY := Aside0.mk hy
 clear hy
 go_wp2
 have HRD := Aside0.mk (Kd.C_drew (Kd.C_below HR3.out HB.out))
 have HV1d := Aside0.mk (Kd.R_mono (Kd.R_drew HV1.out) (ok' := fun k => oki k ∨ (g4 < k ∧ k ≠ g8) ∧ W.heap.size ≤ k) (fun k hk => .inl hk))
 have HBd := Aside0.mk (below_drew1 HB.out)
 have hfresh : ∀ k, W.drew.heap.size ≤ k → oki k ∨ (g4 < k ∧ k ≠ g8) ∧ W.heap.size ≤ k := fun k hk => .inr ⟨⟨Nat.lt_of_lt_of_le (blk_lt CB4.out) hk, fun e => by subst e; exact absurd (blk_lt CB8.out) (Nat.not_lt.2 hk)⟩, hk⟩
 have HFR := Aside0.mk hfresh
 have ne8 : some g8 ≠ (Value.slice A1 x.f1.length c1).ownBlock := fun e => (HOK.out g8 (HV1.out.1 g8 e.symm)).1.2 rfl
 have ne4 : some g4 ≠ (Value.slice A1 x.f1.length c1).ownBlock := fun e => Nat.lt_irrefl _ (HOK.out g4 (HV1.out.1 g4 e.symm)).1.1
 have ne3 : some g3 ≠ (Value.slice A1 x.f1.length c1).ownBlock := fun e => Nat.lt_asymm G34.out (HOK.out g3 (HV1.out.1 g3 e.symm)).1.1
 have neo : some go ≠ (Value.slice A1 x.f1.length c1).ownBlock := fun e => (HOK.out go (HV1.out.1 go e.symm)).2 rfl
 clear hfresh
 refine start_ (n := 15) (S := fun w' => w'.cell? ⟨g8, 1, none⟩ = some (.slice (some ⟨go, 0, none⟩) l0_1.length c10) ∧ w'.cell? ⟨go, i * 3 + 1, none⟩ = some (.slice A1 x.f1.length c1) ∧ w'.cell? ⟨g3, 3, none⟩ = some (.slice A1_3 l1_3.length c1_3)) (ds := [14]) #[false, false, false, false, false, false, false, false, false, false, false, false, false, false, false] (by kernel_rfl) rfl rfl ⟨v81, hz1, v33⟩ (fun hHeld => ?_)
 refine pure_ (i := 0) (N := some 99) (v := ?_) (a' := ?_) #[true, false, false, false, false, false, false, false, false, false, false, false, false, false, false] rfl rfl (by kernel_rfl) (fun _ _ _ h => h) (Or.inl ⟨by rfl, ?_⟩) ?_ ?_
 rotate_left
 ·intro w'
  go_simp
  with_reducible rfl
 rotate_left
 ·simp only [Act.put, List.setIfInBounds_toArray, List.set_cons_zero, List.set_cons_succ, i64_w, i32_w]
  rfl
 refine pure_ (i := 2) (N := some 101) (v := ?_) (a' := ?_) #[true, false, true, false, false, false, false, false, false, false, false, false, false, false, false] rfl rfl (by kernel_rfl) (fun _ _ _ h => h) (Or.inl ⟨by rfl, ?_⟩) ?_ ?_
 rotate_left
 ·intro w'
  go_simp
  with_reducible rfl
 rotate_left
 ·simp only [Act.put, List.setIfInBounds_toArray, List.set_cons_zero, List.set_cons_succ, i64_w, i32_w]
  rfl
 refine pure_ (i := 3) (N := some 102) (v := ?_) (a' := ?_) #[true, false, true, true, false, false, false, false, false, false, false, false, false, false, false] rfl rfl (by kernel_rfl) (fun _ _ _ h => h) (Or.inl ⟨by rfl, ?_⟩) ?_ ?_
 rotate_left
 ·intro w'
  go_simp
  with_reducible rfl
 rotate_left
 ·simp only [Act.put, List.setIfInBounds_toArray, List.set_cons_zero, List.set_cons_succ, i64_w, i32_w]
  rfl
 refine pure_ (i := 5) (N := some 104) (v := ?_) (a' := ?_) #[true, false, true, true, false, true, false, false, false, false, false, false, false, false, false] rfl rfl (by kernel_rfl) (fun _ _ _ h => h) (Or.inl ⟨by rfl, ?_⟩) ?_ ?_
 rotate_left
 ·intro w'
  go_simp
  with_reducible rfl
 rotate_left
 ·simp only [Act.put, List.setIfInBounds_toArray, List.set_cons_zero, List.set_cons_succ, i64_w, i32_w]
  rfl
 refine pure_ (i := 9) (N := some 108) (v := ?_) (a' := ?_) #[true, false, true, true, false, true, false, false, false, true, false, false, false, false, false] rfl rfl (by kernel_rfl) (fun _ _ _ h => h) (Or.inl ⟨by rfl, ?_⟩) ?_ ?_
 rotate_left
 ·intro w'
  go_simp
  with_reducible rfl
 rotate_left
 ·simp only [Act.put, List.setIfInBounds_toArray, List.set_cons_zero, List.set_cons_succ, i64_w, i32_w]
  rfl
 refine take_ (i := 1) (N := some 100) (v := ?_) (a' := ?_) #[true, true, true, true, false, true, false, false, false, true, false, false, false, false, false] rfl rfl (by kernel_rfl) (fun _ _ _ h => h) (Or.inl ⟨by rfl, ?_⟩) hHeld ?_ ?_
 rotate_left
 ·rintro w' ⟨s0, s1, s2⟩
  go_simp
  with_reducible rfl
 rotate_left
 ·simp only [Act.put, List.setIfInBounds_toArray, List.set_cons_zero, List.set_cons_succ, i64_w, i32_w]
  rfl
 refine take_ (i := 4) (N := some 103) (v := ?_) (a' := ?_) #[true, true, true, true, true, true, false, false, false, true, false, false, false, false, false] rfl rfl (by kernel_rfl) (fun _ _ _ h => h) (Or.inl ⟨by rfl, ?_⟩) hHeld ?_ ?_
 rotate_left
 ·rintro w' ⟨s0, s1, s2⟩
  go_simp
  with_reducible rfl
 rotate_left
 ·simp only [Act.put, List.setIfInBounds_toArray, List.set_cons_zero, List.set_cons_succ, i64_w, i32_w]
  rfl
 refine pure_ (i := 6) (N := some 105) (v := ?_) (a' := ?_) #[true, true, true, true, true, true, true, false, false, true, false, false, false, false, false] rfl rfl (by kernel_rfl) (fun _ _ _ h => h) (Or.inl ⟨by rfl, ?_⟩) ?_ ?_
 rotate_left
 ·intro w'
  go_simp
  with_reducible rfl
 rotate_left
 ·simp only [Act.put, List.setIfInBounds_toArray, List.set_cons_zero, List.set_cons_succ, i64_w, i32_w]
  rfl
 refine pure_ (i := 7) (N := some 106) (v := ?_) (a' := ?_) #[true, true, true, true, true, true, true, true, false, true, false, false, false, false, false] rfl rfl (by kernel_rfl) (fun _ _ _ h => h) (Or.inl ⟨by rfl, ?_⟩) ?_ ?_
 rotate_left
 ·intro w'
  go_simp
  with_reducible rfl
 rotate_left
 ·simp only [Act.put, List.setIfInBounds_toArray, List.set_cons_zero, List.set_cons_succ, i64_w, i32_w]
  rfl
 refine take_ (i := 8) (N := some 107) (v := ?_) (a' := ?_) #[true, true, true, true, true, true, true, true, true, true, false, false, false, false, false] rfl rfl (by kernel_rfl) (fun _ _ _ h => h) (Or.inl ⟨by rfl, ?_⟩) hHeld ?_ ?_
 rotate_left
 ·rintro w' ⟨s0, s1, s2⟩
  go_simp
  with_reducible rfl
 rotate_left
 ·simp only [Act.put, List.setIfInBounds_toArray, List.set_cons_zero, List.set_cons_succ, i64_w, i32_w]
  rfl
 refine take_ (i := 10) (N := some 109) (v := ?_) (a' := ?_) #[true, true, true, true, true, true, true, true, true, true, true, false, false, false, false] rfl rfl (by kernel_rfl) (fun _ _ _ h => h) (Or.inl ⟨by rfl, ?_⟩) hHeld ?_ ?_
 rotate_left
 ·rintro w' ⟨s0, s1, s2⟩
  go_simp
  with_reducible rfl
 rotate_left
 ·simp only [Act.put, List.setIfInBounds_toArray, List.set_cons_zero, List.set_cons_succ, i64_w, i32_w]
  rfl
 refine one_ (i := 11) (N := some 110) #[true, true, true, true, true, true, true, true, true, true, true, true, false, false, false] rfl rfl (by kernel_rfl) (by decide) (fun K hK => ?_)
 refine Kd.R_append_rows_step (Kd.int .u8) (w0 := w) w.heap.size (by rfl) (.tmp 107) (.tmp 109) 22 5 (.int .u8 0) 1 rfl Tryd.underlying22 info5 rfl (by decide) (by omega) (.slice A1 x.f1.length c1) x.f1 l1_3 A1_3 l1_3.length c1_3 (fun k => oki k ∨ (g4 < k ∧ k ≠ g8) ∧ W.heap.size ≤ k) (fun _ => False) rfl rfl HV1d.out HRD.out (fun _ _ h => h) (fun _ h => h.elim) HFR.out HBd.out HBd.out.size HLX.out ?_
 intro v15 w15 ho hb hg hat
 rw [← HY.out] at ho
 obtain ⟨A15, c15, rfl⟩ := Kd.R_slice ho
 have HO15 := Aside0.mk ho
 have HB15 := Aside0.mk hb
 have HG15 := Aside0.mk hg
 clear ho hb hg hat
 refine hK.out _ _ ⟨(World.grownBy.cell HG15.out (show World.cell? (World.drew W) _ = _ from v81) ne8), (World.grownBy.cell HG15.out (show World.cell? (World.drew W) _ = _ from hz1) neo), (World.grownBy.cell HG15.out (show World.cell? (World.drew W) _ = _ from v33) ne3)⟩ (fun hHeld => ?_)
 clear hK K
 refine norm_ (a' := ?_) ?_ ?_
 rotate_left
 ·show Act.put _ (some 110) _ = _
  simp only [Act.put, List.setIfInBounds_toArray, List.set_cons_zero, List.set_cons_succ, i64_w, i32_w]
  rfl
 refine pure_ (i := 12) (N := some 111) (v := ?_) (a' := ?_) #[true, true, true, true, true, true, true, true, true, true, true, true, true, false, false] rfl rfl (by kernel_rfl) (fun _ _ _ h => h) (Or.inl ⟨by rfl, ?_⟩) ?_ ?_
 rotate_left
 ·intro w'
  go_simp
  with_reducible rfl
 rotate_left
 ·simp only [Act.put, List.setIfInBounds_toArray, List.set_cons_zero, List.set_cons_succ, i64_w, i32_w]
  rfl
 refine pure_ (i := 13) (N := some 112) (v := ?_) (a' := ?_) #[true, true, true, true, true, true, true, true, true, true, true, true, true, true, false] rfl rfl (by kernel_rfl) (fun _ _ _ h => h) (Or.inl ⟨by rfl, ?_⟩) ?_ ?_
 rotate_left
 ·intro w'
  go_simp
  with_reducible rfl
 rotate_left
 ·simp only [Act.put, List.setIfInBounds_toArray, List.set_cons_zero, List.set_cons_succ, i64_w, i32_w]
  rfl
 refine last_ (i := 14) (N := none) #[true, true, true, true, true, true, true, true, true, true, true, true, true, true, true] rfl rfl (by kernel_rfl) (by decide) (fun K hK => ?_)
 have hz15 := World.grownBy.cell HG15.out (show World.cell? (World.drew W) _ = _ from hz1) neo
 have hfz15 : w15.frozen? ⟨go, i * 3 + 1, none⟩ = false := (World.frozen?_of_block (HG15.out.block go HGO.out.2 neo)).trans hfz1
 refine skip_ (w1 := ?_) (by rfl) rfl ?_ ?_
 rotate_left
 ·go_simp
  rfl
 refine hK.out _ _ ?_
 clear hK K
 refine done_ (by kernel_rfl) ?_
 have hM' : k84.M w15 w.heap.size (fun k => oki k ∨ (g4 < k ∧ k ≠ g8) ∧ W.heap.size ≤ k) (⟨x.f0, y, x.f2⟩ : S84) [.string x.f0, .slice A15 y.length c15, .int .i64 x.f2] := k84_mkM _ _ _ (⟨x.f0, y, x.f2⟩ : S84) HO15.out
 have hH15 := Kd.H_grown (Kd.H_widen (Kd.H_drew HH.out)) HG15.out (fun k hk => .inl (HV1.out.1 k hk))
 obtain ⟨hs1, hs2⟩ := Kd.H_seg hH15 (of_eq_true i0) (of_eq_true i1) (seg := [.slice A15 y.length c15]) (j := 1) (show 2 ≤ 3 by decide) (fun q hq => by simp at hq; subst hq; rfl)
 have hS := Kd.H_back hs1 (Kd.M_step hM' (fun k hk hlt => hs2.block k hlt (fun e => by injection e with e; subst e; rcases hk with hk | hk; exact (HOK.out k hk).2 rfl; exact absurd HGO.out.2 (Nat.not_lt.2 hk.2)))) (fun k hk => hk)
 have hE := HE.out
 rw [← HI.out, ← HX.out, ← HY.out] at hE
 injection hE with he1 he2
 injection he2 with he2 he3
 subst he1
 subst he2
 subst he3
 have CB8_ : Aside0 ((w15.setCell ⟨go, i * 3 + 1, none⟩ (.slice A15 y.length c15)).heap[g8]? = some (.cells #[.int .i64 a0_0, .slice (some ⟨go, 0, none⟩) l0_1.length c10] 50 (0, 0))) := ⟨blk_far (blk_grown (w := W.drew) CB8.out HG15.out ne8) ng8 _⟩
 have CB4_ : Aside0 ((w15.setCell ⟨go, i * 3 + 1, none⟩ (.slice A15 y.length c15)).heap[g4]? = some (.cells #[.int .i64 0, .slice none 0 0] 50 (0, 0))) := ⟨blk_far (blk_grown (w := W.drew) CB4.out HG15.out ne4) ng4 _⟩
 have HB_ : Aside0 (Below w.heap.size w (w15.setCell ⟨go, i * 3 + 1, none⟩ (.slice A15 y.length c15))) := ⟨below_set HB15.out HGO.out.1⟩
 have HV : Aside0 (Kd.V k84 84 (w15.setCell ⟨go, i * 3 + 1, none⟩ (.slice A15 y.length c15)) w.heap.size (fun k => g4 < k ∧ k ≠ g8) (.slice (some ⟨go, 0, none⟩) l0_1.length c10) _) := ⟨S_V hS⟩
 clear HB CB2 CB3 CB4 CB8 v20 v21 v30 v31 v32 v33 v40 v41 f40 f41 v80 v81 f80 f81
 generalize w15.setCell ⟨go, i * 3 + 1, none⟩ (.slice A15 y.length c15) = WX at *
 have HB := HB_
 have CB4 := CB4_
 have CB8 := CB8_
 clear HB_ CB4_ CB8_
 have v40 : WX.cell? ⟨g4, 0, none⟩ = some (.int .i64 0) := (blk_cell CB4.out 0).trans rfl
 have v41 : WX.cell? ⟨g4, 1, none⟩ = some (.slice none 0 0) := (blk_cell CB4.out 1).trans rfl
 have f40 := blk_frozen CB4.out 0
 have f41 := blk_frozen CB4.out 1
 have v80 : WX.cell? ⟨g8, 0, none⟩ = some (.int .i64 a0_0) := (blk_cell CB8.out 0).trans rfl
 have v81 : WX.cell? ⟨g8, 1, none⟩ = some (.slice (some ⟨go, 0, none⟩) l0_1.length c10) := (blk_cell CB8.out 1).trans rfl
 have f80 := blk_frozen CB8.out 0
 have f81 := blk_frozen CB8.out 1
 go_wp2
 refine bodyPost_ret (results_ct rfl _ _ g4 50 #[.int .i64 a0_0, .slice (some ⟨go, 0, none⟩) l0_1.length c10] (0, 0) _ rfl (blk_put (cs := #[.int .i64 a0_0, .slice none 0 0]) (blk_put (cs := #[.int .i64 0, .slice none 0 0]) CB4.out 0 _ rfl) 1 _ rfl) Tryd.underlying50 rfl (by kernel_rfl)) rfl ?_
 exact ⟨_, rfl, Kd.V_mono (Kd.V_far (p := ⟨g4, 1, none⟩) (Kd.V_far (p := ⟨g4, 0, none⟩) HV.out (fun k hk => Nat.ne_of_gt hk.1) _) (fun k hk => Nat.ne_of_gt hk.1) _) (fun k hk => Nat.le_of_lt (Nat.lt_of_le_of_lt G4.out hk.1)), below_set (below_set HB.out G4.out) G4.out⟩
set_option maxHeartbeats 4000000 in
set_option maxRecDepth 100000 in
theorem do_app_new (a0_0 : Int) (A0_1 : Option Addr) (c0_1 : Nat) (l0_1 : List S84) (a1_0 : Int) (a1_1 : ByteArray) (a1_2 : ByteArray) (A1_3 : Option Addr) (c1_3 : Nat) (l1_3 : List Int) (r1 : Int) (r2 : List S84) (r3 : Int) (w : World) (hr0_1 : Kd.C k84 w A0_1 l0_1.length l0_1) (hc0_1 : l0_1.length ≤ c0_1) (hr1_3 : Kd.C (Kd.int .u8) w A1_3 l1_3.length l1_3) (hc1_3 : l1_3.length ≤ c1_3) (hs : SmallD l0_1) (hf : FormedR a0_0 l0_1) (hn : nmd a1_1) (hm : l1_3.length ≤ 140737488351232) (hfo : foundS l0_1 a1_1 = false) (hk : a1_0 = 1) (hl : l0_1.length ≠ 256) (hsp : totS l0_1 + (l1_3.length : Int) ≤ a0_0) (he : (a0_0, putAt l0_1 (idxS l0_1 a1_1) ⟨a1_1, l1_3, 0⟩, 0) = (r1, r2, r3)) :
  Calls Tryd.prog 29 #[.agg #[.int .i64 a0_0, .slice A0_1 l0_1.length c0_1], .agg #[.int .i64 a1_0, .string a1_1, .string a1_2, .slice A1_3 l1_3.length c1_3]] w fun e w' => ∃ v1_ : Value, e = .returned (.tuple #[.agg #[.int .i64 r1, v1_], .int .i64 r3]) ∧ Kd.V k84 84 w' w.heap.size (fun k_ => w.heap.size ≤ k_) v1_ r2 ∧ Below w.heap.size w w' := by
 have HR := Aside0.mk hr0_1
 have HC := Aside0.mk hc0_1
 have HR3 := Aside0.mk hr1_3
 have HC3 := Aside0.mk hc1_3
 have HB := Aside0.mk (Below.refl w.heap.size w)
 clear hr0_1 hc0_1 hr1_3 hc1_3
 have hu24 := Tryd.underlying50
 have hu27 := Tryd.underlying60
 have hu61 := Tryd.underlying84
 obtain ⟨i, hi⟩ : ∃ i, i = idxS l0_1 a1_1 := ⟨_, rfl⟩
 have hl1 : decide ((l0_1.length : Int) = 256) = false := decide_eq_false (by omega)
 have hl2 : ((l0_1.length : Int) == 256) = false := by simp; omega
 have hgt : decide (a0_0 < totS l0_1 + (l1_3.length : Int)) = false := decide_eq_false (by omega)
 have HSP := Aside0.mk hsp
 clear hsp
 clear hl
 have hk1 : decide (a1_0 < 1) = false := decide_eq_false (by omega)
 have hk4 : decide (4 < a1_0) = false := decide_eq_false (by omega)
 have hq1 : decide (a1_0 = 1) = true := decide_eq_true (by omega)
 have hq1b : (a1_0 == 1) = true := by simp; omega
 have hq2 : decide (a1_0 = 2) = false := decide_eq_false (by omega)
 have hq2b : (a1_0 == 2) = false := by simp; omega
 have hq3 : decide (a1_0 = 3) = false := decide_eq_false (by omega)
 have hq3b : (a1_0 == 3) = false := by simp; omega
 have hq4 : decide (a1_0 = 4) = false := decide_eq_false (by omega)
 have hq4b : (a1_0 == 4) = false := by simp; omega
 have hne1 : decide (a1_0 ≠ 1) = false := decide_eq_false (by omega)
 have hne1b : (a1_0 != 1) = false := by simp; omega
 have HFI := Aside0.mk (show store_find.f l0_1 a1_1 = some ((i : Int), false) by unfold store_find.f; rw [if_pos ⟨by have := hf.2.2.2.1; omega, formed_srt hf⟩, hfo, hi])
 have HF := Aside0.mk (show store_Formed.f (3 * l0_1.length + 3) a0_0 l0_1 = some true by rw [formed_plain a0_0 l0_1 hs.small, decide_eq_true hf])
 have HN := Aside0.mk (show store_named.f a1_1 = some true by rw [named_nmd, decide_eq_true hn])
 have HTW := Aside0.mk (show store_twin.f a0_0 l0_1 = some (a0_0, l0_1) by unfold store_twin.f; rw [if_pos ⟨by have := hf.2.2.2.1; omega, fun x hx => by have := hs.2 x hx; omega⟩])
 have HU := Aside0.mk (show store_used.f (l0_1.length + 1) a0_0 l0_1 = some (totS l0_1) by rw [used_plain a0_0 l0_1 hs.small ⟨hf.2.1, hf.2.2.1⟩, if_pos hf.2.2.2.2])
 have hwu : IntKind.i64.wrap (totS l0_1 + (l1_3.length : Int)) = totS l0_1 + (l1_3.length : Int) := by have := tot_nonneg l0_1; have := hf.2.2.1; have := hf.2.2.2.2; rw [IntKind.wrap_i64]; omega
 clear hk
 have HS0 := Aside0.mk hs
 have HFO := Aside0.mk hfo
 have HFM := Aside0.mk hf
 have HE := Aside0.mk he
 have HI := Aside0.mk hi
 have HM := Aside0.mk hm
 clear hs hf hn hm hfo he hi
 go_enter Tryd.func29, Tryd.ntmps29
 go_upto_region 11 with (first
  | ((with_reducible refine gate_dst (N := 2) rfl ?_); refine box_event ?hg (N := 2) ?hd (cs := #[.int .i64 a0_0, .slice A0_1 l0_1.length c0_1]) (t := 50) ?hr ?_; (case hd => rfl); (case hg => rfl); (case hr => first | (go_simp; done) | (go_simp; rfl)); intro g2 hg2 w2 hbox hb; have HB2 := Aside0.mk (below_step HB.out hb); have CB2 := Aside0.mk hbox; have G2 := Aside0.mk (show w.heap.size ≤ g2 by rw [hg2]; exact below_size HB.out); clear hb hbox hg2 HB; have HB := HB2; clear HB2)
  | ((with_reducible refine gate_dst (N := 3) rfl ?_); refine box_event ?hg (N := 3) ?hd (cs := #[.int .i64 a1_0, .string a1_1, .string a1_2, .slice A1_3 l1_3.length c1_3]) (t := 60) ?hr ?_; (case hd => rfl); (case hg => rfl); (case hr => first | (go_simp; done) | (go_simp; rfl)); intro g3 hg3 w3 hbox hb; have HB3 := Aside0.mk (below_step HB.out hb); have CB3 := Aside0.mk hbox; have G23 := Aside0.mk (show g2 < g3 by rw [hg3]; exact blk_lt CB2.out); have CB2_ := Aside0.mk (blk_below CB2.out hb); clear hb hbox hg3 HB CB2; have HB := HB3; have CB2 := CB2_; clear HB3 CB2_)
  | ((with_reducible refine gate_dst (N := 4) rfl ?_); refine box_event ?hg (N := 4) ?hd (cs := #[.int .i64 0, .slice none 0 0]) (t := 50) ?hr ?_; (case hd => rfl); (case hg => rfl); (case hr => first | (go_simp; done) | (go_simp; rfl)); intro g4 hg4 w4 hbox hb; have HX := Aside0.mk (Rbox.mk (below_step HB.out hb) (blk_below CB2.out hb) (blk_below CB3.out hb) hbox G2.out G23.out (show g3 < g4 by rw [hg4]; exact blk_lt CB3.out)); clear hb hbox hg4 HB CB2 CB3 G2 G23; obtain ⟨v20, v21, v30, v31, v32, v33, v40, v41, f40, f41⟩ := HX.out.vis)
  | (go_at_call 48; (with_reducible refine (store_Formed.calls _ a0_0 A0_1 c0_1 l0_1 true _ (Kd.C_below HR.out HX.out.B) HC.out HF.out).mono ?_); rintro e w5 ⟨rfl, hb⟩; have HX_ := Aside0.mk (HX.out.step hb); clear HX hb v20 v21 v30 v31 v32 v33 v40 v41 f40 f41; have HX := HX_; clear HX_; obtain ⟨v20, v21, v30, v31, v32, v33, v40, v41, f40, f41⟩ := HX.out.vis)
  | (go_at_call 49; (with_reducible refine (store_named.calls a1_1 true _ HN.out).mono ?_); rintro e w6 ⟨rfl, hd⟩; have hb := Drawn0.below hd; clear hd; have HX_ := Aside0.mk (HX.out.step hb); clear HX hb v20 v21 v30 v31 v32 v33 v40 v41 f40 f41; have HX := HX_; clear HX_; obtain ⟨v20, v21, v30, v31, v32, v33, v40, v41, f40, f41⟩ := HX.out.vis)
  | (go_at_call 50; (with_reducible refine (store_find.calls A0_1 c0_1 l0_1 a1_1 _ _ _ (Kd.C_below HR.out HX.out.B) HC.out HFI.out).mono ?_); rintro e w8 ⟨rfl, hb⟩; have HX_ := Aside0.mk (HX.out.step hb); clear HX hb v20 v21 v30 v31 v32 v33 v40 v41 f40 f41; have HX := HX_; clear HX_; obtain ⟨v20, v21, v30, v31, v32, v33, v40, v41, f40, f41⟩ := HX.out.vis))
 have HX_ := Aside0.mk HX.out.drew
 clear HX
 have HX := HX_
 clear HX_
 refine start_ (n := 10) (S := fun w' => w'.cell? ⟨g2, 0, none⟩ = some (.int .i64 a0_0) ∧ w'.cell? ⟨g2, 1, none⟩ = some (.slice A0_1 l0_1.length c0_1) ∧ w'.cell? ⟨g3, 3, none⟩ = some (.slice A1_3 l1_3.length c1_3)) (ds := []) #[false, false, false, false, false, false, false, false, false, false] (by kernel_rfl) rfl rfl ⟨v20, v21, v33⟩ (fun hHeld => ?_)
 refine pure_ (i := 2) (N := some 74) (v := ?_) (a' := ?_) #[false, false, true, false, false, false, false, false, false, false] rfl rfl (by kernel_rfl) (fun _ _ _ h => h) (Or.inl ⟨by rfl, ?_⟩) ?_ ?_
 rotate_left
 ·intro w'
  go_simp
  with_reducible rfl
 rotate_left
 ·simp only [Act.put, List.setIfInBounds_toArray, List.set_cons_zero, List.set_cons_succ, i64_w, i32_w]
  rfl
 refine pure_ (i := 6) (N := some 78) (v := ?_) (a' := ?_) #[false, false, true, false, false, false, true, false, false, false] rfl rfl (by kernel_rfl) (fun _ _ _ h => h) (Or.inl ⟨by rfl, ?_⟩) ?_ ?_
 rotate_left
 ·intro w'
  go_simp
  with_reducible rfl
 rotate_left
 ·simp only [Act.put, List.setIfInBounds_toArray, List.set_cons_zero, List.set_cons_succ, i64_w, i32_w]
  rfl
 refine take_ (i := 0) (N := some 72) (v := ?_) (a' := ?_) #[true, false, true, false, false, false, true, false, false, false] rfl rfl (by kernel_rfl) (fun _ _ _ h => h) (Or.inl ⟨by rfl, ?_⟩) hHeld ?_ ?_
 rotate_left
 ·rintro w' ⟨s0, s1, s2⟩
  go_simp
  with_reducible rfl
 rotate_left
 ·simp only [Act.put, List.setIfInBounds_toArray, List.set_cons_zero, List.set_cons_succ, i64_w, i32_w]
  rfl
 refine take_ (i := 3) (N := some 75) (v := ?_) (a' := ?_) #[true, false, true, true, false, false, true, false, false, false] rfl rfl (by kernel_rfl) (fun _ _ _ h => h) (Or.inl ⟨by rfl, ?_⟩) hHeld ?_ ?_
 rotate_left
 ·rintro w' ⟨s0, s1, s2⟩
  go_simp
  with_reducible rfl
 rotate_left
 ·simp only [Act.put, List.setIfInBounds_toArray, List.set_cons_zero, List.set_cons_succ, i64_w, i32_w]
  rfl
 refine pure_ (i := 4) (N := some 76) (v := ?_) (a' := ?_) #[true, false, true, true, true, false, true, false, false, false] rfl rfl (by kernel_rfl) (fun _ _ _ h => h) (Or.inl ⟨by rfl, ?_⟩) ?_ ?_
 rotate_left
 ·intro w'
  go_simp
  with_reducible rfl
 rotate_left
 ·simp only [Act.put, List.setIfInBounds_toArray, List.set_cons_zero, List.set_cons_succ, i64_w, i32_w]
  rfl
 refine take_ (i := 7) (N := some 79) (v := ?_) (a' := ?_) #[true, false, true, true, true, false, true, true, false, false] rfl rfl (by kernel_rfl) (fun _ _ _ h => h) (Or.inl ⟨by rfl, ?_⟩) hHeld ?_ ?_
 rotate_left
 ·rintro w' ⟨s0, s1, s2⟩
  go_simp
  with_reducible rfl
 rotate_left
 ·simp only [Act.put, List.setIfInBounds_toArray, List.set_cons_zero, List.set_cons_succ, i64_w, i32_w]
  rfl
 refine one_ (i := 1) (N := some 73) #[true, true, true, true, true, false, true, true, false, false] rfl rfl (by kernel_rfl) (by decide) (fun K hK => ?_)
 refine goes_ Tryd.func51 (by kernel_rfl) rfl #[.agg #[.int .i64 a0_0, .slice A0_1 l0_1.length c0_1]] (by rfl) rfl rfl (by simp only [List.map_toArray, List.map_cons, List.map_nil]; rfl) ?_
 with_reducible refine (store_used.calls _ a0_0 A0_1 c0_1 l0_1 (totS l0_1) _ (Kd.C_below HR.out HX.out.B) HC.out HU.out).mono ?_
 rintro e w9 ⟨rfl, hb⟩
 refine ⟨_, rfl, ?_⟩
 have HB9 := Aside0.mk hb
 clear hb
 refine hK.out _ _ ⟨(pw_cell_below HB9.out v20), (pw_cell_below HB9.out v21), (pw_cell_below HB9.out v33)⟩ (fun hHeld => ?_)
 clear hK K
 refine norm_ (a' := ?_) ?_ ?_
 rotate_left
 ·show Act.put _ (some 73) _ = _
  simp only [Act.put, List.setIfInBounds_toArray, List.set_cons_zero, List.set_cons_succ, i64_w, i32_w]
  rfl
 refine pure_ (i := 5) (N := some 77) (v := ?_) (a' := ?_) #[true, true, true, true, true, true, true, true, false, false] rfl rfl (by kernel_rfl) (fun _ _ _ h => h) (Or.inl ⟨by rfl, ?_⟩) ?_ ?_
 rotate_left
 ·intro w'
  go_simp
  with_reducible rfl
 rotate_left
 ·simp only [Act.put, List.setIfInBounds_toArray, List.set_cons_zero, List.set_cons_succ, i64_w, i32_w]
  rfl
 refine pure_ (i := 8) (N := some 80) (v := ?_) (a' := ?_) #[true, true, true, true, true, true, true, true, true, false] rfl rfl (by kernel_rfl) (fun _ _ _ h => h) (Or.inl ⟨by rfl, ?_⟩) ?_ ?_
 rotate_left
 ·intro w'
  go_simp
  with_reducible rfl
 rotate_left
 ·simp only [Act.put, List.setIfInBounds_toArray, List.set_cons_zero, List.set_cons_succ, i64_w, i32_w]
  rfl
 refine pure_ (i := 9) (N := some 71) (v := ?_) (a' := ?_) #[true, true, true, true, true, true, true, true, true, true] rfl rfl (by kernel_rfl) (fun _ _ _ h => h) (Or.inl ⟨by rfl, ?_⟩) ?_ ?_
 rotate_left
 ·intro w'
  go_simp
  with_reducible rfl
 rotate_left
 ·simp only [Act.put, List.setIfInBounds_toArray, List.set_cons_zero, List.set_cons_succ, i64_w, i32_w]
  rfl
 refine done_ (by kernel_rfl) ?_
 have hb := HB9.out
 clear HB9
 have HX_ := Aside0.mk (HX.out.step hb)
 clear HX hb v20 v21 v30 v31 v32 v33 v40 v41 f40 f41
 have HX := HX_
 clear HX_
 obtain ⟨v20, v21, v30, v31, v32, v33, v40, v41, f40, f41⟩ := HX.out.vis
 go_upto_region 14 with (first
  | (go_at_call 52; (with_reducible refine (store_twin.calls a0_0 A0_1 c0_1 l0_1 a0_0 l0_1 _ (Kd.C_below HR.out HX.out.B) HC.out HTW.out).mono ?_); rintro e w10 ⟨v10, rfl, hS, hb⟩; obtain ⟨A10, c10, rfl⟩ := Kd.S_slice hS; have hg4_ := blk_lt HX.out.c4; have HS := Aside0.mk (Kd.S_mono (Kd.S_bound (Kd.S_lower (Kd.S_mono (Kd.S_bound hS) (ok' := fun k => g4 < k) (fun k hk => by have := hk.2.1; omega)) HX.out.B.size)) (ok' := fun k => g4 < k ∧ k < w10.heap.size) (fun k hk => ⟨hk.1, hk.2.2.1⟩)); clear hS hg4_; have HX_ := Aside0.mk (HX.out.step hb); clear HX hb v20 v21 v30 v31 v32 v33 v40 v41 f40 f41; have HX := HX_; clear HX_; obtain ⟨v20, v21, v30, v31, v32, v33, v40, v41, f40, f41⟩ := HX.out.vis)
  | ((with_reducible refine gate_dst (N := 8) rfl ?_); refine box_event ?hg (N := 8) ?hd (cs := #[.int .i64 0, .slice none 0 0]) (t := 50) ?hr ?_; (case hd => rfl); (case hg => rfl); (case hr => first | (go_simp; done) | (go_simp; rfl)); intro g8 hg8 w11 hbox hb; have CB8 := Aside0.mk hbox; have G48 := Aside0.mk (show g4 < g8 by rw [hg8]; exact blk_lt HX.out.c4); have HS_ := Aside0.mk (Kd.S_mono (Kd.S_below HS.out hb) (ok' := fun k => g4 < k ∧ k ≠ g8) (fun k hk => ⟨hk.1, by have := hk.2; omega⟩)); clear HS; have HS := HS_; clear HS_; clear hbox hg8; have hn2 : g2 ≠ g8 := (by have := HX.out.l3; have := HX.out.l4; have := G48.out; omega); have hn3 : g3 ≠ g8 := (by have := HX.out.l4; have := G48.out; omega); have hn4 : g4 ≠ g8 := (by have := G48.out; omega); have hm2 := Ne.symm hn2; have hm3 := Ne.symm hn3; have hm4 := Ne.symm hn4; have HX_ := Aside0.mk (HX.out.step hb); clear HX hb v20 v21 v30 v31 v32 v33 v40 v41 f40 f41; have HX := HX_; clear HX_; obtain ⟨v20, v21, v30, v31, v32, v33, v40, v41, f40, f41⟩ := HX.out.vis; have v80 : w11.cell? ⟨g8, 0, none⟩ = some (.int .i64 0) := (blk_cell CB8.out 0).trans rfl; have v81 : w11.cell? ⟨g8, 1, none⟩ = some (.slice none 0 0) := (blk_cell CB8.out 1).trans rfl; have f80 := blk_frozen CB8.out 0; have f81 := blk_frozen CB8.out 1))
 have HB := Aside0.mk HX.out.B
 have CB2 := Aside0.mk HX.out.c2
 have CB3 := Aside0.mk HX.out.c3
 have CB4 := Aside0.mk HX.out.c4
 have G4 := Aside0.mk HX.out.l
 have G23 := Aside0.mk HX.out.l3
 have G34 := Aside0.mk HX.out.l4
 clear HX
 have CB8_ := Aside0.mk (blk_put (cs' := #[.int .i64 a0_0, .slice A10 l0_1.length c10]) (blk_put (cs' := #[.int .i64 a0_0, .slice none 0 0]) CB8.out 0 (.int .i64 a0_0) rfl) 1 (.slice A10 l0_1.length c10) rfl)
 have CB2_ := Aside0.mk (blk_far (p := ⟨g8, 1, none⟩) (blk_far (p := ⟨g8, 0, none⟩) CB2.out hn2 (.int .i64 a0_0)) hn2 (.slice A10 l0_1.length c10))
 have CB3_ := Aside0.mk (blk_far (p := ⟨g8, 1, none⟩) (blk_far (p := ⟨g8, 0, none⟩) CB3.out hn3 (.int .i64 a0_0)) hn3 (.slice A10 l0_1.length c10))
 have CB4_ := Aside0.mk (blk_far (p := ⟨g8, 1, none⟩) (blk_far (p := ⟨g8, 0, none⟩) CB4.out hn4 (.int .i64 a0_0)) hn4 (.slice A10 l0_1.length c10))
 have HS_ := Aside0.mk (Kd.S_far (p := ⟨g8, 1, none⟩) (Kd.S_far (p := ⟨g8, 0, none⟩) HS.out (fun k hk => hk.2) (.int .i64 a0_0)) (fun k hk => hk.2) (.slice A10 l0_1.length c10))
 have G8 := Aside0.mk (show w.heap.size ≤ g8 by have := G4.out; have := G48.out; omega)
 have HB_ := Aside0.mk (below_set (j := 1) (v := .slice A10 l0_1.length c10) (below_set (j := 0) (v := .int .i64 a0_0) HB.out G8.out) G8.out)
 clear HB CB2 CB3 CB4 CB8 HS v20 v21 v30 v31 v32 v33 v40 v41 f40 f41 v80 v81 f80 f81
 generalize (w11.setCell ⟨g8, 0, none⟩ (.int .i64 a0_0)).setCell ⟨g8, 1, none⟩ (.slice A10 l0_1.length c10) = W at *
 have HB := HB_
 have CB2 := CB2_
 have CB3 := CB3_
 have CB4 := CB4_
 have CB8 := CB8_
 have HS := HS_
 clear HB_ CB2_ CB3_ CB4_ CB8_ HS_
 have v20 : W.cell? ⟨g2, 0, none⟩ = some (.int .i64 a0_0) := (blk_cell CB2.out 0).trans rfl
 have v21 : W.cell? ⟨g2, 1, none⟩ = some (.slice A0_1 l0_1.length c0_1) := (blk_cell CB2.out 1).trans rfl
 have v30 : W.cell? ⟨g3, 0, none⟩ = some (.int .i64 a1_0) := (blk_cell CB3.out 0).trans rfl
 have v31 : W.cell? ⟨g3, 1, none⟩ = some (.string a1_1) := (blk_cell CB3.out 1).trans rfl
 have v32 : W.cell? ⟨g3, 2, none⟩ = some (.string a1_2) := (blk_cell CB3.out 2).trans rfl
 have v33 : W.cell? ⟨g3, 3, none⟩ = some (.slice A1_3 l1_3.length c1_3) := (blk_cell CB3.out 3).trans rfl
 have v40 : W.cell? ⟨g4, 0, none⟩ = some (.int .i64 0) := (blk_cell CB4.out 0).trans rfl
 have v41 : W.cell? ⟨g4, 1, none⟩ = some (.slice none 0 0) := (blk_cell CB4.out 1).trans rfl
 have f40 := blk_frozen CB4.out 0
 have f41 := blk_frozen CB4.out 1
 have v80 : W.cell? ⟨g8, 0, none⟩ = some (.int .i64 a0_0) := (blk_cell CB8.out 0).trans rfl
 have v81 : W.cell? ⟨g8, 1, none⟩ = some (.slice A10 l0_1.length c10) := (blk_cell CB8.out 1).trans rfl
 have f80 := blk_frozen CB8.out 0
 have f81 := blk_frozen CB8.out 1
 have hfo := HFO.out
 have hf := HFM.out
 have hi := HI.out
 have hn256 : l0_1.length ≤ 256 := hf.2.2.2.1
 have hil : i ≤ l0_1.length := by rw [hi]; exact List.findIdx_le_length
 have HPI := Aside0.mk (put_at l0_1 i (⟨a1_1, [], 0⟩ : S84) z84 hil)
 obtain ⟨L, hL⟩ : ∃ L, L = putAt l0_1 i (⟨a1_1, [], 0⟩ : S84) := ⟨_, rfl⟩
 have HLL := Aside0.mk hL
 have hLl : L.length = l0_1.length + 1 := by rw [hL, putAt, List.length_append, List.length_cons, List.length_take, List.length_drop]; omega
 have HLN := Aside0.mk hLl
 have HIL := Aside0.mk hil
 have HL := Aside0.mk (show l0_1.length < 1048576 by omega)
 have HNI := Aside0.mk (Kd.N_alloc (Kd.S_N HS.out) (.cells #[.string a1_1, .slice none 0 0, .int .i64 0] 84 (0, 0)))
 have HVBn := Aside0.mk (show some W.heap.size ≠ (Value.slice A10 l0_1.length c10).ownBlock from fun e => Nat.lt_irrefl _ (Kd.S_lt HS.out _ e.symm))
 have HFK := Aside0.mk (show Kd.FK k84 (W.alloc (.cells #[.string a1_1, .slice none 0 0, .int .i64 0] 84 (0, 0))) (fun _ => False) (⟨a1_1, [], 0⟩ : S84) [.string a1_1, .slice none ([] : List Int).length 0, .int .i64 0] from fun W' _ => k84_mk W' (⟨a1_1, [], 0⟩ : S84) (Nat.zero_le _) (Kd.C_nil (Kd.int .u8) W'))
 have BNW := Aside0.mk (blk_new W (.cells #[.string a1_1, .slice none 0 0, .int .i64 0] 84 (0, 0)))
 have HBA := Aside0.mk (below_alloc HB.out (.cells #[.string a1_1, .slice none 0 0, .int .i64 0] 84 (0, 0)))
 have CA4 := Aside0.mk (blk_alloc CB4.out (.cells #[.string a1_1, .slice none 0 0, .int .i64 0] 84 (0, 0)))
 have CA3 := Aside0.mk (blk_alloc CB3.out (.cells #[.string a1_1, .slice none 0 0, .int .i64 0] 84 (0, 0)))
 have CA8 := Aside0.mk (blk_alloc CB8.out (.cells #[.string a1_1, .slice none 0 0, .int .i64 0] 84 (0, 0)))
 have NS4 := Aside0.mk (Kd.S_ne HS.out CB4.out (by decide))
 have NS3 := Aside0.mk (Kd.S_ne HS.out CB3.out (by decide))
 have NS8 := Aside0.mk (Kd.S_ne HS.out CB8.out (by decide))
 have HSB := Aside0.mk (Kd.S_base HS.out)
 clear hL hLl hil hn256 hfo hf hi
 go_wp2_with (first
  | (go_at_call 53; (refine (insert_N2 w.heap.size i W.heap.size l0_1 (⟨a1_1, [], 0⟩ : S84) none 0 (W.alloc (.cells #[.string a1_1, .slice none 0 0, .int .i64 0] 84 (0, 0))) (.slice A10 l0_1.length c10) HNI.out HBA.out.size BNW.out HVBn.out HFK.out (fun _ h => h.elim) (fun k hk => ⟨Nat.lt_of_lt_of_le (blk_lt CA4.out) hk, fun e => absurd (blk_lt CA8.out) (Nat.not_lt.2 (e ▸ hk))⟩) HIL.out HL.out).mono ?_); rintro e w14 ⟨go, c14, rfl, hN, hg, hat, hz⟩; have hLL := HLL.out; unfold putAt at hLL; rw [← hLL] at hN; have HN14 := Aside0.mk hN; have HZ14 := Aside0.mk hz; have HB_ := Aside0.mk (HBA.out.grown hg HBA.out.size (fun k hk => HSB.out k hk)); have CB3_ := Aside0.mk (blk_grown CA3.out hg NS3.out); have CB4_ := Aside0.mk (blk_grown CA4.out hg NS4.out); have CB8_ := Aside0.mk (blk_grown CA8.out hg NS8.out); clear HB hN hz hg hat v20 v21 v30 v31 v32 v33 v40 v41 f40 f41 v80 v81 f80 f81 CB2 CB3 CB4 CB8; have HB := HB_; have CB3 := CB3_; have CB4 := CB4_; have CB8 := CB8_; clear HB_ CB3_ CB4_ CB8_; rw [← hLL]; clear hLL; have v30 : w14.cell? ⟨g3, 0, none⟩ = some (.int .i64 a1_0) := (blk_cell CB3.out 0).trans rfl; have v33 : w14.cell? ⟨g3, 3, none⟩ = some (.slice A1_3 l1_3.length c1_3) := (blk_cell CB3.out 3).trans rfl; have v80 : w14.cell? ⟨g8, 0, none⟩ = some (.int .i64 a0_0) := (blk_cell CB8.out 0).trans rfl; have v81 : w14.cell? ⟨g8, 1, none⟩ = some (.slice A10 l0_1.length c10) := (blk_cell CB8.out 1).trans rfl; have f80 := blk_frozen CB8.out 0; have f81 := blk_frozen CB8.out 1))
 have ng3 : g3 ≠ go := fun e => Kd.N_ne HN14.out CB3.out (by decide) (by simp [Value.ownBlock, e])
 have ng4 : g4 ≠ go := fun e => Kd.N_ne HN14.out CB4.out (by decide) (by simp [Value.ownBlock, e])
 have ng8 : g8 ≠ go := fun e => Kd.N_ne HN14.out CB8.out (by decide) (by simp [Value.ownBlock, e])
 have HN_ := Aside0.mk (Kd.N_far (p := ⟨g8, 1, none⟩) HN14.out (fun k hk => hk.2) (.slice (some ⟨go, 0, none⟩) L.length c14))
 have CB8_ := Aside0.mk (blk_put (cs' := #[.int .i64 a0_0, .slice (some ⟨go, 0, none⟩) L.length c14]) CB8.out 1 (.slice (some ⟨go, 0, none⟩) L.length c14) rfl)
 have CB3_ := Aside0.mk (blk_far (p := ⟨g8, 1, none⟩) CB3.out hn3 (.slice (some ⟨go, 0, none⟩) L.length c14))
 have CB4_ := Aside0.mk (blk_far (p := ⟨g8, 1, none⟩) CB4.out hn4 (.slice (some ⟨go, 0, none⟩) L.length c14))
 have HB_ := Aside0.mk (below_set (j := 1) (v := .slice (some ⟨go, 0, none⟩) L.length c14) HB.out G8.out)
 have HZ_ := Aside0.mk ((Below.heap_setCell w14 ⟨g8, 1, none⟩ (.slice (some ⟨go, 0, none⟩) L.length c14) go (Ne.symm ng8)))
 have hzz := (World.cell?_of_block (a := ⟨go, i * 3 + 1, none⟩) HZ_.out).trans HZ14.out
 clear HB CB3 CB4 CB8 HZ_ HN14 HZ14 v30 v33 v80 v81 f80 f81
 generalize w14.setCell ⟨g8, 1, none⟩ (.slice (some ⟨go, 0, none⟩) L.length c14) = W2 at *
 have HB := HB_
 have CB3 := CB3_
 have CB4 := CB4_
 have CB8 := CB8_
 have HN2 := HN_
 clear HB_ CB3_ CB4_ CB8_ HN_
 have v33 : W2.cell? ⟨g3, 3, none⟩ = some (.slice A1_3 l1_3.length c1_3) := (blk_cell CB3.out 3).trans rfl
 have v81 : W2.cell? ⟨g8, 1, none⟩ = some (.slice (some ⟨go, 0, none⟩) L.length c14) := (blk_cell CB8.out 1).trans rfl
 have hLn := HLN.out
 have hil := HIL.out
 obtain ⟨c, hcl, hM, hcc, hfr⟩ := Kd.N_elem HN2.out z84 (i : Int) (by omega) (by omega)
 rw [Int.toNat_natCast, show L.getD i z84 = (⟨a1_1, [], 0⟩ : S84) by rw [HLL.out]; exact HPI.out] at hM
 obtain ⟨A1, c1, rfl, hl1, hF1⟩ := k84_openF hM
 have hfz1 : W2.frozen? ⟨go, i * 3 + 1, none⟩ = false := hfr 1
 have HCC := Aside0.mk hcc
 have HGOL := Aside0.mk (World.block_lt_of_cell? W2 _ hzz)
 have HGB := Aside0.mk (Kd.N_base HN2.out go rfl)
 have i0 := eq_true (show (0 : Int) ≤ (i : Int) by omega)
 have i1 := eq_true (show (i : Int) < (L.length : Int) by omega)
 clear hcl hM hcc hfr hl1 hF1 hLn hil
 have HRD := Aside0.mk (Kd.C_drew (Kd.C_below HR3.out HB.out))
 have HBd := Aside0.mk (below_drew1 HB.out)
 have HNL := Aside0.mk (Kd.R_nil (Kd.int .u8) 5 W2.drew w.heap.size (fun k => W2.heap.size ≤ k))
 have HLX := Aside0.mk (show (([] : List Int).length + l1_3.length) * 1 ≤ 140737488355328 by have := HM.out; simp; omega)
 refine start_ (n := 15) (S := fun w' => w'.cell? ⟨g8, 1, none⟩ = some (.slice (some ⟨go, 0, none⟩) L.length c14) ∧ w'.cell? ⟨go, i * 3 + 1, none⟩ = some (.slice none 0 0) ∧ w'.cell? ⟨g3, 3, none⟩ = some (.slice A1_3 l1_3.length c1_3)) (ds := [14]) #[false, false, false, false, false, false, false, false, false, false, false, false, false, false, false] (by kernel_rfl) rfl rfl ⟨v81, hzz, v33⟩ (fun hHeld => ?_)
 refine pure_ (i := 0) (N := some 99) (v := ?_) (a' := ?_) #[true, false, false, false, false, false, false, false, false, false, false, false, false, false, false] rfl rfl (by kernel_rfl) (fun _ _ _ h => h) (Or.inl ⟨by rfl, ?_⟩) ?_ ?_
 rotate_left
 ·intro w'
  go_simp
  with_reducible rfl
 rotate_left
 ·simp only [Act.put, List.setIfInBounds_toArray, List.set_cons_zero, List.set_cons_succ, i64_w, i32_w]
  rfl
 refine pure_ (i := 2) (N := some 101) (v := ?_) (a' := ?_) #[true, false, true, false, false, false, false, false, false, false, false, false, false, false, false] rfl rfl (by kernel_rfl) (fun _ _ _ h => h) (Or.inl ⟨by rfl, ?_⟩) ?_ ?_
 rotate_left
 ·intro w'
  go_simp
  with_reducible rfl
 rotate_left
 ·simp only [Act.put, List.setIfInBounds_toArray, List.set_cons_zero, List.set_cons_succ, i64_w, i32_w]
  rfl
 refine pure_ (i := 3) (N := some 102) (v := ?_) (a' := ?_) #[true, false, true, true, false, false, false, false, false, false, false, false, false, false, false] rfl rfl (by kernel_rfl) (fun _ _ _ h => h) (Or.inl ⟨by rfl, ?_⟩) ?_ ?_
 rotate_left
 ·intro w'
  go_simp
  with_reducible rfl
 rotate_left
 ·simp only [Act.put, List.setIfInBounds_toArray, List.set_cons_zero, List.set_cons_succ, i64_w, i32_w]
  rfl
 refine pure_ (i := 5) (N := some 104) (v := ?_) (a' := ?_) #[true, false, true, true, false, true, false, false, false, false, false, false, false, false, false] rfl rfl (by kernel_rfl) (fun _ _ _ h => h) (Or.inl ⟨by rfl, ?_⟩) ?_ ?_
 rotate_left
 ·intro w'
  go_simp
  with_reducible rfl
 rotate_left
 ·simp only [Act.put, List.setIfInBounds_toArray, List.set_cons_zero, List.set_cons_succ, i64_w, i32_w]
  rfl
 refine pure_ (i := 9) (N := some 108) (v := ?_) (a' := ?_) #[true, false, true, true, false, true, false, false, false, true, false, false, false, false, false] rfl rfl (by kernel_rfl) (fun _ _ _ h => h) (Or.inl ⟨by rfl, ?_⟩) ?_ ?_
 rotate_left
 ·intro w'
  go_simp
  with_reducible rfl
 rotate_left
 ·simp only [Act.put, List.setIfInBounds_toArray, List.set_cons_zero, List.set_cons_succ, i64_w, i32_w]
  rfl
 refine take_ (i := 1) (N := some 100) (v := ?_) (a' := ?_) #[true, true, true, true, false, true, false, false, false, true, false, false, false, false, false] rfl rfl (by kernel_rfl) (fun _ _ _ h => h) (Or.inl ⟨by rfl, ?_⟩) hHeld ?_ ?_
 rotate_left
 ·rintro w' ⟨s0, s1, s2⟩
  go_simp
  with_reducible rfl
 rotate_left
 ·simp only [Act.put, List.setIfInBounds_toArray, List.set_cons_zero, List.set_cons_succ, i64_w, i32_w]
  rfl
 refine take_ (i := 4) (N := some 103) (v := ?_) (a' := ?_) #[true, true, true, true, true, true, false, false, false, true, false, false, false, false, false] rfl rfl (by kernel_rfl) (fun _ _ _ h => h) (Or.inl ⟨by rfl, ?_⟩) hHeld ?_ ?_
 rotate_left
 ·rintro w' ⟨s0, s1, s2⟩
  go_simp
  with_reducible rfl
 rotate_left
 ·simp only [Act.put, List.setIfInBounds_toArray, List.set_cons_zero, List.set_cons_succ, i64_w, i32_w]
  rfl
 refine pure_ (i := 6) (N := some 105) (v := ?_) (a' := ?_) #[true, true, true, true, true, true, true, false, false, true, false, false, false, false, false] rfl rfl (by kernel_rfl) (fun _ _ _ h => h) (Or.inl ⟨by rfl, ?_⟩) ?_ ?_
 rotate_left
 ·intro w'
  go_simp
  with_reducible rfl
 rotate_left
 ·simp only [Act.put, List.setIfInBounds_toArray, List.set_cons_zero, List.set_cons_succ, i64_w, i32_w]
  rfl
 refine pure_ (i := 7) (N := some 106) (v := ?_) (a' := ?_) #[true, true, true, true, true, true, true, true, false, true, false, false, false, false, false] rfl rfl (by kernel_rfl) (fun _ _ _ h => h) (Or.inl ⟨by rfl, ?_⟩) ?_ ?_
 rotate_left
 ·intro w'
  go_simp
  with_reducible rfl
 rotate_left
 ·simp only [Act.put, List.setIfInBounds_toArray, List.set_cons_zero, List.set_cons_succ, i64_w, i32_w]
  rfl
 refine take_ (i := 8) (N := some 107) (v := ?_) (a' := ?_) #[true, true, true, true, true, true, true, true, true, true, false, false, false, false, false] rfl rfl (by kernel_rfl) (fun _ _ _ h => h) (Or.inl ⟨by rfl, ?_⟩) hHeld ?_ ?_
 rotate_left
 ·rintro w' ⟨s0, s1, s2⟩
  go_simp
  with_reducible rfl
 rotate_left
 ·simp only [Act.put, List.setIfInBounds_toArray, List.set_cons_zero, List.set_cons_succ, i64_w, i32_w]
  rfl
 refine take_ (i := 10) (N := some 109) (v := ?_) (a' := ?_) #[true, true, true, true, true, true, true, true, true, true, true, false, false, false, false] rfl rfl (by kernel_rfl) (fun _ _ _ h => h) (Or.inl ⟨by rfl, ?_⟩) hHeld ?_ ?_
 rotate_left
 ·rintro w' ⟨s0, s1, s2⟩
  go_simp
  with_reducible rfl
 rotate_left
 ·simp only [Act.put, List.setIfInBounds_toArray, List.set_cons_zero, List.set_cons_succ, i64_w, i32_w]
  rfl
 refine one_ (i := 11) (N := some 110) #[true, true, true, true, true, true, true, true, true, true, true, true, false, false, false] rfl rfl (by kernel_rfl) (by decide) (fun K hK => ?_)
 refine Kd.R_append_rows_step (Kd.int .u8) (w0 := w) w.heap.size (by rfl) (.tmp 107) (.tmp 109) 22 5 (.int .u8 0) 1 rfl Tryd.underlying22 info5 rfl (by decide) (by omega) (.slice none 0 0) ([] : List Int) l1_3 A1_3 l1_3.length c1_3 (fun k => W2.heap.size ≤ k) (fun _ => False) rfl rfl HNL.out HRD.out (fun _ _ h => h) (fun _ h => h.elim) (fun k hk => hk) HBd.out HBd.out.size HLX.out ?_
 intro v15 w15 ho hb hg hat
 rw [List.nil_append] at ho
 obtain ⟨A15, c15, rfl⟩ := Kd.R_slice ho
 have HO15 := Aside0.mk ho
 have HB15 := Aside0.mk hb
 have HG15 := Aside0.mk hg
 clear ho hb hg hat
 refine hK.out _ _ ⟨(World.grownBy.cell HG15.out (show World.cell? (World.drew W2) _ = _ from v81) (by simp [Value.ownBlock])), (World.grownBy.cell HG15.out (show World.cell? (World.drew W2) _ = _ from hzz) (by simp [Value.ownBlock])), (World.grownBy.cell HG15.out (show World.cell? (World.drew W2) _ = _ from v33) (by simp [Value.ownBlock]))⟩ (fun hHeld => ?_)
 clear hK K
 refine norm_ (a' := ?_) ?_ ?_
 rotate_left
 ·show Act.put _ (some 110) _ = _
  simp only [Act.put, List.setIfInBounds_toArray, List.set_cons_zero, List.set_cons_succ, i64_w, i32_w]
  rfl
 refine pure_ (i := 12) (N := some 111) (v := ?_) (a' := ?_) #[true, true, true, true, true, true, true, true, true, true, true, true, true, false, false] rfl rfl (by kernel_rfl) (fun _ _ _ h => h) (Or.inl ⟨by rfl, ?_⟩) ?_ ?_
 rotate_left
 ·intro w'
  go_simp
  with_reducible rfl
 rotate_left
 ·simp only [Act.put, List.setIfInBounds_toArray, List.set_cons_zero, List.set_cons_succ, i64_w, i32_w]
  rfl
 refine pure_ (i := 13) (N := some 112) (v := ?_) (a' := ?_) #[true, true, true, true, true, true, true, true, true, true, true, true, true, true, false] rfl rfl (by kernel_rfl) (fun _ _ _ h => h) (Or.inl ⟨by rfl, ?_⟩) ?_ ?_
 rotate_left
 ·intro w'
  go_simp
  with_reducible rfl
 rotate_left
 ·simp only [Act.put, List.setIfInBounds_toArray, List.set_cons_zero, List.set_cons_succ, i64_w, i32_w]
  rfl
 refine last_ (i := 14) (N := none) #[true, true, true, true, true, true, true, true, true, true, true, true, true, true, true] rfl rfl (by kernel_rfl) (by decide) (fun K hK => ?_)
 have hz15 := World.grownBy.cell HG15.out (show World.cell? (World.drew W2) _ = _ from hzz) (by simp [Value.ownBlock])
 have hfz15 : w15.frozen? ⟨go, i * 3 + 1, none⟩ = false := (World.frozen?_of_block (HG15.out.block go HGOL.out (by simp [Value.ownBlock]))).trans hfz1
 refine skip_ (w1 := ?_) (by rfl) rfl ?_ ?_
 rotate_left
 ·go_simp
  rfl
 refine hK.out _ _ ?_
 clear hK K
 refine done_ (by kernel_rfl) ?_
 have hgn : ∀ k, some k ≠ (Value.slice none 0 0).ownBlock := fun k => by simp [Value.ownBlock]
 have hN15 := Kd.N_grown (Kd.N_drew HN2.out) HG15.out (fun k _ => hgn k)
 have hcc15 : ∀ j u, [Value.string a1_1, .slice A1 ([] : List Int).length c1, .int .i64 0][j]? = some u → w15.cell? ⟨go, (i : Int).toNat * 3 + j, none⟩ = some u := fun j u hu => World.grownBy.cell HG15.out (show World.cell? (World.drew W2) _ = _ from HCC.out j u hu) (hgn _)
 have hFK : Kd.FK k84 w15 (fun k => W2.heap.size ≤ k) (⟨a1_1, l1_3, 0⟩ : S84) [.string a1_1, .slice A15 l1_3.length c15, .int .i64 0] := Kd.FK_of_M (k84_mkM w15 w.heap.size _ (⟨a1_1, l1_3, 0⟩ : S84) HO15.out)
 obtain ⟨hs1, hs2⟩ := Kd.N_seg hN15 (i : Int) (of_eq_true i0) (of_eq_true i1) (seg := [.slice A15 l1_3.length c15]) (j := 1) (okp := fun k => W2.heap.size ≤ k) (x' := (⟨a1_1, l1_3, 0⟩ : S84)) rfl hcc15 (show 2 ≤ 3 by decide) hFK (fun k hk => ⟨⟨Nat.lt_of_lt_of_le (blk_lt CB4.out) hk, fun e => absurd (blk_lt CB8.out) (Nat.not_lt.2 (e ▸ hk))⟩, fun e => absurd HGOL.out (Nat.not_lt.2 (e ▸ hk))⟩)
 have hset : L.set (i : Int).toNat (⟨a1_1, l1_3, 0⟩ : S84) = putAt l0_1 i ⟨a1_1, l1_3, 0⟩ := by
  rw [HLL.out, Int.toNat_natCast]
  unfold putAt
  have hl : (l0_1.take i).length = i := by rw [List.length_take]; have := HIL.out; omega
  rw [List.set_append_right _ _ (by omega), hl, Nat.sub_self]
  rfl
 rw [hset] at hs1
 have hE := HE.out
 rw [← HI.out] at hE
 injection hE with he1 he2
 injection he2 with he2 he3
 subst he1
 subst he2
 subst he3
 have CB8_ : Aside0 ((w15.setCell ⟨go, i * 3 + 1, none⟩ (.slice A15 l1_3.length c15)).heap[g8]? = some (.cells #[.int .i64 a0_0, .slice (some ⟨go, 0, none⟩) L.length c14] 50 (0, 0))) := ⟨blk_far (blk_grown (w := W2.drew) CB8.out HG15.out (hgn _)) ng8 _⟩
 have CB4_ : Aside0 ((w15.setCell ⟨go, i * 3 + 1, none⟩ (.slice A15 l1_3.length c15)).heap[g4]? = some (.cells #[.int .i64 0, .slice none 0 0] 50 (0, 0))) := ⟨blk_far (blk_grown (w := W2.drew) CB4.out HG15.out (hgn _)) ng4 _⟩
 have HB_ : Aside0 (Below w.heap.size w (w15.setCell ⟨go, i * 3 + 1, none⟩ (.slice A15 l1_3.length c15))) := ⟨below_set HB15.out HGB.out⟩
 have HV : Aside0 (Kd.V k84 84 (w15.setCell ⟨go, i * 3 + 1, none⟩ (.slice A15 l1_3.length c15)) w.heap.size (fun k => g4 < k ∧ k ≠ g8) (.slice (some ⟨go, 0, none⟩) L.length c14) _) := ⟨N_V hs1⟩
 clear HB CB3 CB4 CB8 v33 v81
 generalize w15.setCell ⟨go, i * 3 + 1, none⟩ (.slice A15 l1_3.length c15) = WX at *
 have HB := HB_
 have CB4 := CB4_
 have CB8 := CB8_
 clear HB_ CB4_ CB8_
 have v40 : WX.cell? ⟨g4, 0, none⟩ = some (.int .i64 0) := (blk_cell CB4.out 0).trans rfl
 have v41 : WX.cell? ⟨g4, 1, none⟩ = some (.slice none 0 0) := (blk_cell CB4.out 1).trans rfl
 have f40 := blk_frozen CB4.out 0
 have f41 := blk_frozen CB4.out 1
 have v80 : WX.cell? ⟨g8, 0, none⟩ = some (.int .i64 a0_0) := (blk_cell CB8.out 0).trans rfl
 have v81 : WX.cell? ⟨g8, 1, none⟩ = some (.slice (some ⟨go, 0, none⟩) L.length c14) := (blk_cell CB8.out 1).trans rfl
 have f80 := blk_frozen CB8.out 0
 have f81 := blk_frozen CB8.out 1
 go_wp2
 refine bodyPost_ret (results_ct rfl _ _ g4 50 #[.int .i64 a0_0, .slice (some ⟨go, 0, none⟩) L.length c14] (0, 0) _ rfl (blk_put (cs := #[.int .i64 a0_0, .slice none 0 0]) (blk_put (cs := #[.int .i64 0, .slice none 0 0]) CB4.out 0 _ rfl) 1 _ rfl) Tryd.underlying50 rfl (by kernel_rfl)) rfl ?_
 exact ⟨_, rfl, Kd.V_mono (Kd.V_far (p := ⟨g4, 1, none⟩) (Kd.V_far (p := ⟨g4, 0, none⟩) HV.out (fun k hk => Nat.ne_of_gt hk.1) _) (fun k hk => Nat.ne_of_gt hk.1) _) (fun k hk => Nat.le_of_lt (Nat.lt_of_le_of_lt G4.out hk.1)), below_set (below_set HB.out G4.out) G4.out⟩
set_option maxHeartbeats 4000000 in
set_option maxRecDepth 100000 in
theorem do_ren_there (a0_0 : Int) (A0_1 : Option Addr) (c0_1 : Nat) (l0_1 : List S84) (a1_0 : Int) (a1_1 : ByteArray) (a1_2 : ByteArray) (A1_3 : Option Addr) (c1_3 : Nat) (l1_3 : List Int) (r1 : Int) (r2 : List S84) (r3 : Int) (w : World) (hr0_1 : Kd.C k84 w A0_1 l0_1.length l0_1) (hc0_1 : l0_1.length ≤ c0_1) (hr1_3 : Kd.C (Kd.int .u8) w A1_3 l1_3.length l1_3) (hc1_3 : l1_3.length ≤ c1_3) (hs : SmallD l0_1) (hf : FormedR a0_0 l0_1) (hn : nmd a1_1) (hm : l1_3.length ≤ 140737488351232) (hfo : foundS l0_1 a1_1 = true) (hk : a1_0 = 3) (ht : nmd a1_2) (hf2 : foundS (l0_1.eraseIdx (idxS l0_1 a1_1)) a1_2 = true) (he : (a0_0, (l0_1.eraseIdx (idxS l0_1 a1_1)).set (idxS (l0_1.eraseIdx (idxS l0_1 a1_1)) a1_2) ⟨a1_2, (rd_T84 l0_1 (idxS l0_1 a1_1 : Int)).f1, (rd_T84 l0_1 (idxS l0_1 a1_1 : Int)).f2⟩, 0) = (r1, r2, r3)) :
  Calls Tryd.prog 29 #[.agg #[.int .i64 a0_0, .slice A0_1 l0_1.length c0_1], .agg #[.int .i64 a1_0, .string a1_1, .string a1_2, .slice A1_3 l1_3.length c1_3]] w fun e w' => ∃ v1_ : Value, e = .returned (.tuple #[.agg #[.int .i64 r1, v1_], .int .i64 r3]) ∧ Kd.V k84 84 w' w.heap.size (fun k_ => w.heap.size ≤ k_) v1_ r2 ∧ Below w.heap.size w w' := by
 have HR := Aside0.mk hr0_1
 have HC := Aside0.mk hc0_1
 have HR3 := Aside0.mk hr1_3
 have HC3 := Aside0.mk hc1_3
 have HB := Aside0.mk (Below.refl w.heap.size w)
 clear hr0_1 hc0_1 hr1_3 hc1_3
 have hu24 := Tryd.underlying50
 have hu27 := Tryd.underlying60
 have hu61 := Tryd.underlying84
 obtain ⟨i, hi⟩ : ∃ i, i = idxS l0_1 a1_1 := ⟨_, rfl⟩
 have hk1 : decide (a1_0 < 1) = false := decide_eq_false (by omega)
 have hk4 : decide (4 < a1_0) = false := decide_eq_false (by omega)
 have hq1 : decide (a1_0 = 1) = false := decide_eq_false (by omega)
 have hq1b : (a1_0 == 1) = false := by simp; omega
 have hq2 : decide (a1_0 = 2) = false := decide_eq_false (by omega)
 have hq2b : (a1_0 == 2) = false := by simp; omega
 have hq3 : decide (a1_0 = 3) = true := decide_eq_true (by omega)
 have hq3b : (a1_0 == 3) = true := by simp; omega
 have hq4 : decide (a1_0 = 4) = false := decide_eq_false (by omega)
 have hq4b : (a1_0 == 4) = false := by simp; omega
 have hne1 : decide (a1_0 ≠ 1) = true := decide_eq_true (by omega)
 have hne1b : (a1_0 != 1) = true := by simp; omega
 have HFI := Aside0.mk (show store_find.f l0_1 a1_1 = some ((i : Int), true) by unfold store_find.f; rw [if_pos ⟨by have := hf.2.2.2.1; omega, formed_srt hf⟩, hfo, hi])
 have HF := Aside0.mk (show store_Formed.f (3 * l0_1.length + 3) a0_0 l0_1 = some true by rw [formed_plain a0_0 l0_1 hs.small, decide_eq_true hf])
 have HN := Aside0.mk (show store_named.f a1_1 = some true by rw [named_nmd, decide_eq_true hn])
 have HTW := Aside0.mk (show store_twin.f a0_0 l0_1 = some (a0_0, l0_1) by unfold store_twin.f; rw [if_pos ⟨by have := hf.2.2.2.1; omega, fun x hx => by have := hs.2 x hx; omega⟩])
 have HT := Aside0.mk (show store_named.f a1_2 = some true by rw [named_nmd, decide_eq_true ht])
 clear hk
 have HS0 := Aside0.mk hs
 have HFO := Aside0.mk hfo
 have HFM := Aside0.mk hf
 have HE := Aside0.mk he
 have HI := Aside0.mk hi
 have HF2 := Aside0.mk hf2
 have HM := Aside0.mk hm
 clear ht hf2 hs hf hn hm hfo he hi
 go_enter Tryd.func29, Tryd.ntmps29
 go_upto_region 14 with (first
  | ((with_reducible refine gate_dst (N := 2) rfl ?_); refine box_event ?hg (N := 2) ?hd (cs := #[.int .i64 a0_0, .slice A0_1 l0_1.length c0_1]) (t := 50) ?hr ?_; (case hd => rfl); (case hg => rfl); (case hr => first | (go_simp; done) | (go_simp; rfl)); intro g2 hg2 w2 hbox hb; have HB2 := Aside0.mk (below_step HB.out hb); have CB2 := Aside0.mk hbox; have G2 := Aside0.mk (show w.heap.size ≤ g2 by rw [hg2]; exact below_size HB.out); clear hb hbox hg2 HB; have HB := HB2; clear HB2)
  | ((with_reducible refine gate_dst (N := 3) rfl ?_); refine box_event ?hg (N := 3) ?hd (cs := #[.int .i64 a1_0, .string a1_1, .string a1_2, .slice A1_3 l1_3.length c1_3]) (t := 60) ?hr ?_; (case hd => rfl); (case hg => rfl); (case hr => first | (go_simp; done) | (go_simp; rfl)); intro g3 hg3 w3 hbox hb; have HB3 := Aside0.mk (below_step HB.out hb); have CB3 := Aside0.mk hbox; have G23 := Aside0.mk (show g2 < g3 by rw [hg3]; exact blk_lt CB2.out); have CB2_ := Aside0.mk (blk_below CB2.out hb); clear hb hbox hg3 HB CB2; have HB := HB3; have CB2 := CB2_; clear HB3 CB2_)
  | ((with_reducible refine gate_dst (N := 4) rfl ?_); refine box_event ?hg (N := 4) ?hd (cs := #[.int .i64 0, .slice none 0 0]) (t := 50) ?hr ?_; (case hd => rfl); (case hg => rfl); (case hr => first | (go_simp; done) | (go_simp; rfl)); intro g4 hg4 w4 hbox hb; have HX := Aside0.mk (Rbox.mk (below_step HB.out hb) (blk_below CB2.out hb) (blk_below CB3.out hb) hbox G2.out G23.out (show g3 < g4 by rw [hg4]; exact blk_lt CB3.out)); clear hb hbox hg4 HB CB2 CB3 G2 G23; obtain ⟨v20, v21, v30, v31, v32, v33, v40, v41, f40, f41⟩ := HX.out.vis)
  | (go_at_call 48; (with_reducible refine (store_Formed.calls _ a0_0 A0_1 c0_1 l0_1 true _ (Kd.C_below HR.out HX.out.B) HC.out HF.out).mono ?_); rintro e w5 ⟨rfl, hb⟩; have HX_ := Aside0.mk (HX.out.step hb); clear HX hb v20 v21 v30 v31 v32 v33 v40 v41 f40 f41; have HX := HX_; clear HX_; obtain ⟨v20, v21, v30, v31, v32, v33, v40, v41, f40, f41⟩ := HX.out.vis)
  | (go_at_call 49; (with_reducible refine (store_named.calls a1_1 true _ HN.out).mono ?_); rintro e w6 ⟨rfl, hd⟩; have hb := Drawn0.below hd; clear hd; have HX_ := Aside0.mk (HX.out.step hb); clear HX hb v20 v21 v30 v31 v32 v33 v40 v41 f40 f41; have HX := HX_; clear HX_; obtain ⟨v20, v21, v30, v31, v32, v33, v40, v41, f40, f41⟩ := HX.out.vis)
  | (go_at_call 49; (with_reducible refine (store_named.calls a1_2 true _ HT.out).mono ?_); rintro e w7 ⟨rfl, hd⟩; have hb := Drawn0.below hd; clear hd; have HX_ := Aside0.mk (HX.out.step hb); clear HX hb v20 v21 v30 v31 v32 v33 v40 v41 f40 f41; have HX := HX_; clear HX_; obtain ⟨v20, v21, v30, v31, v32, v33, v40, v41, f40, f41⟩ := HX.out.vis)
  | (go_at_call 50; (with_reducible refine (store_find.calls A0_1 c0_1 l0_1 a1_1 _ _ _ (Kd.C_below HR.out HX.out.B) HC.out HFI.out).mono ?_); rintro e w8 ⟨rfl, hb⟩; have HX_ := Aside0.mk (HX.out.step hb); clear HX hb v20 v21 v30 v31 v32 v33 v40 v41 f40 f41; have HX := HX_; clear HX_; obtain ⟨v20, v21, v30, v31, v32, v33, v40, v41, f40, f41⟩ := HX.out.vis)
  | (go_at_call 52; (with_reducible refine (store_twin.calls a0_0 A0_1 c0_1 l0_1 a0_0 l0_1 _ (Kd.C_below HR.out HX.out.B) HC.out HTW.out).mono ?_); rintro e w10 ⟨v10, rfl, hS, hb⟩; obtain ⟨A10, c10, rfl⟩ := Kd.S_slice hS; have hg4_ := blk_lt HX.out.c4; have HS := Aside0.mk (Kd.S_mono (Kd.S_bound (Kd.S_lower (Kd.S_mono (Kd.S_bound hS) (ok' := fun k => g4 < k) (fun k hk => by have := hk.2.1; omega)) HX.out.B.size)) (ok' := fun k => g4 < k ∧ k < w10.heap.size) (fun k hk => ⟨hk.1, hk.2.2.1⟩)); clear hS hg4_; have HX_ := Aside0.mk (HX.out.step hb); clear HX hb v20 v21 v30 v31 v32 v33 v40 v41 f40 f41; have HX := HX_; clear HX_; obtain ⟨v20, v21, v30, v31, v32, v33, v40, v41, f40, f41⟩ := HX.out.vis)
  | ((with_reducible refine gate_dst (N := 8) rfl ?_); refine box_event ?hg (N := 8) ?hd (cs := #[.int .i64 0, .slice none 0 0]) (t := 50) ?hr ?_; (case hd => rfl); (case hg => rfl); (case hr => first | (go_simp; done) | (go_simp; rfl)); intro g8 hg8 w11 hbox hb; have CB8 := Aside0.mk hbox; have G48 := Aside0.mk (show g4 < g8 by rw [hg8]; exact blk_lt HX.out.c4); have HS_ := Aside0.mk (Kd.S_mono (Kd.S_below HS.out hb) (ok' := fun k => g4 < k ∧ k ≠ g8) (fun k hk => ⟨hk.1, by have := hk.2; omega⟩)); clear HS; have HS := HS_; clear HS_; clear hbox hg8; have hn2 : g2 ≠ g8 := (by have := HX.out.l3; have := HX.out.l4; have := G48.out; omega); have hn3 : g3 ≠ g8 := (by have := HX.out.l4; have := G48.out; omega); have hn4 : g4 ≠ g8 := (by have := G48.out; omega); have hm2 := Ne.symm hn2; have hm3 := Ne.symm hn3; have hm4 := Ne.symm hn4; have HX_ := Aside0.mk (HX.out.step hb); clear HX hb v20 v21 v30 v31 v32 v33 v40 v41 f40 f41; have HX := HX_; clear HX_; obtain ⟨v20, v21, v30, v31, v32, v33, v40, v41, f40, f41⟩ := HX.out.vis; have v80 : w11.cell? ⟨g8, 0, none⟩ = some (.int .i64 0) := (blk_cell CB8.out 0).trans rfl; have v81 : w11.cell? ⟨g8, 1, none⟩ = some (.slice none 0 0) := (blk_cell CB8.out 1).trans rfl; have f80 := blk_frozen CB8.out 0; have f81 := blk_frozen CB8.out 1))
 have HB := Aside0.mk HX.out.B
 have CB2 := Aside0.mk HX.out.c2
 have CB3 := Aside0.mk HX.out.c3
 have CB4 := Aside0.mk HX.out.c4
 have G4 := Aside0.mk HX.out.l
 have G23 := Aside0.mk HX.out.l3
 have G34 := Aside0.mk HX.out.l4
 clear HX
 have CB8_ := Aside0.mk (blk_put (cs' := #[.int .i64 a0_0, .slice A10 l0_1.length c10]) (blk_put (cs' := #[.int .i64 a0_0, .slice none 0 0]) CB8.out 0 (.int .i64 a0_0) rfl) 1 (.slice A10 l0_1.length c10) rfl)
 have CB2_ := Aside0.mk (blk_far (p := ⟨g8, 1, none⟩) (blk_far (p := ⟨g8, 0, none⟩) CB2.out hn2 (.int .i64 a0_0)) hn2 (.slice A10 l0_1.length c10))
 have CB3_ := Aside0.mk (blk_far (p := ⟨g8, 1, none⟩) (blk_far (p := ⟨g8, 0, none⟩) CB3.out hn3 (.int .i64 a0_0)) hn3 (.slice A10 l0_1.length c10))
 have CB4_ := Aside0.mk (blk_far (p := ⟨g8, 1, none⟩) (blk_far (p := ⟨g8, 0, none⟩) CB4.out hn4 (.int .i64 a0_0)) hn4 (.slice A10 l0_1.length c10))
 have HS_ := Aside0.mk (Kd.S_far (p := ⟨g8, 1, none⟩) (Kd.S_far (p := ⟨g8, 0, none⟩) HS.out (fun k hk => hk.2) (.int .i64 a0_0)) (fun k hk => hk.2) (.slice A10 l0_1.length c10))
 have G8 := Aside0.mk (show w.heap.size ≤ g8 by have := G4.out; have := G48.out; omega)
 have HB_ := Aside0.mk (below_set (j := 1) (v := .slice A10 l0_1.length c10) (below_set (j := 0) (v := .int .i64 a0_0) HB.out G8.out) G8.out)
 clear HB CB2 CB3 CB4 CB8 HS v20 v21 v30 v31 v32 v33 v40 v41 f40 f41 v80 v81 f80 f81
 generalize (w11.setCell ⟨g8, 0, none⟩ (.int .i64 a0_0)).setCell ⟨g8, 1, none⟩ (.slice A10 l0_1.length c10) = W at *
 have HB := HB_
 have CB2 := CB2_
 have CB3 := CB3_
 have CB4 := CB4_
 have CB8 := CB8_
 have HS := HS_
 clear HB_ CB2_ CB3_ CB4_ CB8_ HS_
 have v20 : W.cell? ⟨g2, 0, none⟩ = some (.int .i64 a0_0) := (blk_cell CB2.out 0).trans rfl
 have v21 : W.cell? ⟨g2, 1, none⟩ = some (.slice A0_1 l0_1.length c0_1) := (blk_cell CB2.out 1).trans rfl
 have v30 : W.cell? ⟨g3, 0, none⟩ = some (.int .i64 a1_0) := (blk_cell CB3.out 0).trans rfl
 have v31 : W.cell? ⟨g3, 1, none⟩ = some (.string a1_1) := (blk_cell CB3.out 1).trans rfl
 have v32 : W.cell? ⟨g3, 2, none⟩ = some (.string a1_2) := (blk_cell CB3.out 2).trans rfl
 have v33 : W.cell? ⟨g3, 3, none⟩ = some (.slice A1_3 l1_3.length c1_3) := (blk_cell CB3.out 3).trans rfl
 have v40 : W.cell? ⟨g4, 0, none⟩ = some (.int .i64 0) := (blk_cell CB4.out 0).trans rfl
 have v41 : W.cell? ⟨g4, 1, none⟩ = some (.slice none 0 0) := (blk_cell CB4.out 1).trans rfl
 have f40 := blk_frozen CB4.out 0
 have f41 := blk_frozen CB4.out 1
 have v80 : W.cell? ⟨g8, 0, none⟩ = some (.int .i64 a0_0) := (blk_cell CB8.out 0).trans rfl
 have v81 : W.cell? ⟨g8, 1, none⟩ = some (.slice A10 l0_1.length c10) := (blk_cell CB8.out 1).trans rfl
 have f80 := blk_frozen CB8.out 0
 have f81 := blk_frozen CB8.out 1
 have hfo := HFO.out
 have hf := HFM.out
 have hi := HI.out
 have hin : i < l0_1.length := by rw [hi]; exact found_lt hfo
 have hl256 := hf.2.2.2.1
 obtain ⟨go, cap, hv, GO1, GO2, _⟩ := Kd.S_form HS.out (by omega)
 injection hv with e1 e2 e3
 subst e1
 subst e3
 clear e2
 have HGO := Aside0.mk (And.intro GO1 GO2)
 clear GO1 GO2
 obtain ⟨x, hx⟩ : ∃ x, x = rd_T84 l0_1 (i : Int) := ⟨_, rfl⟩
 have HX := Aside0.mk hx
 obtain ⟨oki, c, hcl, hM, hcc, hfr, hoki, hH⟩ := Kd.S_elem HS.out z84 (i : Int) (by omega) (by omega)
 rw [show l0_1.getD (i : Int).toNat z84 = x from hx.symm] at hM
 obtain ⟨v1, rfl, hv1⟩ := k84_openM hM
 obtain ⟨A1, c1, rfl⟩ := Kd.R_slice hv1
 have hz0 : W.cell? ⟨go, i * 3, none⟩ = some (.string x.f0) := hcc 0 _ rfl
 have hz1 : W.cell? ⟨go, i * 3 + 1, none⟩ = some (.slice A1 x.f1.length c1) := hcc 1 _ rfl
 have hz2 : W.cell? ⟨go, i * 3 + 2, none⟩ = some (.int .i64 x.f2) := hcc 2 _ rfl
 have hfz1 : W.frozen? ⟨go, i * 3 + 1, none⟩ = false := hfr 1
 have hfz2 : W.frozen? ⟨go, i * 3 + 2, none⟩ = false := hfr 2
 have HV1 := Aside0.mk hv1
 have HH := Aside0.mk hH
 have HOK := Aside0.mk hoki
 have ng2 : g2 ≠ go := fun e => Kd.S_ne HS.out CB2.out (by decide) (by simp [Value.ownBlock, e])
 have ng3 : g3 ≠ go := fun e => Kd.S_ne HS.out CB3.out (by decide) (by simp [Value.ownBlock, e])
 have ng4 : g4 ≠ go := fun e => Kd.S_ne HS.out CB4.out (by decide) (by simp [Value.ownBlock, e])
 have ng8 : g8 ≠ go := fun e => Kd.S_ne HS.out CB8.out (by decide) (by simp [Value.ownBlock, e])
 clear hcl hM hcc hfr hoki hH hv1 hx
 have i0 := eq_true (show (0 : Int) ≤ (i : Int) by omega)
 have i1 := eq_true (show (i : Int) < (l0_1.length : Int) by omega)
 have hl1 : x.f1.length ≤ c1 := (Kd.R_reads' HV1.out).2.1
 have HL1 := Aside0.mk hl1
 have HSRT := Aside0.mk (formed_srt hf)
 have hEl : (l0_1.eraseIdx i).length = l0_1.length - 1 := by rw [List.length_eraseIdx, if_pos hin]
 obtain ⟨E, hE⟩ : ∃ E, E = l0_1.eraseIdx i := ⟨_, rfl⟩
 rw [← hE] at hEl
 have HEE := Aside0.mk hE
 have HEL := Aside0.mk hEl
 have HFX := Aside0.mk (Kd.R_F HV1.out)
 have HNN := Aside0.mk (Kd.S_N HS.out)
 have HIN := Aside0.mk hin
 have HL := Aside0.mk (show l0_1.length < 1048576 by omega)
 have HL2 := Aside0.mk (show E.length < 4611686018427387904 by omega)
 have hwr : IntKind.i64.wrap ((i : Int) + 1) = ((i + 1 : Nat) : Int) := by rw [IntKind.wrap_i64]; omega
 have hf2 := HF2.out
 rw [← hi, ← hE] at hf2
 obtain ⟨k, hk⟩ : ∃ k, k = idxS E a1_2 := ⟨_, rfl⟩
 have HK := Aside0.mk hk
 have HFI2 := Aside0.mk (show store_find.f E a1_2 = some ((k : Int), true) by unfold store_find.f; rw [if_pos ⟨HL2.out, by rw [HEE.out]; exact List.Pairwise.sublist (List.eraseIdx_sublist _ _) HSRT.out⟩, hf2, hk])
 have HKL := Aside0.mk (show k ≤ E.length by rw [hk]; exact List.findIdx_le_length)
 have HKF := Aside0.mk (show k < E.length by rw [hk]; exact found_lt hf2)
 clear hl256 hin hEl hE hl1 hf2 hk hfo hf hi
 clear hfz1 hfz2
 go_upto_region 26 with (first
  | ((with_reducible refine gate_dst (N := 9) rfl ?_); refine box_event ?hg (N := 9) ?hd (cs := #[.string ⟨#[]⟩, .slice none 0 0, .int .i64 0]) (t := 84) ?hr ?_; (case hd => rfl); (case hg => rfl); (case hr => first | (go_simp; done) | (go_simp; rfl)); intro g9 hg9 w12 hbox hb; have CB9 := Aside0.mk hbox; have G9W := Aside0.mk hg9; have HBx := Aside0.mk hb; have hp3 : g3 ≠ g9 := (by have := blk_lt CB3.out; omega); have hp4 : g4 ≠ g9 := (by have := blk_lt CB4.out; omega); have hp8 : g8 ≠ g9 := (by have := blk_lt CB8.out; omega); have hpo : go ≠ g9 := (by have := HGO.out.2; omega); have hr3 := Ne.symm hp3; have hr4 := Ne.symm hp4; have hr8 := Ne.symm hp8; have hro := Ne.symm hpo; clear hbox hg9 hb; have CB3_ := Aside0.mk (blk_below CB3.out HBx.out); have CB4_ := Aside0.mk (blk_below CB4.out HBx.out); have CB8_ := Aside0.mk (blk_below CB8.out HBx.out); have HB_ := Aside0.mk (below_step HB.out HBx.out); clear CB2 CB3 CB4 CB8 HB v20 v21 v30 v31 v32 v33 v40 v41 f40 f41 v80 v81 f80 f81; have CB3 := CB3_; have CB4 := CB4_; have CB8 := CB8_; have HB := HB_; clear CB3_ CB4_ CB8_ HB_; have v32 : w12.cell? ⟨g3, 2, none⟩ = some (.string a1_2) := (blk_cell CB3.out 2).trans rfl; have v80 : w12.cell? ⟨g8, 0, none⟩ = some (.int .i64 a0_0) := (blk_cell CB8.out 0).trans rfl; have v81 : w12.cell? ⟨g8, 1, none⟩ = some (.slice (some ⟨go, 0, none⟩) l0_1.length c10) := (blk_cell CB8.out 1).trans rfl; have f80 := blk_frozen CB8.out 0; have f81 := blk_frozen CB8.out 1; have v90 : w12.cell? ⟨g9, 0, none⟩ = some (.string ⟨#[]⟩) := (blk_cell CB9.out 0).trans rfl; have v91 : w12.cell? ⟨g9, 1, none⟩ = some (.slice none 0 0) := (blk_cell CB9.out 1).trans rfl; have v92 : w12.cell? ⟨g9, 2, none⟩ = some (.int .i64 0) := (blk_cell CB9.out 2).trans rfl; have f90 := blk_frozen CB9.out 0; have f91 := blk_frozen CB9.out 1; have f92 := blk_frozen CB9.out 2))
 have CB9_ : Aside0 (((((w12.setCell ⟨g9, 0, none⟩ (.string x.f0)).setCell ⟨g9, 1, none⟩ (.slice A1 x.f1.length c1)).setCell ⟨g9, 2, none⟩ (.int .i64 x.f2)).setCell ⟨g9, 0, none⟩ (.string a1_2)).heap[g9]? = some (.cells #[.string a1_2, .slice A1 x.f1.length c1, .int .i64 x.f2] 84 (0, 0))) := ⟨blk_put (cs := #[.string x.f0, .slice A1 x.f1.length c1, .int .i64 x.f2]) (blk_put (cs := #[.string x.f0, .slice A1 x.f1.length c1, .int .i64 0]) (blk_put (cs := #[.string x.f0, .slice none 0 0, .int .i64 0]) (blk_put (cs := #[.string ⟨#[]⟩, .slice none 0 0, .int .i64 0]) CB9.out 0 _ rfl) 1 _ rfl) 2 _ rfl) 0 _ rfl⟩
 have CB3_ := Aside0.mk (blk_far (p := ⟨g9, 0, none⟩) (blk_far (p := ⟨g9, 2, none⟩) (blk_far (p := ⟨g9, 1, none⟩) (blk_far (p := ⟨g9, 0, none⟩) CB3.out hp3 (.string x.f0)) hp3 (.slice A1 x.f1.length c1)) hp3 (.int .i64 x.f2)) hp3 (.string a1_2))
 have CB4_ := Aside0.mk (blk_far (p := ⟨g9, 0, none⟩) (blk_far (p := ⟨g9, 2, none⟩) (blk_far (p := ⟨g9, 1, none⟩) (blk_far (p := ⟨g9, 0, none⟩) CB4.out hp4 (.string x.f0)) hp4 (.slice A1 x.f1.length c1)) hp4 (.int .i64 x.f2)) hp4 (.string a1_2))
 have CB8_ := Aside0.mk (blk_far (p := ⟨g9, 0, none⟩) (blk_far (p := ⟨g9, 2, none⟩) (blk_far (p := ⟨g9, 1, none⟩) (blk_far (p := ⟨g9, 0, none⟩) CB8.out hp8 (.string x.f0)) hp8 (.slice A1 x.f1.length c1)) hp8 (.int .i64 x.f2)) hp8 (.string a1_2))
 have G9 := Aside0.mk (show w.heap.size ≤ g9 by rw [G9W.out]; have := G8.out; have := blk_lt CB8.out; have := HGO.out; omega)
 have HB_ : Aside0 (Below w.heap.size w ((((w12.setCell ⟨g9, 0, none⟩ (.string x.f0)).setCell ⟨g9, 1, none⟩ (.slice A1 x.f1.length c1)).setCell ⟨g9, 2, none⟩ (.int .i64 x.f2)).setCell ⟨g9, 0, none⟩ (.string a1_2))) := ⟨below_set (below_set (below_set (below_set HB.out G9.out) G9.out) G9.out) G9.out⟩
 have hst : ∀ q, q ≠ g9 → q < W.heap.size → ((((w12.setCell ⟨g9, 0, none⟩ (.string x.f0)).setCell ⟨g9, 1, none⟩ (.slice A1 x.f1.length c1)).setCell ⟨g9, 2, none⟩ (.int .i64 x.f2)).setCell ⟨g9, 0, none⟩ (.string a1_2)).heap[q]? = W.heap[q]? := fun q h1 h2 => (Below.heap_setCell _ ⟨g9, 0, none⟩ _ q h1).trans ((Below.heap_setCell _ ⟨g9, 2, none⟩ _ q h1).trans ((Below.heap_setCell _ ⟨g9, 1, none⟩ _ q h1).trans ((Below.heap_setCell _ ⟨g9, 0, none⟩ _ q h1).trans (HBx.out.block q h2))))
 have HN_ := Aside0.mk (Kd.N_step (Kd.N_mono (Kd.N_bound HNN.out) (ok' := fun q => (g4 < q ∧ q ≠ g8) ∧ q ≠ g9) (fun q hq => ⟨hq.1, by rw [G9W.out]; exact Nat.ne_of_lt hq.2⟩)) (fun q hq hlt => hst q hq.2 hlt))
 have HFX_ := Aside0.mk (Kd.F_step (Kd.F_mono (Kd.F_bound HFX.out) (ok' := fun q => ((g4 < q ∧ q ≠ g8) ∧ q ≠ g9) ∧ q ≠ go) (fun q hq => ⟨⟨(HOK.out q hq.1).1, by rw [G9W.out]; exact Nat.ne_of_lt hq.2⟩, (HOK.out q hq.1).2⟩)) (fun q hq hlt => hst q hq.1.2 hlt))
 clear HB CB3 CB4 CB8 CB9 HNN HFX v32 v80 v81 f80 f81 v90 v91 v92 f90 f91 f92 hz0 hz1 hz2 hst
 generalize (((w12.setCell ⟨g9, 0, none⟩ (.string x.f0)).setCell ⟨g9, 1, none⟩ (.slice A1 x.f1.length c1)).setCell ⟨g9, 2, none⟩ (.int .i64 x.f2)).setCell ⟨g9, 0, none⟩ (.string a1_2) = W3 at *
 have HB := HB_
 have CB3 := CB3_
 have CB4 := CB4_
 have CB8 := CB8_
 have CB9 := CB9_
 have HNN := HN_
 have HFX := HFX_
 clear HB_ CB3_ CB4_ CB8_ CB9_ HN_ HFX_
 have v32 : W3.cell? ⟨g3, 2, none⟩ = some (.string a1_2) := (blk_cell CB3.out 2).trans rfl
 have v80 : W3.cell? ⟨g8, 0, none⟩ = some (.int .i64 a0_0) := (blk_cell CB8.out 0).trans rfl
 have v81 : W3.cell? ⟨g8, 1, none⟩ = some (.slice (some ⟨go, 0, none⟩) l0_1.length c10) := (blk_cell CB8.out 1).trans rfl
 have f80 := blk_frozen CB8.out 0
 have f81 := blk_frozen CB8.out 1
 have v90 : W3.cell? ⟨g9, 0, none⟩ = some (.string a1_2) := (blk_cell CB9.out 0).trans rfl
 have v91 : W3.cell? ⟨g9, 1, none⟩ = some (.slice A1 x.f1.length c1) := (blk_cell CB9.out 1).trans rfl
 have v92 : W3.cell? ⟨g9, 2, none⟩ = some (.int .i64 x.f2) := (blk_cell CB9.out 2).trans rfl
 have ng9 : g9 ≠ go := hro
 have HFRQ : Aside0 (∀ q, W3.heap.size ≤ q → (g4 < q ∧ q ≠ g8) ∧ q ≠ g9) := ⟨fun q hq => ⟨⟨Nat.lt_of_lt_of_le (blk_lt CB4.out) hq, fun e => by subst e; exact absurd (blk_lt CB8.out) (Nat.not_lt.2 hq)⟩, fun e => by subst e; exact absurd (blk_lt CB9.out) (Nat.not_lt.2 hq)⟩⟩
 go_upto_region 27 with (first
  | (go_at_call 54; (with_reducible refine (delete_N1 w.heap.size i go l0_1.length c10 l0_1 W3 HNN.out HFRQ.out HIN.out HL.out).mono ?_); rintro e w14 ⟨rfl, hN, hg⟩; rw [← HEE.out, ← HEL.out] at hN; rw [← HEL.out]; have HB_ := Aside0.mk (HB.out.grown hg HB.out.size (fun k hk => by injection hk with hk; subst hk; exact HGO.out.1)); have HFX_ := Aside0.mk (Kd.F_grown HFX.out hg (fun q hq => by intro e; injection e with e; exact hq.2 e)); have HN14 := Aside0.mk hN; clear HB HNN HFX hN v32 v80 v81 f80 f81 v90 v91 v92; have CB3_ := Aside0.mk (blk_grown CB3.out hg (fun e => ng3 (by injection e))); have CB4_ := Aside0.mk (blk_grown CB4.out hg (fun e => ng4 (by injection e))); have CB8_ := Aside0.mk (blk_grown CB8.out hg (fun e => ng8 (by injection e))); have CB9_ := Aside0.mk (blk_grown CB9.out hg (fun e => ng9 (by injection e))); clear CB3; have CB3 := CB3_; clear CB3_; clear CB4; have CB4 := CB4_; clear CB4_; clear CB8; have CB8 := CB8_; clear CB8_; clear CB9; have CB9 := CB9_; clear CB9_; have HB := HB_; have HFX := HFX_; have HNN := HN14; clear HB_ HFX_ HN14 hg; have v32 : w14.cell? ⟨g3, 2, none⟩ = some (.string a1_2) := (blk_cell CB3.out 2).trans rfl; have v80 : w14.cell? ⟨g8, 0, none⟩ = some (.int .i64 a0_0) := (blk_cell CB8.out 0).trans rfl; have v81 : w14.cell? ⟨g8, 1, none⟩ = some (.slice (some ⟨go, 0, none⟩) l0_1.length c10) := (blk_cell CB8.out 1).trans rfl; have f80 := blk_frozen CB8.out 0; have f81 := blk_frozen CB8.out 1; have v90 : w14.cell? ⟨g9, 0, none⟩ = some (.string a1_2) := (blk_cell CB9.out 0).trans rfl; have v91 : w14.cell? ⟨g9, 1, none⟩ = some (.slice A1 x.f1.length c1) := (blk_cell CB9.out 1).trans rfl; have v92 : w14.cell? ⟨g9, 2, none⟩ = some (.int .i64 x.f2) := (blk_cell CB9.out 2).trans rfl))
 have CB8_ := Aside0.mk (blk_put (cs' := #[.int .i64 a0_0, .slice (some ⟨go, 0, none⟩) E.length c10]) CB8.out 1 (.slice (some ⟨go, 0, none⟩) E.length c10) rfl)
 have CB3_ := Aside0.mk (blk_far (p := ⟨g8, 1, none⟩) CB3.out hn3 (.slice (some ⟨go, 0, none⟩) E.length c10))
 have CB4_ := Aside0.mk (blk_far (p := ⟨g8, 1, none⟩) CB4.out hn4 (.slice (some ⟨go, 0, none⟩) E.length c10))
 have CB9_ := Aside0.mk (blk_far (p := ⟨g8, 1, none⟩) CB9.out hr8 (.slice (some ⟨go, 0, none⟩) E.length c10))
 have HB_ := Aside0.mk (below_set (j := 1) (v := (.slice (some ⟨go, 0, none⟩) E.length c10)) HB.out G8.out)
 have HN_ := Aside0.mk (Kd.N_far (p := ⟨g8, 1, none⟩) HNN.out (fun q hq => hq.1.2) (.slice (some ⟨go, 0, none⟩) E.length c10))
 have HFX_ := Aside0.mk (Kd.F_far (p := ⟨g8, 1, none⟩) HFX.out (fun q hq => hq.1.1.2) (.slice (some ⟨go, 0, none⟩) E.length c10))
 clear HB CB3 CB4 CB8 CB9 HNN HFX v32 v80 v81 f80 f81 v90 v91 v92
 generalize w14.setCell ⟨g8, 1, none⟩ (.slice (some ⟨go, 0, none⟩) E.length c10) = W4 at *
 have HB := HB_
 have CB3 := CB3_
 have CB4 := CB4_
 have CB8 := CB8_
 have CB9 := CB9_
 have HNN := HN_
 have HFX := HFX_
 clear HB_ CB3_ CB4_ CB8_ CB9_ HN_ HFX_
 have HCE := Aside0.mk (Kd.N_reads' HNN.out)
 have v32 : W4.cell? ⟨g3, 2, none⟩ = some (.string a1_2) := (blk_cell CB3.out 2).trans rfl
 have v80 : W4.cell? ⟨g8, 0, none⟩ = some (.int .i64 a0_0) := (blk_cell CB8.out 0).trans rfl
 have v81 : W4.cell? ⟨g8, 1, none⟩ = some (.slice (some ⟨go, 0, none⟩) E.length c10) := (blk_cell CB8.out 1).trans rfl
 have f80 := blk_frozen CB8.out 0
 have f81 := blk_frozen CB8.out 1
 have v90 : W4.cell? ⟨g9, 0, none⟩ = some (.string a1_2) := (blk_cell CB9.out 0).trans rfl
 have v91 : W4.cell? ⟨g9, 1, none⟩ = some (.slice A1 x.f1.length c1) := (blk_cell CB9.out 1).trans rfl
 have v92 : W4.cell? ⟨g9, 2, none⟩ = some (.int .i64 x.f2) := (blk_cell CB9.out 2).trans rfl
 go_upto_region 29 with (first
  | (go_at_call 50; (with_reducible refine (store_find.calls (some ⟨go, 0, none⟩) c10 E a1_2 _ _ _ HCE.out.2.2 HCE.out.2.1 HFI2.out).mono ?_); rintro e w16 ⟨rfl, hb⟩; have CB4_ := Aside0.mk (blk_below CB4.out hb); have CB8_ := Aside0.mk (blk_below CB8.out hb); have CB9_ := Aside0.mk (blk_below CB9.out hb); have HB_ := Aside0.mk (below_step HB.out hb); have HN_ := Aside0.mk (Kd.N_below HNN.out hb); have HFX_ := Aside0.mk (Kd.F_below HFX.out hb); clear HB CB3 CB4 CB8 CB9 HNN HFX v32 v80 v81 f80 f81 v90 v91 v92 hb; have HB := HB_; have CB4 := CB4_; have CB8 := CB8_; have CB9 := CB9_; have HNN := HN_; have HFX := HFX_; clear HB_ CB4_ CB8_ CB9_ HN_ HFX_; have v80 : w16.cell? ⟨g8, 0, none⟩ = some (.int .i64 a0_0) := (blk_cell CB8.out 0).trans rfl; have v81 : w16.cell? ⟨g8, 1, none⟩ = some (.slice (some ⟨go, 0, none⟩) E.length c10) := (blk_cell CB8.out 1).trans rfl; have f80 := blk_frozen CB8.out 0; have f81 := blk_frozen CB8.out 1; have v90 : w16.cell? ⟨g9, 0, none⟩ = some (.string a1_2) := (blk_cell CB9.out 0).trans rfl; have v91 : w16.cell? ⟨g9, 1, none⟩ = some (.slice A1 x.f1.length c1) := (blk_cell CB9.out 1).trans rfl; have v92 : w16.cell? ⟨g9, 2, none⟩ = some (.int .i64 x.f2) := (blk_cell CB9.out 2).trans rfl))
 have hkl := HKF.out
 obtain ⟨c, hcl, hM, hcc, hfr⟩ := Kd.N_elem HNN.out z84 (k : Int) (by omega) (by omega)
 obtain ⟨B1, d1, rfl, hdl, hFd⟩ := k84_openF hM
 have hk0 : w16.cell? ⟨go, k * 3, none⟩ = some (.string (E.getD (k : Int).toNat z84).f0) := hcc 0 _ rfl
 have hk1_ : w16.cell? ⟨go, k * 3 + 1, none⟩ = some (.slice B1 (E.getD (k : Int).toNat z84).f1.length d1) := hcc 1 _ rfl
 have hk2_ : w16.cell? ⟨go, k * 3 + 2, none⟩ = some (.int .i64 (E.getD (k : Int).toNat z84).f2) := hcc 2 _ rfl
 have hkf0 : w16.frozen? ⟨go, k * 3, none⟩ = false := hfr 0
 have hkf1 : w16.frozen? ⟨go, k * 3 + 1, none⟩ = false := hfr 1
 have hkf2 : w16.frozen? ⟨go, k * 3 + 2, none⟩ = false := hfr 2
 have HFKX := Aside0.mk (show Kd.FK k84 w16 (fun q => ((g4 < q ∧ q ≠ g8) ∧ q ≠ g9) ∧ q ≠ go) (⟨a1_2, x.f1, x.f2⟩ : S84) [.string a1_2, .slice A1 x.f1.length c1, .int .i64 x.f2] from fun W' hW => k84_mk W' (⟨a1_2, x.f1, x.f2⟩ : S84) HL1.out (HFX.out W' hW))
 have hs := Kd.N_seg HNN.out (k : Int) (by omega) (by omega) (seg := [.string a1_2, .slice A1 x.f1.length c1, .int .i64 x.f2]) (j := 0) (x' := (⟨a1_2, x.f1, x.f2⟩ : S84)) hcl hcc (show 3 ≤ 3 by decide) HFKX.out (fun q hq => hq)
 have HSG := Aside0.mk hs.1
 clear hcl hM hcc hfr hdl hFd hs
 have k0 := eq_true (show (0 : Int) ≤ (k : Int) by omega)
 have k1 := eq_true (show (k : Int) < (E.length : Int) by omega)
 clear hkl
 go_upto_region 31 with fail
 have hE := HE.out
 rw [← HI.out, ← HX.out, ← HEE.out, ← HK.out] at hE
 injection hE with he1 he2
 injection he2 with he2 he3
 subst he1
 subst he2
 subst he3
 have CB8_ : Aside0 ((((w16.setCell ⟨go, k * 3, none⟩ (.string a1_2)).setCell ⟨go, k * 3 + 1, none⟩ (.slice A1 x.f1.length c1)).setCell ⟨go, k * 3 + 2, none⟩ (.int .i64 x.f2)).heap[g8]? = some (.cells #[.int .i64 a0_0, .slice (some ⟨go, 0, none⟩) E.length c10] 50 (0, 0))) := ⟨blk_far (blk_far (blk_far CB8.out ng8 _) ng8 _) ng8 _⟩
 have CB4_ : Aside0 ((((w16.setCell ⟨go, k * 3, none⟩ (.string a1_2)).setCell ⟨go, k * 3 + 1, none⟩ (.slice A1 x.f1.length c1)).setCell ⟨go, k * 3 + 2, none⟩ (.int .i64 x.f2)).heap[g4]? = some (.cells #[.int .i64 0, .slice none 0 0] 50 (0, 0))) := ⟨blk_far (blk_far (blk_far CB4.out ng4 _) ng4 _) ng4 _⟩
 have HB_ : Aside0 (Below w.heap.size w (((w16.setCell ⟨go, k * 3, none⟩ (.string a1_2)).setCell ⟨go, k * 3 + 1, none⟩ (.slice A1 x.f1.length c1)).setCell ⟨go, k * 3 + 2, none⟩ (.int .i64 x.f2))) := ⟨below_set (below_set (below_set HB.out HGO.out.1) HGO.out.1) HGO.out.1⟩
 have HV : Aside0 (Kd.V k84 84 (((w16.setCell ⟨go, k * 3, none⟩ (.string a1_2)).setCell ⟨go, k * 3 + 1, none⟩ (.slice A1 x.f1.length c1)).setCell ⟨go, k * 3 + 2, none⟩ (.int .i64 x.f2)) w.heap.size (fun k => g4 < k ∧ k ≠ g8) (.slice (some ⟨go, 0, none⟩) E.length c10) _) := ⟨Kd.V_mono (N_V HSG.out) (fun q hq => hq.1)⟩
 clear HB CB4 CB8 v80 v81 f80 f81
 generalize ((w16.setCell ⟨go, k * 3, none⟩ (.string a1_2)).setCell ⟨go, k * 3 + 1, none⟩ (.slice A1 x.f1.length c1)).setCell ⟨go, k * 3 + 2, none⟩ (.int .i64 x.f2) = WX at *
 have HB := HB_
 have CB4 := CB4_
 have CB8 := CB8_
 clear HB_ CB4_ CB8_
 have v40 : WX.cell? ⟨g4, 0, none⟩ = some (.int .i64 0) := (blk_cell CB4.out 0).trans rfl
 have v41 : WX.cell? ⟨g4, 1, none⟩ = some (.slice none 0 0) := (blk_cell CB4.out 1).trans rfl
 have f40 := blk_frozen CB4.out 0
 have f41 := blk_frozen CB4.out 1
 have v80 : WX.cell? ⟨g8, 0, none⟩ = some (.int .i64 a0_0) := (blk_cell CB8.out 0).trans rfl
 have v81 : WX.cell? ⟨g8, 1, none⟩ = some (.slice (some ⟨go, 0, none⟩) E.length c10) := (blk_cell CB8.out 1).trans rfl
 have f80 := blk_frozen CB8.out 0
 have f81 := blk_frozen CB8.out 1
 go_wp2
 refine bodyPost_ret (results_ct rfl _ _ g4 50 #[.int .i64 a0_0, .slice (some ⟨go, 0, none⟩) E.length c10] (0, 0) _ rfl (blk_put (cs := #[.int .i64 a0_0, .slice none 0 0]) (blk_put (cs := #[.int .i64 0, .slice none 0 0]) CB4.out 0 _ rfl) 1 _ rfl) Tryd.underlying50 rfl (by kernel_rfl)) rfl ?_
 exact ⟨_, rfl, Kd.V_mono (Kd.V_far (p := ⟨g4, 1, none⟩) (Kd.V_far (p := ⟨g4, 0, none⟩) HV.out (fun k hk => Nat.ne_of_gt hk.1) _) (fun k hk => Nat.ne_of_gt hk.1) _) (fun k hk => Nat.le_of_lt (Nat.lt_of_le_of_lt G4.out hk.1)), below_set (below_set HB.out G4.out) G4.out⟩
set_option maxHeartbeats 4000000 in
set_option maxRecDepth 100000 in
theorem do_ren_new (a0_0 : Int) (A0_1 : Option Addr) (c0_1 : Nat) (l0_1 : List S84) (a1_0 : Int) (a1_1 : ByteArray) (a1_2 : ByteArray) (A1_3 : Option Addr) (c1_3 : Nat) (l1_3 : List Int) (r1 : Int) (r2 : List S84) (r3 : Int) (w : World) (hr0_1 : Kd.C k84 w A0_1 l0_1.length l0_1) (hc0_1 : l0_1.length ≤ c0_1) (hr1_3 : Kd.C (Kd.int .u8) w A1_3 l1_3.length l1_3) (hc1_3 : l1_3.length ≤ c1_3) (hs : SmallD l0_1) (hf : FormedR a0_0 l0_1) (hn : nmd a1_1) (hm : l1_3.length ≤ 140737488351232) (hfo : foundS l0_1 a1_1 = true) (hk : a1_0 = 3) (ht : nmd a1_2) (hf2 : foundS (l0_1.eraseIdx (idxS l0_1 a1_1)) a1_2 = false) (he : (a0_0, putAt (l0_1.eraseIdx (idxS l0_1 a1_1)) (idxS (l0_1.eraseIdx (idxS l0_1 a1_1)) a1_2) ⟨a1_2, (rd_T84 l0_1 (idxS l0_1 a1_1 : Int)).f1, (rd_T84 l0_1 (idxS l0_1 a1_1 : Int)).f2⟩, 0) = (r1, r2, r3)) :
  Calls Tryd.prog 29 #[.agg #[.int .i64 a0_0, .slice A0_1 l0_1.length c0_1], .agg #[.int .i64 a1_0, .string a1_1, .string a1_2, .slice A1_3 l1_3.length c1_3]] w fun e w' => ∃ v1_ : Value, e = .returned (.tuple #[.agg #[.int .i64 r1, v1_], .int .i64 r3]) ∧ Kd.V k84 84 w' w.heap.size (fun k_ => w.heap.size ≤ k_) v1_ r2 ∧ Below w.heap.size w w' := by
 have HR := Aside0.mk hr0_1
 have HC := Aside0.mk hc0_1
 have HR3 := Aside0.mk hr1_3
 have HC3 := Aside0.mk hc1_3
 have HB := Aside0.mk (Below.refl w.heap.size w)
 clear hr0_1 hc0_1 hr1_3 hc1_3
 have hu24 := Tryd.underlying50
 have hu27 := Tryd.underlying60
 have hu61 := Tryd.underlying84
 obtain ⟨i, hi⟩ : ∃ i, i = idxS l0_1 a1_1 := ⟨_, rfl⟩
 have hk1 : decide (a1_0 < 1) = false := decide_eq_false (by omega)
 have hk4 : decide (4 < a1_0) = false := decide_eq_false (by omega)
 have hq1 : decide (a1_0 = 1) = false := decide_eq_false (by omega)
 have hq1b : (a1_0 == 1) = false := by simp; omega
 have hq2 : decide (a1_0 = 2) = false := decide_eq_false (by omega)
 have hq2b : (a1_0 == 2) = false := by simp; omega
 have hq3 : decide (a1_0 = 3) = true := decide_eq_true (by omega)
 have hq3b : (a1_0 == 3) = true := by simp; omega
 have hq4 : decide (a1_0 = 4) = false := decide_eq_false (by omega)
 have hq4b : (a1_0 == 4) = false := by simp; omega
 have hne1 : decide (a1_0 ≠ 1) = true := decide_eq_true (by omega)
 have hne1b : (a1_0 != 1) = true := by simp; omega
 have HFI := Aside0.mk (show store_find.f l0_1 a1_1 = some ((i : Int), true) by unfold store_find.f; rw [if_pos ⟨by have := hf.2.2.2.1; omega, formed_srt hf⟩, hfo, hi])
 have HF := Aside0.mk (show store_Formed.f (3 * l0_1.length + 3) a0_0 l0_1 = some true by rw [formed_plain a0_0 l0_1 hs.small, decide_eq_true hf])
 have HN := Aside0.mk (show store_named.f a1_1 = some true by rw [named_nmd, decide_eq_true hn])
 have HTW := Aside0.mk (show store_twin.f a0_0 l0_1 = some (a0_0, l0_1) by unfold store_twin.f; rw [if_pos ⟨by have := hf.2.2.2.1; omega, fun x hx => by have := hs.2 x hx; omega⟩])
 have HT := Aside0.mk (show store_named.f a1_2 = some true by rw [named_nmd, decide_eq_true ht])
 clear hk
 have HS0 := Aside0.mk hs
 have HFO := Aside0.mk hfo
 have HFM := Aside0.mk hf
 have HE := Aside0.mk he
 have HI := Aside0.mk hi
 have HF2 := Aside0.mk hf2
 have HM := Aside0.mk hm
 clear ht hf2 hs hf hn hm hfo he hi
 go_enter Tryd.func29, Tryd.ntmps29
 go_upto_region 14 with (first
  | ((with_reducible refine gate_dst (N := 2) rfl ?_); refine box_event ?hg (N := 2) ?hd (cs := #[.int .i64 a0_0, .slice A0_1 l0_1.length c0_1]) (t := 50) ?hr ?_; (case hd => rfl); (case hg => rfl); (case hr => first | (go_simp; done) | (go_simp; rfl)); intro g2 hg2 w2 hbox hb; have HB2 := Aside0.mk (below_step HB.out hb); have CB2 := Aside0.mk hbox; have G2 := Aside0.mk (show w.heap.size ≤ g2 by rw [hg2]; exact below_size HB.out); clear hb hbox hg2 HB; have HB := HB2; clear HB2)
  | ((with_reducible refine gate_dst (N := 3) rfl ?_); refine box_event ?hg (N := 3) ?hd (cs := #[.int .i64 a1_0, .string a1_1, .string a1_2, .slice A1_3 l1_3.length c1_3]) (t := 60) ?hr ?_; (case hd => rfl); (case hg => rfl); (case hr => first | (go_simp; done) | (go_simp; rfl)); intro g3 hg3 w3 hbox hb; have HB3 := Aside0.mk (below_step HB.out hb); have CB3 := Aside0.mk hbox; have G23 := Aside0.mk (show g2 < g3 by rw [hg3]; exact blk_lt CB2.out); have CB2_ := Aside0.mk (blk_below CB2.out hb); clear hb hbox hg3 HB CB2; have HB := HB3; have CB2 := CB2_; clear HB3 CB2_)
  | ((with_reducible refine gate_dst (N := 4) rfl ?_); refine box_event ?hg (N := 4) ?hd (cs := #[.int .i64 0, .slice none 0 0]) (t := 50) ?hr ?_; (case hd => rfl); (case hg => rfl); (case hr => first | (go_simp; done) | (go_simp; rfl)); intro g4 hg4 w4 hbox hb; have HX := Aside0.mk (Rbox.mk (below_step HB.out hb) (blk_below CB2.out hb) (blk_below CB3.out hb) hbox G2.out G23.out (show g3 < g4 by rw [hg4]; exact blk_lt CB3.out)); clear hb hbox hg4 HB CB2 CB3 G2 G23; obtain ⟨v20, v21, v30, v31, v32, v33, v40, v41, f40, f41⟩ := HX.out.vis)
  | (go_at_call 48; (with_reducible refine (store_Formed.calls _ a0_0 A0_1 c0_1 l0_1 true _ (Kd.C_below HR.out HX.out.B) HC.out HF.out).mono ?_); rintro e w5 ⟨rfl, hb⟩; have HX_ := Aside0.mk (HX.out.step hb); clear HX hb v20 v21 v30 v31 v32 v33 v40 v41 f40 f41; have HX := HX_; clear HX_; obtain ⟨v20, v21, v30, v31, v32, v33, v40, v41, f40, f41⟩ := HX.out.vis)
  | (go_at_call 49; (with_reducible refine (store_named.calls a1_1 true _ HN.out).mono ?_); rintro e w6 ⟨rfl, hd⟩; have hb := Drawn0.below hd; clear hd; have HX_ := Aside0.mk (HX.out.step hb); clear HX hb v20 v21 v30 v31 v32 v33 v40 v41 f40 f41; have HX := HX_; clear HX_; obtain ⟨v20, v21, v30, v31, v32, v33, v40, v41, f40, f41⟩ := HX.out.vis)
  | (go_at_call 49; (with_reducible refine (store_named.calls a1_2 true _ HT.out).mono ?_); rintro e w7 ⟨rfl, hd⟩; have hb := Drawn0.below hd; clear hd; have HX_ := Aside0.mk (HX.out.step hb); clear HX hb v20 v21 v30 v31 v32 v33 v40 v41 f40 f41; have HX := HX_; clear HX_; obtain ⟨v20, v21, v30, v31, v32, v33, v40, v41, f40, f41⟩ := HX.out.vis)
  | (go_at_call 50; (with_reducible refine (store_find.calls A0_1 c0_1 l0_1 a1_1 _ _ _ (Kd.C_below HR.out HX.out.B) HC.out HFI.out).mono ?_); rintro e w8 ⟨rfl, hb⟩; have HX_ := Aside0.mk (HX.out.step hb); clear HX hb v20 v21 v30 v31 v32 v33 v40 v41 f40 f41; have HX := HX_; clear HX_; obtain ⟨v20, v21, v30, v31, v32, v33, v40, v41, f40, f41⟩ := HX.out.vis)
  | (go_at_call 52; (with_reducible refine (store_twin.calls a0_0 A0_1 c0_1 l0_1 a0_0 l0_1 _ (Kd.C_below HR.out HX.out.B) HC.out HTW.out).mono ?_); rintro e w10 ⟨v10, rfl, hS, hb⟩; obtain ⟨A10, c10, rfl⟩ := Kd.S_slice hS; have hg4_ := blk_lt HX.out.c4; have HS := Aside0.mk (Kd.S_mono (Kd.S_bound (Kd.S_lower (Kd.S_mono (Kd.S_bound hS) (ok' := fun k => g4 < k) (fun k hk => by have := hk.2.1; omega)) HX.out.B.size)) (ok' := fun k => g4 < k ∧ k < w10.heap.size) (fun k hk => ⟨hk.1, hk.2.2.1⟩)); clear hS hg4_; have HX_ := Aside0.mk (HX.out.step hb); clear HX hb v20 v21 v30 v31 v32 v33 v40 v41 f40 f41; have HX := HX_; clear HX_; obtain ⟨v20, v21, v30, v31, v32, v33, v40, v41, f40, f41⟩ := HX.out.vis)
  | ((with_reducible refine gate_dst (N := 8) rfl ?_); refine box_event ?hg (N := 8) ?hd (cs := #[.int .i64 0, .slice none 0 0]) (t := 50) ?hr ?_; (case hd => rfl); (case hg => rfl); (case hr => first | (go_simp; done) | (go_simp; rfl)); intro g8 hg8 w11 hbox hb; have CB8 := Aside0.mk hbox; have G48 := Aside0.mk (show g4 < g8 by rw [hg8]; exact blk_lt HX.out.c4); have HS_ := Aside0.mk (Kd.S_mono (Kd.S_below HS.out hb) (ok' := fun k => g4 < k ∧ k ≠ g8) (fun k hk => ⟨hk.1, by have := hk.2; omega⟩)); clear HS; have HS := HS_; clear HS_; clear hbox hg8; have hn2 : g2 ≠ g8 := (by have := HX.out.l3; have := HX.out.l4; have := G48.out; omega); have hn3 : g3 ≠ g8 := (by have := HX.out.l4; have := G48.out; omega); have hn4 : g4 ≠ g8 := (by have := G48.out; omega); have hm2 := Ne.symm hn2; have hm3 := Ne.symm hn3; have hm4 := Ne.symm hn4; have HX_ := Aside0.mk (HX.out.step hb); clear HX hb v20 v21 v30 v31 v32 v33 v40 v41 f40 f41; have HX := HX_; clear HX_; obtain ⟨v20, v21, v30, v31, v32, v33, v40, v41, f40, f41⟩ := HX.out.vis; have v80 : w11.cell? ⟨g8, 0, none⟩ = some (.int .i64 0) := (blk_cell CB8.out 0).trans rfl; have v81 : w11.cell? ⟨g8, 1, none⟩ = some (.slice none 0 0) := (blk_cell CB8.out 1).trans rfl; have f80 := blk_frozen CB8.out 0; have f81 := blk_frozen CB8.out 1))
 have HB := Aside0.mk HX.out.B
 have CB2 := Aside0.mk HX.out.c2
 have CB3 := Aside0.mk HX.out.c3
 have CB4 := Aside0.mk HX.out.c4
 have G4 := Aside0.mk HX.out.l
 have G23 := Aside0.mk HX.out.l3
 have G34 := Aside0.mk HX.out.l4
 clear HX
 have CB8_ := Aside0.mk (blk_put (cs' := #[.int .i64 a0_0, .slice A10 l0_1.length c10]) (blk_put (cs' := #[.int .i64 a0_0, .slice none 0 0]) CB8.out 0 (.int .i64 a0_0) rfl) 1 (.slice A10 l0_1.length c10) rfl)
 have CB2_ := Aside0.mk (blk_far (p := ⟨g8, 1, none⟩) (blk_far (p := ⟨g8, 0, none⟩) CB2.out hn2 (.int .i64 a0_0)) hn2 (.slice A10 l0_1.length c10))
 have CB3_ := Aside0.mk (blk_far (p := ⟨g8, 1, none⟩) (blk_far (p := ⟨g8, 0, none⟩) CB3.out hn3 (.int .i64 a0_0)) hn3 (.slice A10 l0_1.length c10))
 have CB4_ := Aside0.mk (blk_far (p := ⟨g8, 1, none⟩) (blk_far (p := ⟨g8, 0, none⟩) CB4.out hn4 (.int .i64 a0_0)) hn4 (.slice A10 l0_1.length c10))
 have HS_ := Aside0.mk (Kd.S_far (p := ⟨g8, 1, none⟩) (Kd.S_far (p := ⟨g8, 0, none⟩) HS.out (fun k hk => hk.2) (.int .i64 a0_0)) (fun k hk => hk.2) (.slice A10 l0_1.length c10))
 have G8 := Aside0.mk (show w.heap.size ≤ g8 by have := G4.out; have := G48.out; omega)
 have HB_ := Aside0.mk (below_set (j := 1) (v := .slice A10 l0_1.length c10) (below_set (j := 0) (v := .int .i64 a0_0) HB.out G8.out) G8.out)
 clear HB CB2 CB3 CB4 CB8 HS v20 v21 v30 v31 v32 v33 v40 v41 f40 f41 v80 v81 f80 f81
 generalize (w11.setCell ⟨g8, 0, none⟩ (.int .i64 a0_0)).setCell ⟨g8, 1, none⟩ (.slice A10 l0_1.length c10) = W at *
 have HB := HB_
 have CB2 := CB2_
 have CB3 := CB3_
 have CB4 := CB4_
 have CB8 := CB8_
 have HS := HS_
 clear HB_ CB2_ CB3_ CB4_ CB8_ HS_
 have v20 : W.cell? ⟨g2, 0, none⟩ = some (.int .i64 a0_0) := (blk_cell CB2.out 0).trans rfl
 have v21 : W.cell? ⟨g2, 1, none⟩ = some (.slice A0_1 l0_1.length c0_1) := (blk_cell CB2.out 1).trans rfl
 have v30 : W.cell? ⟨g3, 0, none⟩ = some (.int .i64 a1_0) := (blk_cell CB3.out 0).trans rfl
 have v31 : W.cell? ⟨g3, 1, none⟩ = some (.string a1_1) := (blk_cell CB3.out 1).trans rfl
 have v32 : W.cell? ⟨g3, 2, none⟩ = some (.string a1_2) := (blk_cell CB3.out 2).trans rfl
 have v33 : W.cell? ⟨g3, 3, none⟩ = some (.slice A1_3 l1_3.length c1_3) := (blk_cell CB3.out 3).trans rfl
 have v40 : W.cell? ⟨g4, 0, none⟩ = some (.int .i64 0) := (blk_cell CB4.out 0).trans rfl
 have v41 : W.cell? ⟨g4, 1, none⟩ = some (.slice none 0 0) := (blk_cell CB4.out 1).trans rfl
 have f40 := blk_frozen CB4.out 0
 have f41 := blk_frozen CB4.out 1
 have v80 : W.cell? ⟨g8, 0, none⟩ = some (.int .i64 a0_0) := (blk_cell CB8.out 0).trans rfl
 have v81 : W.cell? ⟨g8, 1, none⟩ = some (.slice A10 l0_1.length c10) := (blk_cell CB8.out 1).trans rfl
 have f80 := blk_frozen CB8.out 0
 have f81 := blk_frozen CB8.out 1
 have hfo := HFO.out
 have hf := HFM.out
 have hi := HI.out
 have hin : i < l0_1.length := by rw [hi]; exact found_lt hfo
 have hl256 := hf.2.2.2.1
 obtain ⟨go, cap, hv, GO1, GO2, _⟩ := Kd.S_form HS.out (by omega)
 injection hv with e1 e2 e3
 subst e1
 subst e3
 clear e2
 have HGO := Aside0.mk (And.intro GO1 GO2)
 clear GO1 GO2
 obtain ⟨x, hx⟩ : ∃ x, x = rd_T84 l0_1 (i : Int) := ⟨_, rfl⟩
 have HX := Aside0.mk hx
 obtain ⟨oki, c, hcl, hM, hcc, hfr, hoki, hH⟩ := Kd.S_elem HS.out z84 (i : Int) (by omega) (by omega)
 rw [show l0_1.getD (i : Int).toNat z84 = x from hx.symm] at hM
 obtain ⟨v1, rfl, hv1⟩ := k84_openM hM
 obtain ⟨A1, c1, rfl⟩ := Kd.R_slice hv1
 have hz0 : W.cell? ⟨go, i * 3, none⟩ = some (.string x.f0) := hcc 0 _ rfl
 have hz1 : W.cell? ⟨go, i * 3 + 1, none⟩ = some (.slice A1 x.f1.length c1) := hcc 1 _ rfl
 have hz2 : W.cell? ⟨go, i * 3 + 2, none⟩ = some (.int .i64 x.f2) := hcc 2 _ rfl
 have hfz1 : W.frozen? ⟨go, i * 3 + 1, none⟩ = false := hfr 1
 have hfz2 : W.frozen? ⟨go, i * 3 + 2, none⟩ = false := hfr 2
 have HV1 := Aside0.mk hv1
 have HH := Aside0.mk hH
 have HOK := Aside0.mk hoki
 have ng2 : g2 ≠ go := fun e => Kd.S_ne HS.out CB2.out (by decide) (by simp [Value.ownBlock, e])
 have ng3 : g3 ≠ go := fun e => Kd.S_ne HS.out CB3.out (by decide) (by simp [Value.ownBlock, e])
 have ng4 : g4 ≠ go := fun e => Kd.S_ne HS.out CB4.out (by decide) (by simp [Value.ownBlock, e])
 have ng8 : g8 ≠ go := fun e => Kd.S_ne HS.out CB8.out (by decide) (by simp [Value.ownBlock, e])
 clear hcl hM hcc hfr hoki hH hv1 hx
 have i0 := eq_true (show (0 : Int) ≤ (i : Int) by omega)
 have i1 := eq_true (show (i : Int) < (l0_1.length : Int) by omega)
 have hl1 : x.f1.length ≤ c1 := (Kd.R_reads' HV1.out).2.1
 have HL1 := Aside0.mk hl1
 have HSRT := Aside0.mk (formed_srt hf)
 have hEl : (l0_1.eraseIdx i).length = l0_1.length - 1 := by rw [List.length_eraseIdx, if_pos hin]
 obtain ⟨E, hE⟩ : ∃ E, E = l0_1.eraseIdx i := ⟨_, rfl⟩
 rw [← hE] at hEl
 have HEE := Aside0.mk hE
 have HEL := Aside0.mk hEl
 have HFX := Aside0.mk (Kd.R_F HV1.out)
 have HNN := Aside0.mk (Kd.S_N HS.out)
 have HIN := Aside0.mk hin
 have HL := Aside0.mk (show l0_1.length < 1048576 by omega)
 have HL2 := Aside0.mk (show E.length < 4611686018427387904 by omega)
 have hwr : IntKind.i64.wrap ((i : Int) + 1) = ((i + 1 : Nat) : Int) := by rw [IntKind.wrap_i64]; omega
 have hf2 := HF2.out
 rw [← hi, ← hE] at hf2
 obtain ⟨k, hk⟩ : ∃ k, k = idxS E a1_2 := ⟨_, rfl⟩
 have HK := Aside0.mk hk
 have HFI2 := Aside0.mk (show store_find.f E a1_2 = some ((k : Int), false) by unfold store_find.f; rw [if_pos ⟨HL2.out, by rw [HEE.out]; exact List.Pairwise.sublist (List.eraseIdx_sublist _ _) HSRT.out⟩, hf2, hk])
 have HKL := Aside0.mk (show k ≤ E.length by rw [hk]; exact List.findIdx_le_length)
 clear hl256 hin hEl hE hl1 hf2 hk hfo hf hi
 clear hfz1 hfz2
 go_upto_region 26 with (first
  | ((with_reducible refine gate_dst (N := 9) rfl ?_); refine box_event ?hg (N := 9) ?hd (cs := #[.string ⟨#[]⟩, .slice none 0 0, .int .i64 0]) (t := 84) ?hr ?_; (case hd => rfl); (case hg => rfl); (case hr => first | (go_simp; done) | (go_simp; rfl)); intro g9 hg9 w12 hbox hb; have CB9 := Aside0.mk hbox; have G9W := Aside0.mk hg9; have HBx := Aside0.mk hb; have hp3 : g3 ≠ g9 := (by have := blk_lt CB3.out; omega); have hp4 : g4 ≠ g9 := (by have := blk_lt CB4.out; omega); have hp8 : g8 ≠ g9 := (by have := blk_lt CB8.out; omega); have hpo : go ≠ g9 := (by have := HGO.out.2; omega); have hr3 := Ne.symm hp3; have hr4 := Ne.symm hp4; have hr8 := Ne.symm hp8; have hro := Ne.symm hpo; clear hbox hg9 hb; have CB3_ := Aside0.mk (blk_below CB3.out HBx.out); have CB4_ := Aside0.mk (blk_below CB4.out HBx.out); have CB8_ := Aside0.mk (blk_below CB8.out HBx.out); have HB_ := Aside0.mk (below_step HB.out HBx.out); clear CB2 CB3 CB4 CB8 HB v20 v21 v30 v31 v32 v33 v40 v41 f40 f41 v80 v81 f80 f81; have CB3 := CB3_; have CB4 := CB4_; have CB8 := CB8_; have HB := HB_; clear CB3_ CB4_ CB8_ HB_; have v32 : w12.cell? ⟨g3, 2, none⟩ = some (.string a1_2) := (blk_cell CB3.out 2).trans rfl; have v80 : w12.cell? ⟨g8, 0, none⟩ = some (.int .i64 a0_0) := (blk_cell CB8.out 0).trans rfl; have v81 : w12.cell? ⟨g8, 1, none⟩ = some (.slice (some ⟨go, 0, none⟩) l0_1.length c10) := (blk_cell CB8.out 1).trans rfl; have f80 := blk_frozen CB8.out 0; have f81 := blk_frozen CB8.out 1; have v90 : w12.cell? ⟨g9, 0, none⟩ = some (.string ⟨#[]⟩) := (blk_cell CB9.out 0).trans rfl; have v91 : w12.cell? ⟨g9, 1, none⟩ = some (.slice none 0 0) := (blk_cell CB9.out 1).trans rfl; have v92 : w12.cell? ⟨g9, 2, none⟩ = some (.int .i64 0) := (blk_cell CB9.out 2).trans rfl; have f90 := blk_frozen CB9.out 0; have f91 := blk_frozen CB9.out 1; have f92 := blk_frozen CB9.out 2))
 have CB9_ : Aside0 (((((w12.setCell ⟨g9, 0, none⟩ (.string x.f0)).setCell ⟨g9, 1, none⟩ (.slice A1 x.f1.length c1)).setCell ⟨g9, 2, none⟩ (.int .i64 x.f2)).setCell ⟨g9, 0, none⟩ (.string a1_2)).heap[g9]? = some (.cells #[.string a1_2, .slice A1 x.f1.length c1, .int .i64 x.f2] 84 (0, 0))) := ⟨blk_put (cs := #[.string x.f0, .slice A1 x.f1.length c1, .int .i64 x.f2]) (blk_put (cs := #[.string x.f0, .slice A1 x.f1.length c1, .int .i64 0]) (blk_put (cs := #[.string x.f0, .slice none 0 0, .int .i64 0]) (blk_put (cs := #[.string ⟨#[]⟩, .slice none 0 0, .int .i64 0]) CB9.out 0 _ rfl) 1 _ rfl) 2 _ rfl) 0 _ rfl⟩
 have CB3_ := Aside0.mk (blk_far (p := ⟨g9, 0, none⟩) (blk_far (p := ⟨g9, 2, none⟩) (blk_far (p := ⟨g9, 1, none⟩) (blk_far (p := ⟨g9, 0, none⟩) CB3.out hp3 (.string x.f0)) hp3 (.slice A1 x.f1.length c1)) hp3 (.int .i64 x.f2)) hp3 (.string a1_2))
 have CB4_ := Aside0.mk (blk_far (p := ⟨g9, 0, none⟩) (blk_far (p := ⟨g9, 2, none⟩) (blk_far (p := ⟨g9, 1, none⟩) (blk_far (p := ⟨g9, 0, none⟩) CB4.out hp4 (.string x.f0)) hp4 (.slice A1 x.f1.length c1)) hp4 (.int .i64 x.f2)) hp4 (.string a1_2))
 have CB8_ := Aside0.mk (blk_far (p := ⟨g9, 0, none⟩) (blk_far (p := ⟨g9, 2, none⟩) (blk_far (p := ⟨g9, 1, none⟩) (blk_far (p := ⟨g9, 0, none⟩) CB8.out hp8 (.string x.f0)) hp8 (.slice A1 x.f1.length c1)) hp8 (.int .i64 x.f2)) hp8 (.string a1_2))
 have G9 := Aside0.mk (show w.heap.size ≤ g9 by rw [G9W.out]; have := G8.out; have := blk_lt CB8.out; have := HGO.out; omega)
 have HB_ : Aside0 (Below w.heap.size w ((((w12.setCell ⟨g9, 0, none⟩ (.string x.f0)).setCell ⟨g9, 1, none⟩ (.slice A1 x.f1.length c1)).setCell ⟨g9, 2, none⟩ (.int .i64 x.f2)).setCell ⟨g9, 0, none⟩ (.string a1_2))) := ⟨below_set (below_set (below_set (below_set HB.out G9.out) G9.out) G9.out) G9.out⟩
 have hst : ∀ q, q ≠ g9 → q < W.heap.size → ((((w12.setCell ⟨g9, 0, none⟩ (.string x.f0)).setCell ⟨g9, 1, none⟩ (.slice A1 x.f1.length c1)).setCell ⟨g9, 2, none⟩ (.int .i64 x.f2)).setCell ⟨g9, 0, none⟩ (.string a1_2)).heap[q]? = W.heap[q]? := fun q h1 h2 => (Below.heap_setCell _ ⟨g9, 0, none⟩ _ q h1).trans ((Below.heap_setCell _ ⟨g9, 2, none⟩ _ q h1).trans ((Below.heap_setCell _ ⟨g9, 1, none⟩ _ q h1).trans ((Below.heap_setCell _ ⟨g9, 0, none⟩ _ q h1).trans (HBx.out.block q h2))))
 have HN_ := Aside0.mk (Kd.N_step (Kd.N_mono (Kd.N_bound HNN.out) (ok' := fun q => (g4 < q ∧ q ≠ g8) ∧ q ≠ g9) (fun q hq => ⟨hq.1, by rw [G9W.out]; exact Nat.ne_of_lt hq.2⟩)) (fun q hq hlt => hst q hq.2 hlt))
 have HFX_ := Aside0.mk (Kd.F_step (Kd.F_mono (Kd.F_bound HFX.out) (ok' := fun q => ((g4 < q ∧ q ≠ g8) ∧ q ≠ g9) ∧ q ≠ go) (fun q hq => ⟨⟨(HOK.out q hq.1).1, by rw [G9W.out]; exact Nat.ne_of_lt hq.2⟩, (HOK.out q hq.1).2⟩)) (fun q hq hlt => hst q hq.1.2 hlt))
 clear HB CB3 CB4 CB8 CB9 HNN HFX v32 v80 v81 f80 f81 v90 v91 v92 f90 f91 f92 hz0 hz1 hz2 hst
 generalize (((w12.setCell ⟨g9, 0, none⟩ (.string x.f0)).setCell ⟨g9, 1, none⟩ (.slice A1 x.f1.length c1)).setCell ⟨g9, 2, none⟩ (.int .i64 x.f2)).setCell ⟨g9, 0, none⟩ (.string a1_2) = W3 at *
 have HB := HB_
 have CB3 := CB3_
 have CB4 := CB4_
 have CB8 := CB8_
 have CB9 := CB9_
 have HNN := HN_
 have HFX := HFX_
 clear HB_ CB3_ CB4_ CB8_ CB9_ HN_ HFX_
 have v32 : W3.cell? ⟨g3, 2, none⟩ = some (.string a1_2) := (blk_cell CB3.out 2).trans rfl
 have v80 : W3.cell? ⟨g8, 0, none⟩ = some (.int .i64 a0_0) := (blk_cell CB8.out 0).trans rfl
 have v81 : W3.cell? ⟨g8, 1, none⟩ = some (.slice (some ⟨go, 0, none⟩) l0_1.length c10) := (blk_cell CB8.out 1).trans rfl
 have f80 := blk_frozen CB8.out 0
 have f81 := blk_frozen CB8.out 1
 have v90 : W3.cell? ⟨g9, 0, none⟩ = some (.string a1_2) := (blk_cell CB9.out 0).trans rfl
 have v91 : W3.cell? ⟨g9, 1, none⟩ = some (.slice A1 x.f1.length c1) := (blk_cell CB9.out 1).trans rfl
 have v92 : W3.cell? ⟨g9, 2, none⟩ = some (.int .i64 x.f2) := (blk_cell CB9.out 2).trans rfl
 have ng9 : g9 ≠ go := hro
 have HFRQ : Aside0 (∀ q, W3.heap.size ≤ q → (g4 < q ∧ q ≠ g8) ∧ q ≠ g9) := ⟨fun q hq => ⟨⟨Nat.lt_of_lt_of_le (blk_lt CB4.out) hq, fun e => by subst e; exact absurd (blk_lt CB8.out) (Nat.not_lt.2 hq)⟩, fun e => by subst e; exact absurd (blk_lt CB9.out) (Nat.not_lt.2 hq)⟩⟩
 go_upto_region 27 with (first
  | (go_at_call 54; (with_reducible refine (delete_N1 w.heap.size i go l0_1.length c10 l0_1 W3 HNN.out HFRQ.out HIN.out HL.out).mono ?_); rintro e w14 ⟨rfl, hN, hg⟩; rw [← HEE.out, ← HEL.out] at hN; rw [← HEL.out]; have HB_ := Aside0.mk (HB.out.grown hg HB.out.size (fun k hk => by injection hk with hk; subst hk; exact HGO.out.1)); have HFX_ := Aside0.mk (Kd.F_grown HFX.out hg (fun q hq => by intro e; injection e with e; exact hq.2 e)); have HN14 := Aside0.mk hN; clear HB HNN HFX hN v32 v80 v81 f80 f81 v90 v91 v92; have CB3_ := Aside0.mk (blk_grown CB3.out hg (fun e => ng3 (by injection e))); have CB4_ := Aside0.mk (blk_grown CB4.out hg (fun e => ng4 (by injection e))); have CB8_ := Aside0.mk (blk_grown CB8.out hg (fun e => ng8 (by injection e))); have CB9_ := Aside0.mk (blk_grown CB9.out hg (fun e => ng9 (by injection e))); clear CB3; have CB3 := CB3_; clear CB3_; clear CB4; have CB4 := CB4_; clear CB4_; clear CB8; have CB8 := CB8_; clear CB8_; clear CB9; have CB9 := CB9_; clear CB9_; have HB := HB_; have HFX := HFX_; have HNN := HN14; clear HB_ HFX_ HN14 hg; have v32 : w14.cell? ⟨g3, 2, none⟩ = some (.string a1_2) := (blk_cell CB3.out 2).trans rfl; have v80 : w14.cell? ⟨g8, 0, none⟩ = some (.int .i64 a0_0) := (blk_cell CB8.out 0).trans rfl; have v81 : w14.cell? ⟨g8, 1, none⟩ = some (.slice (some ⟨go, 0, none⟩) l0_1.length c10) := (blk_cell CB8.out 1).trans rfl; have f80 := blk_frozen CB8.out 0; have f81 := blk_frozen CB8.out 1; have v90 : w14.cell? ⟨g9, 0, none⟩ = some (.string a1_2) := (blk_cell CB9.out 0).trans rfl; have v91 : w14.cell? ⟨g9, 1, none⟩ = some (.slice A1 x.f1.length c1) := (blk_cell CB9.out 1).trans rfl; have v92 : w14.cell? ⟨g9, 2, none⟩ = some (.int .i64 x.f2) := (blk_cell CB9.out 2).trans rfl))
 have CB8_ := Aside0.mk (blk_put (cs' := #[.int .i64 a0_0, .slice (some ⟨go, 0, none⟩) E.length c10]) CB8.out 1 (.slice (some ⟨go, 0, none⟩) E.length c10) rfl)
 have CB3_ := Aside0.mk (blk_far (p := ⟨g8, 1, none⟩) CB3.out hn3 (.slice (some ⟨go, 0, none⟩) E.length c10))
 have CB4_ := Aside0.mk (blk_far (p := ⟨g8, 1, none⟩) CB4.out hn4 (.slice (some ⟨go, 0, none⟩) E.length c10))
 have CB9_ := Aside0.mk (blk_far (p := ⟨g8, 1, none⟩) CB9.out hr8 (.slice (some ⟨go, 0, none⟩) E.length c10))
 have HB_ := Aside0.mk (below_set (j := 1) (v := (.slice (some ⟨go, 0, none⟩) E.length c10)) HB.out G8.out)
 have HN_ := Aside0.mk (Kd.N_far (p := ⟨g8, 1, none⟩) HNN.out (fun q hq => hq.1.2) (.slice (some ⟨go, 0, none⟩) E.length c10))
 have HFX_ := Aside0.mk (Kd.F_far (p := ⟨g8, 1, none⟩) HFX.out (fun q hq => hq.1.1.2) (.slice (some ⟨go, 0, none⟩) E.length c10))
 clear HB CB3 CB4 CB8 CB9 HNN HFX v32 v80 v81 f80 f81 v90 v91 v92
 generalize w14.setCell ⟨g8, 1, none⟩ (.slice (some ⟨go, 0, none⟩) E.length c10) = W4 at *
 have HB := HB_
 have CB3 := CB3_
 have CB4 := CB4_
 have CB8 := CB8_
 have CB9 := CB9_
 have HNN := HN_
 have HFX := HFX_
 clear HB_ CB3_ CB4_ CB8_ CB9_ HN_ HFX_
 have HCE := Aside0.mk (Kd.N_reads' HNN.out)
 have v32 : W4.cell? ⟨g3, 2, none⟩ = some (.string a1_2) := (blk_cell CB3.out 2).trans rfl
 have v80 : W4.cell? ⟨g8, 0, none⟩ = some (.int .i64 a0_0) := (blk_cell CB8.out 0).trans rfl
 have v81 : W4.cell? ⟨g8, 1, none⟩ = some (.slice (some ⟨go, 0, none⟩) E.length c10) := (blk_cell CB8.out 1).trans rfl
 have f80 := blk_frozen CB8.out 0
 have f81 := blk_frozen CB8.out 1
 have v90 : W4.cell? ⟨g9, 0, none⟩ = some (.string a1_2) := (blk_cell CB9.out 0).trans rfl
 have v91 : W4.cell? ⟨g9, 1, none⟩ = some (.slice A1 x.f1.length c1) := (blk_cell CB9.out 1).trans rfl
 have v92 : W4.cell? ⟨g9, 2, none⟩ = some (.int .i64 x.f2) := (blk_cell CB9.out 2).trans rfl
 go_upto_region 30 with (first
  | (go_at_call 50; (with_reducible refine (store_find.calls (some ⟨go, 0, none⟩) c10 E a1_2 _ _ _ HCE.out.2.2 HCE.out.2.1 HFI2.out).mono ?_); rintro e w16 ⟨rfl, hb⟩; have CB4_ := Aside0.mk (blk_below CB4.out hb); have CB8_ := Aside0.mk (blk_below CB8.out hb); have CB9_ := Aside0.mk (blk_below CB9.out hb); have HB_ := Aside0.mk (below_step HB.out hb); have HN_ := Aside0.mk (Kd.N_below HNN.out hb); have HFX_ := Aside0.mk (Kd.F_below HFX.out hb); clear HB CB3 CB4 CB8 CB9 HNN HFX v32 v80 v81 f80 f81 v90 v91 v92 hb; have HB := HB_; have CB4 := CB4_; have CB8 := CB8_; have CB9 := CB9_; have HNN := HN_; have HFX := HFX_; clear HB_ CB4_ CB8_ CB9_ HN_ HFX_; have v80 : w16.cell? ⟨g8, 0, none⟩ = some (.int .i64 a0_0) := (blk_cell CB8.out 0).trans rfl; have v81 : w16.cell? ⟨g8, 1, none⟩ = some (.slice (some ⟨go, 0, none⟩) E.length c10) := (blk_cell CB8.out 1).trans rfl; have f80 := blk_frozen CB8.out 0; have f81 := blk_frozen CB8.out 1; have v90 : w16.cell? ⟨g9, 0, none⟩ = some (.string a1_2) := (blk_cell CB9.out 0).trans rfl; have v91 : w16.cell? ⟨g9, 1, none⟩ = some (.slice A1 x.f1.length c1) := (blk_cell CB9.out 1).trans rfl; have v92 : w16.cell? ⟨g9, 2, none⟩ = some (.int .i64 x.f2) := (blk_cell CB9.out 2).trans rfl))
 obtain ⟨L, hL⟩ : ∃ L, L = putAt E k (⟨a1_2, x.f1, x.f2⟩ : S84) := ⟨_, rfl⟩
 have HLL := Aside0.mk hL
 have HL3 := Aside0.mk (show E.length < 1048576 by have := HEL.out; have := HL.out; omega)
 have HNI := Aside0.mk (Kd.N_alloc HNN.out (.cells #[.string a1_2, .slice A1 x.f1.length c1, .int .i64 x.f2] 84 (0, 0)))
 have HVBn := Aside0.mk (show some w16.heap.size ≠ (Value.slice (some ⟨go, 0, none⟩) E.length c10).ownBlock from fun e => Nat.lt_irrefl _ (Kd.N_lt HNN.out _ e.symm))
 have HFKX := Aside0.mk (show Kd.FK k84 (w16.alloc (.cells #[.string a1_2, .slice A1 x.f1.length c1, .int .i64 x.f2] 84 (0, 0))) (fun q => ((g4 < q ∧ q ≠ g8) ∧ q ≠ g9) ∧ q ≠ go) (⟨a1_2, x.f1, x.f2⟩ : S84) [.string a1_2, .slice A1 x.f1.length c1, .int .i64 x.f2] from fun W' hW => k84_mk W' (⟨a1_2, x.f1, x.f2⟩ : S84) HL1.out ((Kd.F_alloc HFX.out (.cells #[.string a1_2, .slice A1 x.f1.length c1, .int .i64 x.f2] 84 (0, 0))) W' hW))
 have BNW := Aside0.mk (blk_new w16 (.cells #[.string a1_2, .slice A1 x.f1.length c1, .int .i64 x.f2] 84 (0, 0)))
 have HBA := Aside0.mk (below_alloc HB.out (.cells #[.string a1_2, .slice A1 x.f1.length c1, .int .i64 x.f2] 84 (0, 0)))
 have CA4 := Aside0.mk (blk_alloc CB4.out (.cells #[.string a1_2, .slice A1 x.f1.length c1, .int .i64 x.f2] 84 (0, 0)))
 have CA8 := Aside0.mk (blk_alloc CB8.out (.cells #[.string a1_2, .slice A1 x.f1.length c1, .int .i64 x.f2] 84 (0, 0)))
 have CA9 := Aside0.mk (blk_alloc CB9.out (.cells #[.string a1_2, .slice A1 x.f1.length c1, .int .i64 x.f2] 84 (0, 0)))
 have HFRQ : Aside0 (∀ q, (w16.alloc (.cells #[.string a1_2, .slice A1 x.f1.length c1, .int .i64 x.f2] 84 (0, 0))).heap.size ≤ q → (g4 < q ∧ q ≠ g8) ∧ q ≠ g9) := ⟨fun q hq => ⟨⟨Nat.lt_of_lt_of_le (blk_lt CA4.out) hq, fun e => by subst e; exact absurd (blk_lt CA8.out) (Nat.not_lt.2 hq)⟩, fun e => by subst e; exact absurd (blk_lt CA9.out) (Nat.not_lt.2 hq)⟩⟩
 have HOKX : Aside0 (∀ q, (((g4 < q ∧ q ≠ g8) ∧ q ≠ g9) ∧ q ≠ go) → ((g4 < q ∧ q ≠ g8) ∧ q ≠ g9) ∧ some q ≠ (Value.slice (some ⟨go, 0, none⟩) E.length c10).ownBlock) := ⟨fun q hq => ⟨hq.1, fun e => hq.2 (by injection e)⟩⟩
 have NS4 := Aside0.mk (show some g4 ≠ (Value.slice (some ⟨go, 0, none⟩) E.length c10).ownBlock from fun e => ng4 (by injection e))
 have NS8 := Aside0.mk (show some g8 ≠ (Value.slice (some ⟨go, 0, none⟩) E.length c10).ownBlock from fun e => ng8 (by injection e))
 clear hL
 go_upto_region 31 with (first
  | (go_at_call 53; (refine (insert_N2 w.heap.size k w16.heap.size E (⟨a1_2, x.f1, x.f2⟩ : S84) A1 c1 (w16.alloc (.cells #[.string a1_2, .slice A1 x.f1.length c1, .int .i64 x.f2] 84 (0, 0))) (.slice (some ⟨go, 0, none⟩) E.length c10) HNI.out HBA.out.size BNW.out HVBn.out HFKX.out HOKX.out HFRQ.out HKL.out HL3.out).mono ?_); rintro e w18 ⟨gn, c18, rfl, hN, hg, hat, hz⟩; have hLL := HLL.out; unfold putAt at hLL; rw [← hLL] at hN; have HN18 := Aside0.mk hN; have HB_ := Aside0.mk (HBA.out.grown hg HBA.out.size (fun q hq => by injection hq with hq; subst hq; exact HGO.out.1)); have CB4_ := Aside0.mk (blk_grown CA4.out hg NS4.out); have CB8_ := Aside0.mk (blk_grown CA8.out hg NS8.out); clear HB hN hz hg hat v80 v81 f80 f81 v90 v91 v92 CB4 CB8; have HB := HB_; have CB4 := CB4_; have CB8 := CB8_; clear HB_ CB4_ CB8_; rw [← hLL]; clear hLL; have v80 : w18.cell? ⟨g8, 0, none⟩ = some (.int .i64 a0_0) := (blk_cell CB8.out 0).trans rfl; have v81 : w18.cell? ⟨g8, 1, none⟩ = some (.slice (some ⟨go, 0, none⟩) E.length c10) := (blk_cell CB8.out 1).trans rfl; have f80 := blk_frozen CB8.out 0; have f81 := blk_frozen CB8.out 1))
 have hLL := HLL.out
 have hE := HE.out
 rw [← HI.out, ← HX.out, ← HEE.out, ← HK.out, ← hLL] at hE
 injection hE with he1 he2
 injection he2 with he2 he3
 subst he1
 subst he2
 subst he3
 clear hLL
 have CB8_ : Aside0 ((w18.setCell ⟨g8, 1, none⟩ (.slice (some ⟨gn, 0, none⟩) L.length c18)).heap[g8]? = some (.cells #[.int .i64 a0_0, .slice (some ⟨gn, 0, none⟩) L.length c18] 50 (0, 0))) := ⟨blk_put (cs := #[.int .i64 a0_0, .slice (some ⟨go, 0, none⟩) E.length c10]) CB8.out 1 _ rfl⟩
 have CB4_ : Aside0 ((w18.setCell ⟨g8, 1, none⟩ (.slice (some ⟨gn, 0, none⟩) L.length c18)).heap[g4]? = some (.cells #[.int .i64 0, .slice none 0 0] 50 (0, 0))) := ⟨blk_far CB4.out hn4 _⟩
 have HB_ : Aside0 (Below w.heap.size w (w18.setCell ⟨g8, 1, none⟩ (.slice (some ⟨gn, 0, none⟩) L.length c18))) := ⟨below_set HB.out G8.out⟩
 have HV : Aside0 (Kd.V k84 84 (w18.setCell ⟨g8, 1, none⟩ (.slice (some ⟨gn, 0, none⟩) L.length c18)) w.heap.size (fun k => g4 < k ∧ k ≠ g8) (.slice (some ⟨gn, 0, none⟩) L.length c18) _) := ⟨Kd.V_mono (N_V (Kd.N_far (p := ⟨g8, 1, none⟩) HN18.out (fun q hq => hq.1.2) _)) (fun q hq => hq.1)⟩
 clear HB CB4 CB8 v80 v81 f80 f81
 generalize w18.setCell ⟨g8, 1, none⟩ (.slice (some ⟨gn, 0, none⟩) L.length c18) = WX at *
 have HB := HB_
 have CB4 := CB4_
 have CB8 := CB8_
 clear HB_ CB4_ CB8_
 have v40 : WX.cell? ⟨g4, 0, none⟩ = some (.int .i64 0) := (blk_cell CB4.out 0).trans rfl
 have v41 : WX.cell? ⟨g4, 1, none⟩ = some (.slice none 0 0) := (blk_cell CB4.out 1).trans rfl
 have f40 := blk_frozen CB4.out 0
 have f41 := blk_frozen CB4.out 1
 have v80 : WX.cell? ⟨g8, 0, none⟩ = some (.int .i64 a0_0) := (blk_cell CB8.out 0).trans rfl
 have v81 : WX.cell? ⟨g8, 1, none⟩ = some (.slice (some ⟨gn, 0, none⟩) L.length c18) := (blk_cell CB8.out 1).trans rfl
 have f80 := blk_frozen CB8.out 0
 have f81 := blk_frozen CB8.out 1
 go_wp2
 refine bodyPost_ret (results_ct rfl _ _ g4 50 #[.int .i64 a0_0, .slice (some ⟨gn, 0, none⟩) L.length c18] (0, 0) _ rfl (blk_put (cs := #[.int .i64 a0_0, .slice none 0 0]) (blk_put (cs := #[.int .i64 0, .slice none 0 0]) CB4.out 0 _ rfl) 1 _ rfl) Tryd.underlying50 rfl (by kernel_rfl)) rfl ?_
 exact ⟨_, rfl, Kd.V_mono (Kd.V_far (p := ⟨g4, 1, none⟩) (Kd.V_far (p := ⟨g4, 0, none⟩) HV.out (fun k hk => Nat.ne_of_gt hk.1) _) (fun k hk => Nat.ne_of_gt hk.1) _) (fun k hk => Nat.le_of_lt (Nat.lt_of_le_of_lt G4.out hk.1)), below_set (below_set HB.out G4.out) G4.out⟩
set_option maxHeartbeats 1600000 in
theorem store_Do.calls (a0_0 : Int) (A0_1 : Option Addr) (c0_1 : Nat) (l0_1 : List S84) (a1_0 : Int) (a1_1 : ByteArray) (a1_2 : ByteArray) (A1_3 : Option Addr) (c1_3 : Nat) (l1_3 : List Int) (r1 : Int) (r2 : List S84) (r3 : Int) (w : World) (hr0_1 : Kd.C k84 w A0_1 l0_1.length l0_1) (hc0_1 : l0_1.length ≤ c0_1) (hr1_3 : Kd.C (Kd.int .u8) w A1_3 l1_3.length l1_3) (hc1_3 : l1_3.length ≤ c1_3) (h : store_Do.f a0_0 l0_1 a1_0 a1_1 a1_2 l1_3 = some (r1, r2, r3)) :
  Calls Tryd.prog 29 #[.agg #[.int .i64 a0_0, .slice A0_1 l0_1.length c0_1], .agg #[.int .i64 a1_0, .string a1_1, .string a1_2, .slice A1_3 l1_3.length c1_3]] w fun e w' => ∃ v1_ : Value, e = .returned (.tuple #[.agg #[.int .i64 r1, v1_], .int .i64 r3]) ∧ Kd.V k84 84 w' w.heap.size (fun k_ => w.heap.size ≤ k_) v1_ r2 ∧ Below w.heap.size w w' := by
 unfold store_Do.f at h
 by_cases hb : SmallD l0_1 ∧ l1_3.length ≤ 140737488351232
 case neg =>
  rw [if_neg hb] at h
  cases h
 rw [if_pos hb] at h
 have he := Option.some.inj h
 clear h
 obtain ⟨hs, hm⟩ := hb
 unfold doR at he
 by_cases hf : FormedR a0_0 l0_1
 case neg =>
  rw [if_pos (.inl hf)] at he
  exact do_bad1 a0_0 A0_1 c0_1 l0_1 a1_0 a1_1 a1_2 A1_3 c1_3 l1_3 r1 r2 r3 w hr0_1 hc0_1 hr1_3 hc1_3 hs hf he
 by_cases hn : nmd a1_1
 case neg =>
  rw [if_pos (.inr (.inl hn))] at he
  exact do_bad2 a0_0 A0_1 c0_1 l0_1 a1_0 a1_1 a1_2 A1_3 c1_3 l1_3 r1 r2 r3 w hr0_1 hc0_1 hr1_3 hc1_3 hs hf hn he
 by_cases hk1 : a1_0 < 1
 ·rw [if_pos (.inr (.inr (.inl hk1)))] at he
  exact do_bad3 a0_0 A0_1 c0_1 l0_1 a1_0 a1_1 a1_2 A1_3 c1_3 l1_3 r1 r2 r3 w hr0_1 hc0_1 hr1_3 hc1_3 hs hf hn hk1 he
 by_cases hk4 : 4 < a1_0
 ·rw [if_pos (.inr (.inr (.inr hk4)))] at he
  exact do_bad4 a0_0 A0_1 c0_1 l0_1 a1_0 a1_1 a1_2 A1_3 c1_3 l1_3 r1 r2 r3 w hr0_1 hc0_1 hr1_3 hc1_3 hs hf hn hk4 he
 rw [if_neg (by rintro (h | h | h | h); exact h hf; exact h hn; exact hk1 h; exact hk4 h)] at he
 have hk : 1 ≤ a1_0 ∧ a1_0 ≤ 4 := by omega
 by_cases h3 : a1_0 = 3
 ·by_cases ht : nmd a1_2
  case neg =>
   rw [if_pos ⟨h3, ht⟩] at he
   exact do_bad5 a0_0 A0_1 c0_1 l0_1 a1_0 a1_1 a1_2 A1_3 c1_3 l1_3 r1 r2 r3 w hr0_1 hc0_1 hr1_3 hc1_3 hs hf hn h3 ht he
  rw [if_neg (fun h => h.2 ht)] at he
  have n1 : a1_0 ≠ 1 := by omega
  cases hfo : foundS l0_1 a1_1 with
  | false =>
   rw [if_pos ⟨hfo, n1⟩] at he
   exact do_bad7 a0_0 A0_1 c0_1 l0_1 a1_0 a1_1 a1_2 A1_3 c1_3 l1_3 r1 r2 r3 w hr0_1 hc0_1 hr1_3 hc1_3 hs hf hn hk hfo h3 ht he
  | true =>
   rw [if_neg (fun h => by rw [hfo] at h; cases h.1), if_neg (fun h => n1 h.1), if_neg (fun h => n1 h.1)] at he
   unfold doL at he
   simp only [] at he
   rw [if_neg n1, if_neg (by omega), if_neg (by omega)] at he
   cases hf2 : foundS (l0_1.eraseIdx (idxS l0_1 a1_1)) a1_2 with
   | true =>
    rw [if_pos hf2] at he
    exact do_ren_there a0_0 A0_1 c0_1 l0_1 a1_0 a1_1 a1_2 A1_3 c1_3 l1_3 r1 r2 r3 w hr0_1 hc0_1 hr1_3 hc1_3 hs hf hn hm hfo h3 ht hf2 he
   | false =>
    rw [if_neg (by rw [hf2]; decide)] at he
    exact do_ren_new a0_0 A0_1 c0_1 l0_1 a1_0 a1_1 a1_2 A1_3 c1_3 l1_3 r1 r2 r3 w hr0_1 hc0_1 hr1_3 hc1_3 hs hf hn hm hfo h3 ht hf2 he
 ·rw [if_neg (fun h => h3 h.1)] at he
  by_cases h1 : a1_0 = 1
  ·rw [if_neg (fun h => h.2 h1)] at he
   cases hfo : foundS l0_1 a1_1 with
   | true =>
    rw [if_neg (fun h => by rw [hfo] at h; cases h.2.1)] at he
    by_cases hsp : totS l0_1 + (l1_3.length : Int) > a0_0
    ·rw [if_pos ⟨h1, hsp⟩] at he
     exact do_bad9 a0_0 A0_1 c0_1 l0_1 a1_0 a1_1 a1_2 A1_3 c1_3 l1_3 r1 r2 r3 w hr0_1 hc0_1 hr1_3 hc1_3 hs hf hn hm hfo h1 hsp he
    ·rw [if_neg (fun h => hsp h.2)] at he
     unfold doL at he
     simp only [] at he
     rw [if_pos h1, if_pos hfo] at he
     exact do_app_found a0_0 A0_1 c0_1 l0_1 a1_0 a1_1 a1_2 A1_3 c1_3 l1_3 r1 r2 r3 w hr0_1 hc0_1 hr1_3 hc1_3 hs hf hn hm hfo h1 (by omega) he
   | false =>
    by_cases hl : l0_1.length = 256
    ·rw [if_pos ⟨h1, hfo, hl⟩] at he
     exact do_bad8 a0_0 A0_1 c0_1 l0_1 a1_0 a1_1 a1_2 A1_3 c1_3 l1_3 r1 r2 r3 w hr0_1 hc0_1 hr1_3 hc1_3 hs hf hn hk hfo h1 hl he
    ·rw [if_neg (fun h => hl h.2.2)] at he
     by_cases hsp : totS l0_1 + (l1_3.length : Int) > a0_0
     ·rw [if_pos ⟨h1, hsp⟩] at he
      exact do_bad10 a0_0 A0_1 c0_1 l0_1 a1_0 a1_1 a1_2 A1_3 c1_3 l1_3 r1 r2 r3 w hr0_1 hc0_1 hr1_3 hc1_3 hs hf hn hm hfo h1 hl hsp he
     ·rw [if_neg (fun h => hsp h.2)] at he
      unfold doL at he
      simp only [] at he
      rw [if_pos h1, if_neg (by rw [hfo]; decide)] at he
      exact do_app_new a0_0 A0_1 c0_1 l0_1 a1_0 a1_1 a1_2 A1_3 c1_3 l1_3 r1 r2 r3 w hr0_1 hc0_1 hr1_3 hc1_3 hs hf hn hm hfo h1 hl (by omega) he
  ·cases hfo : foundS l0_1 a1_1 with
   | false =>
    rw [if_pos ⟨hfo, h1⟩] at he
    exact do_bad6 a0_0 A0_1 c0_1 l0_1 a1_0 a1_1 a1_2 A1_3 c1_3 l1_3 r1 r2 r3 w hr0_1 hc0_1 hr1_3 hc1_3 hs hf hn hk hfo h1 h3 he
   | true =>
    rw [if_neg (fun h => by rw [hfo] at h; cases h.1), if_neg (fun h => h1 h.1), if_neg (fun h => h1 h.1)] at he
    unfold doL at he
    simp only [] at he
    rw [if_neg h1] at he
    by_cases h2 : a1_0 = 2
    ·rw [if_pos h2] at he
     exact do_sync a0_0 A0_1 c0_1 l0_1 a1_0 a1_1 a1_2 A1_3 c1_3 l1_3 r1 r2 r3 w hr0_1 hc0_1 hr1_3 hc1_3 hs hf hn hm hfo h2 he
    ·have h4 : a1_0 = 4 := by omega
     rw [if_neg h2, if_pos h4] at he
     exact do_remove a0_0 A0_1 c0_1 l0_1 a1_0 a1_1 a1_2 A1_3 c1_3 l1_3 r1 r2 r3 w hr0_1 hc0_1 hr1_3 hc1_3 hs hf hn hm hfo h4 he
end Go.Proofs.YtdcifmonhaklcaaDoor.A
