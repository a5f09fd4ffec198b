/- Walks: each Go function that is told here comes to what the plain function beside it says, wherever that one answers. Written by a program of this session (wip/tools/pr.sh), after the manner of print.sh. -/
import Derived.Test.YtopjdjljpkcdlaaTsSx0
import Derived.Test.YtopjdjljpkcdlaaTsSx1
import Derived.Test.YtopjdjljpkcdlaaTsSx2
import Derived.Test.YtopjdjljpkcdlaaTsSx3
import Derived.Test.YtopjdjljpkcdlaaTsSx4
namespace Go.Proofs.Ytopjdjljpkcdlaa.S
open Go.RowKit Go.Proofs.YtopjdjljpkcdlaaW.PrintWords Go.Proofs.YtopjdjljpkcdlaaW.PrintLast Go.Proofs.YtopjdjljpkcdlaaW.PrintMore
attribute [local go_sem] max2_int min2_int max_two min_two -- for this text's walks alone
set_option linter.unusedVariables false
set_option linter.unusedSimpArgs false
attribute [local go_sem] gtr_str geq_str
theorem N_V {α : Type} {d : Kd α} {e base : Nat} {W : World} {ok : Nat → Prop} {A : Option Addr} {n c : Nat} {xs : List α} (h : Kd.N d e W base ok (.slice A n c) xs) : Kd.V d e W base ok (.slice A n c) xs := by
  have h2 := Kd.N_reads' h
  have hF := Kd.N_F h
  rw [h2.1] at hF ⊢
  exact Kd.V_mk (h2.1 ▸ h2.2.1) hF
theorem found_lt {l : List S61} {n : ByteArray} (h : foundS l n = true) : idxS l n < l.length := by
  unfold foundS at h
  rw [Bool.and_eq_true] at h
  exact of_decide_eq_true h.1
set_option maxHeartbeats 4000000 in
set_option maxRecDepth 100000 in
theorem do_app_new (a0_0 : Int) (A0_1 : Option Addr) (c0_1 : Nat) (l0_1 : List S61) (a1_0 : Int) (a1_1 : ByteArray) (a1_2 : ByteArray) (A1_3 : Option Addr) (c1_3 : Nat) (l1_3 : List Int) (r1 : Int) (r2 : List S61) (r3 : Int) (w : World) (hr0_1 : Kd.C k61 w A0_1 l0_1.length l0_1) (hc0_1 : l0_1.length ≤ c0_1) (hr1_3 : Kd.C (Kd.int .u8) w A1_3 l1_3.length l1_3) (hc1_3 : l1_3.length ≤ c1_3) (hs : SmallD l0_1) (hf : FormedR a0_0 l0_1) (hn : nmd a1_1) (hm : l1_3.length ≤ 140737488351232) (hfo : foundS l0_1 a1_1 = false) (hk : a1_0 = 1) (hl : l0_1.length ≠ 256) (hsp : totS l0_1 + (l1_3.length : Int) ≤ a0_0) (he : (a0_0, putAt l0_1 (idxS l0_1 a1_1) ⟨a1_1, l1_3, 0⟩, 0) = (r1, r2, r3)) :
    Calls Try.prog 12 #[.agg #[.int .i64 a0_0, .slice A0_1 l0_1.length c0_1], .agg #[.int .i64 a1_0, .string a1_1, .string a1_2, .slice A1_3 l1_3.length c1_3]] w fun e w' => ∃ v1_ : Value, e = .returned (.tuple #[.agg #[.int .i64 r1, v1_], .int .i64 r3]) ∧ Kd.V k61 61 w' w.heap.size (fun k_ => w.heap.size ≤ k_) v1_ r2 ∧ Below w.heap.size w w' := by
  have HR := Aside0.mk hr0_1
  have HC := Aside0.mk hc0_1
  have HR3 := Aside0.mk hr1_3
  have HC3 := Aside0.mk hc1_3
  have HB := Aside0.mk (Below.refl w.heap.size w)
  clear hr0_1 hc0_1 hr1_3 hc1_3
  have hu24 := Try.underlying24
  have hu27 := Try.underlying27
  have hu61 := Try.underlying61
  obtain ⟨i, hi⟩ : ∃ i, i = idxS l0_1 a1_1 := ⟨_, rfl⟩
  have hl1 : decide ((l0_1.length : Int) = 256) = false := decide_eq_false (by omega)
  have hl2 : ((l0_1.length : Int) == 256) = false := by simp; omega
  have hgt : decide (a0_0 < totS l0_1 + (l1_3.length : Int)) = false := decide_eq_false (by omega)
  have HSP := Aside0.mk hsp
  clear hsp
  clear hl
  have hk1 : decide (a1_0 < 1) = false := decide_eq_false (by omega)
  have hk4 : decide (4 < a1_0) = false := decide_eq_false (by omega)
  have hq1 : decide (a1_0 = 1) = true := decide_eq_true (by omega)
  have hq1b : (a1_0 == 1) = true := by simp; omega
  have hq2 : decide (a1_0 = 2) = false := decide_eq_false (by omega)
  have hq2b : (a1_0 == 2) = false := by simp; omega
  have hq3 : decide (a1_0 = 3) = false := decide_eq_false (by omega)
  have hq3b : (a1_0 == 3) = false := by simp; omega
  have hq4 : decide (a1_0 = 4) = false := decide_eq_false (by omega)
  have hq4b : (a1_0 == 4) = false := by simp; omega
  have hne1 : decide (a1_0 ≠ 1) = false := decide_eq_false (by omega)
  have hne1b : (a1_0 != 1) = false := by simp; omega
  have HFI := Aside0.mk (show store_find.f l0_1 a1_1 = some ((i : Int), false) by unfold store_find.f; rw [if_pos ⟨by have := hf.2.2.2.1; omega, formed_srt hf⟩, hfo, hi])
  have HF := Aside0.mk (show store_Formed.f (3 * l0_1.length + 3) a0_0 l0_1 = some true by rw [formed_plain a0_0 l0_1 hs.small, decide_eq_true hf])
  have HN := Aside0.mk (show store_named.f a1_1 = some true by rw [named_nmd, decide_eq_true hn])
  have HTW := Aside0.mk (show store_twin.f a0_0 l0_1 = some (a0_0, l0_1) by unfold store_twin.f; rw [if_pos ⟨by have := hf.2.2.2.1; omega, fun x hx => by have := hs.2 x hx; omega⟩])
  have HU := Aside0.mk (show store_used.f (l0_1.length + 1) a0_0 l0_1 = some (totS l0_1) by rw [used_plain a0_0 l0_1 hs.small ⟨hf.2.1, hf.2.2.1⟩, if_pos hf.2.2.2.2])
  have hwu : IntKind.i64.wrap (totS l0_1 + (l1_3.length : Int)) = totS l0_1 + (l1_3.length : Int) := by have := tot_nonneg l0_1; have := hf.2.2.1; have := hf.2.2.2.2; rw [IntKind.wrap_i64]; omega
  clear hk
  have HS0 := Aside0.mk hs
  have HFO := Aside0.mk hfo
  have HFM := Aside0.mk hf
  have HE := Aside0.mk he
  have HI := Aside0.mk hi
  have HM := Aside0.mk hm
  clear hs hf hn hm hfo he hi
  go_enter Try.func12, Try.ntmps12
  go_upto_region 11 with (first
    | ((with_reducible refine gate_dst (N := 2) rfl ?_); refine box_event ?hg (N := 2) ?hd (cs := #[.int .i64 a0_0, .slice A0_1 l0_1.length c0_1]) (t := 24) ?hr ?_; (case hd => rfl); (case hg => rfl); (case hr => first | (go_simp; done) | (go_simp; rfl)); intro g2 hg2 w2 hbox hb; have HB2 := Aside0.mk (below_step HB.out hb); have CB2 := Aside0.mk hbox; have G2 := Aside0.mk (show w.heap.size ≤ g2 by rw [hg2]; exact below_size HB.out); clear hb hbox hg2 HB; have HB := HB2; clear HB2)
    | ((with_reducible refine gate_dst (N := 3) rfl ?_); refine box_event ?hg (N := 3) ?hd (cs := #[.int .i64 a1_0, .string a1_1, .string a1_2, .slice A1_3 l1_3.length c1_3]) (t := 27) ?hr ?_; (case hd => rfl); (case hg => rfl); (case hr => first | (go_simp; done) | (go_simp; rfl)); intro g3 hg3 w3 hbox hb; have HB3 := Aside0.mk (below_step HB.out hb); have CB3 := Aside0.mk hbox; have G3 := Aside0.mk (show w.heap.size ≤ g3 by rw [hg3]; exact below_size HB.out); have G23 := Aside0.mk (show g2 < g3 by rw [hg3]; exact blk_lt CB2.out); have CB2_ := Aside0.mk (blk_below CB2.out hb); clear hb hbox hg3 HB CB2; have HB := HB3; have CB2 := CB2_; clear HB3 CB2_)
    | ((with_reducible refine gate_dst (N := 4) rfl ?_); refine box_event ?hg (N := 4) ?hd (cs := #[.int .i64 0, .slice none 0 0]) (t := 24) ?hr ?_; (case hd => rfl); (case hg => rfl); (case hr => first | (go_simp; done) | (go_simp; rfl)); intro g4 hg4 w4 hbox hb; have HB4 := Aside0.mk (below_step HB.out hb); have CB4 := Aside0.mk hbox; have G4 := Aside0.mk (show w.heap.size ≤ g4 by rw [hg4]; exact below_size HB.out); have G34 := Aside0.mk (show g3 < g4 by rw [hg4]; exact blk_lt CB3.out); have CB2_ := Aside0.mk (blk_below CB2.out hb); have CB3_ := Aside0.mk (blk_below CB3.out hb); clear hb hbox hg4 HB CB2 CB3; have HB := HB4; have CB2 := CB2_; have CB3 := CB3_; clear HB4 CB2_ CB3_; have v20 : w4.cell? ⟨g2, 0, none⟩ = some (.int .i64 a0_0) := (blk_cell CB2.out 0).trans rfl; have v21 : w4.cell? ⟨g2, 1, none⟩ = some (.slice A0_1 l0_1.length c0_1) := (blk_cell CB2.out 1).trans rfl; have v30 : w4.cell? ⟨g3, 0, none⟩ = some (.int .i64 a1_0) := (blk_cell CB3.out 0).trans rfl; have v31 : w4.cell? ⟨g3, 1, none⟩ = some (.string a1_1) := (blk_cell CB3.out 1).trans rfl; have v32 : w4.cell? ⟨g3, 2, none⟩ = some (.string a1_2) := (blk_cell CB3.out 2).trans rfl; have v33 : w4.cell? ⟨g3, 3, none⟩ = some (.slice A1_3 l1_3.length c1_3) := (blk_cell CB3.out 3).trans rfl; have v40 : w4.cell? ⟨g4, 0, none⟩ = some (.int .i64 0) := (blk_cell CB4.out 0).trans rfl; have v41 : w4.cell? ⟨g4, 1, none⟩ = some (.slice none 0 0) := (blk_cell CB4.out 1).trans rfl; have f40 := blk_frozen CB4.out 0; have f41 := blk_frozen CB4.out 1)
    | (go_at_call 15; (with_reducible refine (store_Formed.calls _ a0_0 A0_1 c0_1 l0_1 true _ (Kd.C_below HR.out HB.out) HC.out HF.out).mono ?_); rintro e w5 ⟨rfl, hb⟩; have HB_ := Aside0.mk (below_step HB.out hb); have CB2_ := Aside0.mk (blk_below CB2.out hb); have CB3_ := Aside0.mk (blk_below CB3.out hb); have CB4_ := Aside0.mk (blk_below CB4.out hb); clear HB CB2 CB3 CB4 hb v20 v21 v30 v31 v32 v33 v40 v41 f40 f41; have HB := HB_; have CB2 := CB2_; have CB3 := CB3_; have CB4 := CB4_; clear HB_ CB2_ CB3_ CB4_; have v20 : w5.cell? ⟨g2, 0, none⟩ = some (.int .i64 a0_0) := (blk_cell CB2.out 0).trans rfl; have v21 : w5.cell? ⟨g2, 1, none⟩ = some (.slice A0_1 l0_1.length c0_1) := (blk_cell CB2.out 1).trans rfl; have v30 : w5.cell? ⟨g3, 0, none⟩ = some (.int .i64 a1_0) := (blk_cell CB3.out 0).trans rfl; have v31 : w5.cell? ⟨g3, 1, none⟩ = some (.string a1_1) := (blk_cell CB3.out 1).trans rfl; have v32 : w5.cell? ⟨g3, 2, none⟩ = some (.string a1_2) := (blk_cell CB3.out 2).trans rfl; have v33 : w5.cell? ⟨g3, 3, none⟩ = some (.slice A1_3 l1_3.length c1_3) := (blk_cell CB3.out 3).trans rfl; have v40 : w5.cell? ⟨g4, 0, none⟩ = some (.int .i64 0) := (blk_cell CB4.out 0).trans rfl; have v41 : w5.cell? ⟨g4, 1, none⟩ = some (.slice none 0 0) := (blk_cell CB4.out 1).trans rfl; have f40 := blk_frozen CB4.out 0; have f41 := blk_frozen CB4.out 1)
    | (go_at_call 31; (with_reducible refine (store_named.calls a1_1 true _ HN.out).mono ?_); rintro e w6 ⟨rfl, hd⟩; have hb := Drawn0.below hd; clear hd; have HB_ := Aside0.mk (below_step HB.out hb); have CB2_ := Aside0.mk (blk_below CB2.out hb); have CB3_ := Aside0.mk (blk_below CB3.out hb); have CB4_ := Aside0.mk (blk_below CB4.out hb); clear HB CB2 CB3 CB4 hb v20 v21 v30 v31 v32 v33 v40 v41 f40 f41; have HB := HB_; have CB2 := CB2_; have CB3 := CB3_; have CB4 := CB4_; clear HB_ CB2_ CB3_ CB4_; have v20 : w6.cell? ⟨g2, 0, none⟩ = some (.int .i64 a0_0) := (blk_cell CB2.out 0).trans rfl; have v21 : w6.cell? ⟨g2, 1, none⟩ = some (.slice A0_1 l0_1.length c0_1) := (blk_cell CB2.out 1).trans rfl; have v30 : w6.cell? ⟨g3, 0, none⟩ = some (.int .i64 a1_0) := (blk_cell CB3.out 0).trans rfl; have v31 : w6.cell? ⟨g3, 1, none⟩ = some (.string a1_1) := (blk_cell CB3.out 1).trans rfl; have v32 : w6.cell? ⟨g3, 2, none⟩ = some (.string a1_2) := (blk_cell CB3.out 2).trans rfl; have v33 : w6.cell? ⟨g3, 3, none⟩ = some (.slice A1_3 l1_3.length c1_3) := (blk_cell CB3.out 3).trans rfl; have v40 : w6.cell? ⟨g4, 0, none⟩ = some (.int .i64 0) := (blk_cell CB4.out 0).trans rfl; have v41 : w6.cell? ⟨g4, 1, none⟩ = some (.slice none 0 0) := (blk_cell CB4.out 1).trans rfl; have f40 := blk_frozen CB4.out 0; have f41 := blk_frozen CB4.out 1)
    | (go_at_call 32; (with_reducible refine (store_find.calls A0_1 c0_1 l0_1 a1_1 _ _ _ (Kd.C_below HR.out HB.out) HC.out HFI.out).mono ?_); rintro e w8 ⟨rfl, hb⟩; have HB_ := Aside0.mk (below_step HB.out hb); have CB2_ := Aside0.mk (blk_below CB2.out hb); have CB3_ := Aside0.mk (blk_below CB3.out hb); have CB4_ := Aside0.mk (blk_below CB4.out hb); clear HB CB2 CB3 CB4 hb v20 v21 v30 v31 v32 v33 v40 v41 f40 f41; have HB := HB_; have CB2 := CB2_; have CB3 := CB3_; have CB4 := CB4_; clear HB_ CB2_ CB3_ CB4_; have v20 : w8.cell? ⟨g2, 0, none⟩ = some (.int .i64 a0_0) := (blk_cell CB2.out 0).trans rfl; have v21 : w8.cell? ⟨g2, 1, none⟩ = some (.slice A0_1 l0_1.length c0_1) := (blk_cell CB2.out 1).trans rfl; have v30 : w8.cell? ⟨g3, 0, none⟩ = some (.int .i64 a1_0) := (blk_cell CB3.out 0).trans rfl; have v31 : w8.cell? ⟨g3, 1, none⟩ = some (.string a1_1) := (blk_cell CB3.out 1).trans rfl; have v32 : w8.cell? ⟨g3, 2, none⟩ = some (.string a1_2) := (blk_cell CB3.out 2).trans rfl; have v33 : w8.cell? ⟨g3, 3, none⟩ = some (.slice A1_3 l1_3.length c1_3) := (blk_cell CB3.out 3).trans rfl; have v40 : w8.cell? ⟨g4, 0, none⟩ = some (.int .i64 0) := (blk_cell CB4.out 0).trans rfl; have v41 : w8.cell? ⟨g4, 1, none⟩ = some (.slice none 0 0) := (blk_cell CB4.out 1).trans rfl; have f40 := blk_frozen CB4.out 0; have f41 := blk_frozen CB4.out 1))
  have CB2_ := Aside0.mk (blk_drew CB2.out)
  clear CB2
  have CB2 := CB2_
  clear CB2_
  have CB3_ := Aside0.mk (blk_drew CB3.out)
  clear CB3
  have CB3 := CB3_
  clear CB3_
  have CB4_ := Aside0.mk (blk_drew CB4.out)
  clear CB4
  have CB4 := CB4_
  clear CB4_
  have HB_ := Aside0.mk (below_drew1 HB.out)
  clear HB
  have HB := HB_
  clear HB_
  refine start_ (n := 10) (S := fun w' => w'.cell? ⟨g2, 0, none⟩ = some (.int .i64 a0_0) ∧ w'.cell? ⟨g2, 1, none⟩ = some (.slice A0_1 l0_1.length c0_1) ∧ w'.cell? ⟨g3, 3, none⟩ = some (.slice A1_3 l1_3.length c1_3)) (ds := []) #[false, false, false, false, false, false, false, false, false, false] (by kernel_rfl) rfl rfl ⟨v20, v21, v33⟩ (fun hHeld => ?_)
  refine pure_ (i := 2) (N := some 74) (v := ?_) (a' := ?_) #[false, false, true, false, false, false, false, false, false, false] rfl rfl (by kernel_rfl) (fun _ _ _ h => h) (Or.inl ⟨by rfl, ?_⟩) ?_ ?_
  rotate_left
  · intro w'
    go_simp
    with_reducible rfl
  rotate_left
  · simp only [Act.put, List.setIfInBounds_toArray, List.set_cons_zero, List.set_cons_succ, i64_w, i32_w]
    rfl
  refine pure_ (i := 6) (N := some 78) (v := ?_) (a' := ?_) #[false, false, true, false, false, false, true, false, false, false] rfl rfl (by kernel_rfl) (fun _ _ _ h => h) (Or.inl ⟨by rfl, ?_⟩) ?_ ?_
  rotate_left
  · intro w'
    go_simp
    with_reducible rfl
  rotate_left
  · simp only [Act.put, List.setIfInBounds_toArray, List.set_cons_zero, List.set_cons_succ, i64_w, i32_w]
    rfl
  refine take_ (i := 0) (N := some 72) (v := ?_) (a' := ?_) #[true, false, true, false, false, false, true, false, false, false] rfl rfl (by kernel_rfl) (fun _ _ _ h => h) (Or.inl ⟨by rfl, ?_⟩) hHeld ?_ ?_
  rotate_left
  · rintro w' ⟨s0, s1, s2⟩
    go_simp
    with_reducible rfl
  rotate_left
  · simp only [Act.put, List.setIfInBounds_toArray, List.set_cons_zero, List.set_cons_succ, i64_w, i32_w]
    rfl
  refine take_ (i := 3) (N := some 75) (v := ?_) (a' := ?_) #[true, false, true, true, false, false, true, false, false, false] rfl rfl (by kernel_rfl) (fun _ _ _ h => h) (Or.inl ⟨by rfl, ?_⟩) hHeld ?_ ?_
  rotate_left
  · rintro w' ⟨s0, s1, s2⟩
    go_simp
    with_reducible rfl
  rotate_left
  · simp only [Act.put, List.setIfInBounds_toArray, List.set_cons_zero, List.set_cons_succ, i64_w, i32_w]
    rfl
  refine pure_ (i := 4) (N := some 76) (v := ?_) (a' := ?_) #[true, false, true, true, true, false, true, false, false, false] rfl rfl (by kernel_rfl) (fun _ _ _ h => h) (Or.inl ⟨by rfl, ?_⟩) ?_ ?_
  rotate_left
  · intro w'
    go_simp
    with_reducible rfl
  rotate_left
  · simp only [Act.put, List.setIfInBounds_toArray, List.set_cons_zero, List.set_cons_succ, i64_w, i32_w]
    rfl
  refine take_ (i := 7) (N := some 79) (v := ?_) (a' := ?_) #[true, false, true, true, true, false, true, true, false, false] rfl rfl (by kernel_rfl) (fun _ _ _ h => h) (Or.inl ⟨by rfl, ?_⟩) hHeld ?_ ?_
  rotate_left
  · rintro w' ⟨s0, s1, s2⟩
    go_simp
    with_reducible rfl
  rotate_left
  · simp only [Act.put, List.setIfInBounds_toArray, List.set_cons_zero, List.set_cons_succ, i64_w, i32_w]
    rfl
  refine one_ (i := 1) (N := some 73) #[true, true, true, true, true, false, true, true, false, false] rfl rfl (by kernel_rfl) (by decide) (fun K hK => ?_)
  refine goes_ Try.func33 (by kernel_rfl) rfl #[.agg #[.int .i64 a0_0, .slice A0_1 l0_1.length c0_1]] (by rfl) rfl rfl (by simp only [List.map_toArray, List.map_cons, List.map_nil]; rfl) ?_
  with_reducible refine (store_used.calls _ a0_0 A0_1 c0_1 l0_1 (totS l0_1) _ (Kd.C_below HR.out HB.out) HC.out HU.out).mono ?_
  rintro e w9 ⟨rfl, hb⟩
  refine ⟨_, rfl, ?_⟩
  have HB9 := Aside0.mk hb
  clear hb
  refine hK.out _ _ ⟨(pw_cell_below HB9.out v20), (pw_cell_below HB9.out v21), (pw_cell_below HB9.out v33)⟩ (fun hHeld => ?_)
  clear hK K
  refine norm_ (a' := ?_) ?_ ?_
  rotate_left
  · show Act.put _ (some 73) _ = _
    simp only [Act.put, List.setIfInBounds_toArray, List.set_cons_zero, List.set_cons_succ, i64_w, i32_w]
    rfl
  refine pure_ (i := 5) (N := some 77) (v := ?_) (a' := ?_) #[true, true, true, true, true, true, true, true, false, false] rfl rfl (by kernel_rfl) (fun _ _ _ h => h) (Or.inl ⟨by rfl, ?_⟩) ?_ ?_
  rotate_left
  · intro w'
    go_simp
    with_reducible rfl
  rotate_left
  · simp only [Act.put, List.setIfInBounds_toArray, List.set_cons_zero, List.set_cons_succ, i64_w, i32_w]
    rfl
  refine pure_ (i := 8) (N := some 80) (v := ?_) (a' := ?_) #[true, true, true, true, true, true, true, true, true, false] rfl rfl (by kernel_rfl) (fun _ _ _ h => h) (Or.inl ⟨by rfl, ?_⟩) ?_ ?_
  rotate_left
  · intro w'
    go_simp
    with_reducible rfl
  rotate_left
  · simp only [Act.put, List.setIfInBounds_toArray, List.set_cons_zero, List.set_cons_succ, i64_w, i32_w]
    rfl
  refine pure_ (i := 9) (N := some 71) (v := ?_) (a' := ?_) #[true, true, true, true, true, true, true, true, true, true] rfl rfl (by kernel_rfl) (fun _ _ _ h => h) (Or.inl ⟨by rfl, ?_⟩) ?_ ?_
  rotate_left
  · intro w'
    go_simp
    with_reducible rfl
  rotate_left
  · simp only [Act.put, List.setIfInBounds_toArray, List.set_cons_zero, List.set_cons_succ, i64_w, i32_w]
    rfl
  refine done_ (by kernel_rfl) ?_

  have hb := HB9.out
  clear HB9
  have HB_ := Aside0.mk (below_step HB.out hb)
  have CB2_ := Aside0.mk (blk_below CB2.out hb)
  have CB3_ := Aside0.mk (blk_below CB3.out hb)
  have CB4_ := Aside0.mk (blk_below CB4.out hb)
  clear HB CB2 CB3 CB4 hb v20 v21 v30 v31 v32 v33 v40 v41 f40 f41
  have HB := HB_
  have CB2 := CB2_
  have CB3 := CB3_
  have CB4 := CB4_
  clear HB_ CB2_ CB3_ CB4_
  have v20 : w9.cell? ⟨g2, 0, none⟩ = some (.int .i64 a0_0) := (blk_cell CB2.out 0).trans rfl
  have v21 : w9.cell? ⟨g2, 1, none⟩ = some (.slice A0_1 l0_1.length c0_1) := (blk_cell CB2.out 1).trans rfl
  have v30 : w9.cell? ⟨g3, 0, none⟩ = some (.int .i64 a1_0) := (blk_cell CB3.out 0).trans rfl
  have v31 : w9.cell? ⟨g3, 1, none⟩ = some (.string a1_1) := (blk_cell CB3.out 1).trans rfl
  have v32 : w9.cell? ⟨g3, 2, none⟩ = some (.string a1_2) := (blk_cell CB3.out 2).trans rfl
  have v33 : w9.cell? ⟨g3, 3, none⟩ = some (.slice A1_3 l1_3.length c1_3) := (blk_cell CB3.out 3).trans rfl
  have v40 : w9.cell? ⟨g4, 0, none⟩ = some (.int .i64 0) := (blk_cell CB4.out 0).trans rfl
  have v41 : w9.cell? ⟨g4, 1, none⟩ = some (.slice none 0 0) := (blk_cell CB4.out 1).trans rfl
  have f40 := blk_frozen CB4.out 0
  have f41 := blk_frozen CB4.out 1
  go_upto_region 14 with (first
    | (go_at_call 34; (with_reducible refine (store_twin.calls a0_0 A0_1 c0_1 l0_1 a0_0 l0_1 _ (Kd.C_below HR.out HB.out) HC.out HTW.out).mono ?_); rintro e w10 ⟨v10, rfl, hS, hb⟩; obtain ⟨A10, c10, rfl⟩ := Kd.S_slice hS; have hg4_ := blk_lt CB4.out; have HS := Aside0.mk (Kd.S_mono (Kd.S_bound (Kd.S_lower (Kd.S_mono (Kd.S_bound hS) (ok' := fun k => g4 < k) (fun k hk => by have := hk.2.1; omega)) HB.out.size)) (ok' := fun k => g4 < k ∧ k < w10.heap.size) (fun k hk => ⟨hk.1, hk.2.2.1⟩)); clear hS hg4_; have HB_ := Aside0.mk (below_step HB.out hb); have CB2_ := Aside0.mk (blk_below CB2.out hb); have CB3_ := Aside0.mk (blk_below CB3.out hb); have CB4_ := Aside0.mk (blk_below CB4.out hb); clear HB CB2 CB3 CB4 hb v20 v21 v30 v31 v32 v33 v40 v41 f40 f41; have HB := HB_; have CB2 := CB2_; have CB3 := CB3_; have CB4 := CB4_; clear HB_ CB2_ CB3_ CB4_; have v20 : w10.cell? ⟨g2, 0, none⟩ = some (.int .i64 a0_0) := (blk_cell CB2.out 0).trans rfl; have v21 : w10.cell? ⟨g2, 1, none⟩ = some (.slice A0_1 l0_1.length c0_1) := (blk_cell CB2.out 1).trans rfl; have v30 : w10.cell? ⟨g3, 0, none⟩ = some (.int .i64 a1_0) := (blk_cell CB3.out 0).trans rfl; have v31 : w10.cell? ⟨g3, 1, none⟩ = some (.string a1_1) := (blk_cell CB3.out 1).trans rfl; have v32 : w10.cell? ⟨g3, 2, none⟩ = some (.string a1_2) := (blk_cell CB3.out 2).trans rfl; have v33 : w10.cell? ⟨g3, 3, none⟩ = some (.slice A1_3 l1_3.length c1_3) := (blk_cell CB3.out 3).trans rfl; have v40 : w10.cell? ⟨g4, 0, none⟩ = some (.int .i64 0) := (blk_cell CB4.out 0).trans rfl; have v41 : w10.cell? ⟨g4, 1, none⟩ = some (.slice none 0 0) := (blk_cell CB4.out 1).trans rfl; have f40 := blk_frozen CB4.out 0; have f41 := blk_frozen CB4.out 1)
    | ((with_reducible refine gate_dst (N := 8) rfl ?_); refine box_event ?hg (N := 8) ?hd (cs := #[.int .i64 0, .slice none 0 0]) (t := 24) ?hr ?_; (case hd => rfl); (case hg => rfl); (case hr => first | (go_simp; done) | (go_simp; rfl)); intro g8 hg8 w11 hbox hb; have CB8 := Aside0.mk hbox; have G48 := Aside0.mk (show g4 < g8 by rw [hg8]; exact blk_lt CB4.out); have HS_ := Aside0.mk (Kd.S_mono (Kd.S_below HS.out hb) (ok' := fun k => g4 < k ∧ k ≠ g8) (fun k hk => ⟨hk.1, by have := hk.2; omega⟩)); clear HS; have HS := HS_; clear HS_; clear hbox hg8; have hn2 : g2 ≠ g8 := (by have := G23.out; have := G34.out; have := G48.out; omega); have hn3 : g3 ≠ g8 := (by have := G34.out; have := G48.out; omega); have hn4 : g4 ≠ g8 := (by have := G48.out; omega); have hm2 := Ne.symm hn2; have hm3 := Ne.symm hn3; have hm4 := Ne.symm hn4; have HB_ := Aside0.mk (below_step HB.out hb); have CB2_ := Aside0.mk (blk_below CB2.out hb); have CB3_ := Aside0.mk (blk_below CB3.out hb); have CB4_ := Aside0.mk (blk_below CB4.out hb); clear HB CB2 CB3 CB4 hb v20 v21 v30 v31 v32 v33 v40 v41 f40 f41; have HB := HB_; have CB2 := CB2_; have CB3 := CB3_; have CB4 := CB4_; clear HB_ CB2_ CB3_ CB4_; have v20 : w11.cell? ⟨g2, 0, none⟩ = some (.int .i64 a0_0) := (blk_cell CB2.out 0).trans rfl; have v21 : w11.cell? ⟨g2, 1, none⟩ = some (.slice A0_1 l0_1.length c0_1) := (blk_cell CB2.out 1).trans rfl; have v30 : w11.cell? ⟨g3, 0, none⟩ = some (.int .i64 a1_0) := (blk_cell CB3.out 0).trans rfl; have v31 : w11.cell? ⟨g3, 1, none⟩ = some (.string a1_1) := (blk_cell CB3.out 1).trans rfl; have v32 : w11.cell? ⟨g3, 2, none⟩ = some (.string a1_2) := (blk_cell CB3.out 2).trans rfl; have v33 : w11.cell? ⟨g3, 3, none⟩ = some (.slice A1_3 l1_3.length c1_3) := (blk_cell CB3.out 3).trans rfl; have v40 : w11.cell? ⟨g4, 0, none⟩ = some (.int .i64 0) := (blk_cell CB4.out 0).trans rfl; have v41 : w11.cell? ⟨g4, 1, none⟩ = some (.slice none 0 0) := (blk_cell CB4.out 1).trans rfl; have f40 := blk_frozen CB4.out 0; have f41 := blk_frozen CB4.out 1; have v80 : w11.cell? ⟨g8, 0, none⟩ = some (.int .i64 0) := (blk_cell CB8.out 0).trans rfl; have v81 : w11.cell? ⟨g8, 1, none⟩ = some (.slice none 0 0) := (blk_cell CB8.out 1).trans rfl; have f80 := blk_frozen CB8.out 0; have f81 := blk_frozen CB8.out 1))
  have CB8_ := Aside0.mk (blk_put (cs' := #[.int .i64 a0_0, .slice A10 l0_1.length c10]) (blk_put (cs' := #[.int .i64 a0_0, .slice none 0 0]) CB8.out 0 (.int .i64 a0_0) rfl) 1 (.slice A10 l0_1.length c10) rfl)
  have CB2_ := Aside0.mk (blk_far (p := ⟨g8, 1, none⟩) (blk_far (p := ⟨g8, 0, none⟩) CB2.out hn2 (.int .i64 a0_0)) hn2 (.slice A10 l0_1.length c10))
  have CB3_ := Aside0.mk (blk_far (p := ⟨g8, 1, none⟩) (blk_far (p := ⟨g8, 0, none⟩) CB3.out hn3 (.int .i64 a0_0)) hn3 (.slice A10 l0_1.length c10))
  have CB4_ := Aside0.mk (blk_far (p := ⟨g8, 1, none⟩) (blk_far (p := ⟨g8, 0, none⟩) CB4.out hn4 (.int .i64 a0_0)) hn4 (.slice A10 l0_1.length c10))
  have HS_ := Aside0.mk (Kd.S_far (p := ⟨g8, 1, none⟩) (Kd.S_far (p := ⟨g8, 0, none⟩) HS.out (fun k hk => hk.2) (.int .i64 a0_0)) (fun k hk => hk.2) (.slice A10 l0_1.length c10))
  have G8 := Aside0.mk (show w.heap.size ≤ g8 by have := G4.out; have := G48.out; omega)
  have HB_ := Aside0.mk (below_set (j := 1) (v := .slice A10 l0_1.length c10) (below_set (j := 0) (v := .int .i64 a0_0) HB.out G8.out) G8.out)
  clear HB CB2 CB3 CB4 CB8 HS v20 v21 v30 v31 v32 v33 v40 v41 f40 f41 v80 v81 f80 f81
  generalize (w11.setCell ⟨g8, 0, none⟩ (.int .i64 a0_0)).setCell ⟨g8, 1, none⟩ (.slice A10 l0_1.length c10) = W at *
  have HB := HB_
  have CB2 := CB2_
  have CB3 := CB3_
  have CB4 := CB4_
  have CB8 := CB8_
  have HS := HS_
  clear HB_ CB2_ CB3_ CB4_ CB8_ HS_
  have v20 : W.cell? ⟨g2, 0, none⟩ = some (.int .i64 a0_0) := (blk_cell CB2.out 0).trans rfl
  have v21 : W.cell? ⟨g2, 1, none⟩ = some (.slice A0_1 l0_1.length c0_1) := (blk_cell CB2.out 1).trans rfl
  have v30 : W.cell? ⟨g3, 0, none⟩ = some (.int .i64 a1_0) := (blk_cell CB3.out 0).trans rfl
  have v31 : W.cell? ⟨g3, 1, none⟩ = some (.string a1_1) := (blk_cell CB3.out 1).trans rfl
  have v32 : W.cell? ⟨g3, 2, none⟩ = some (.string a1_2) := (blk_cell CB3.out 2).trans rfl
  have v33 : W.cell? ⟨g3, 3, none⟩ = some (.slice A1_3 l1_3.length c1_3) := (blk_cell CB3.out 3).trans rfl
  have v40 : W.cell? ⟨g4, 0, none⟩ = some (.int .i64 0) := (blk_cell CB4.out 0).trans rfl
  have v41 : W.cell? ⟨g4, 1, none⟩ = some (.slice none 0 0) := (blk_cell CB4.out 1).trans rfl
  have f40 := blk_frozen CB4.out 0
  have f41 := blk_frozen CB4.out 1
  have v80 : W.cell? ⟨g8, 0, none⟩ = some (.int .i64 a0_0) := (blk_cell CB8.out 0).trans rfl
  have v81 : W.cell? ⟨g8, 1, none⟩ = some (.slice A10 l0_1.length c10) := (blk_cell CB8.out 1).trans rfl
  have f80 := blk_frozen CB8.out 0
  have f81 := blk_frozen CB8.out 1
  have hfo := HFO.out
  have hf := HFM.out
  have hi := HI.out
  have hn256 : l0_1.length ≤ 256 := hf.2.2.2.1
  have hil : i ≤ l0_1.length := by rw [hi]; exact List.findIdx_le_length
  have HPI := Aside0.mk (put_at l0_1 i (⟨a1_1, [], 0⟩ : S61) z61 hil)
  obtain ⟨L, hL⟩ : ∃ L, L = putAt l0_1 i (⟨a1_1, [], 0⟩ : S61) := ⟨_, rfl⟩
  have HLL := Aside0.mk hL
  have hLl : L.length = l0_1.length + 1 := by rw [hL, putAt, List.length_append, List.length_cons, List.length_take, List.length_drop]; omega
  have HLN := Aside0.mk hLl
  have HIL := Aside0.mk hil
  have HL := Aside0.mk (show l0_1.length < 1048576 by omega)
  have HNI := Aside0.mk (Kd.N_alloc (Kd.S_N HS.out) (.cells #[.string a1_1, .slice none 0 0, .int .i64 0] 61 (0, 0)))
  have HVBn := Aside0.mk (show some W.heap.size ≠ (Value.slice A10 l0_1.length c10).ownBlock from fun e => Nat.lt_irrefl _ (Kd.S_lt HS.out _ e.symm))
  have HFK := Aside0.mk (show Kd.FK k61 (W.alloc (.cells #[.string a1_1, .slice none 0 0, .int .i64 0] 61 (0, 0))) (fun _ => False) (⟨a1_1, [], 0⟩ : S61) [.string a1_1, .slice none ([] : List Int).length 0, .int .i64 0] from fun W' _ => k61_mk W' (⟨a1_1, [], 0⟩ : S61) (Nat.zero_le _) (Kd.C_nil (Kd.int .u8) W'))
  have BNW := Aside0.mk (blk_new W (.cells #[.string a1_1, .slice none 0 0, .int .i64 0] 61 (0, 0)))
  have HBA := Aside0.mk (below_alloc HB.out (.cells #[.string a1_1, .slice none 0 0, .int .i64 0] 61 (0, 0)))
  have CA4 := Aside0.mk (blk_alloc CB4.out (.cells #[.string a1_1, .slice none 0 0, .int .i64 0] 61 (0, 0)))
  have CA3 := Aside0.mk (blk_alloc CB3.out (.cells #[.string a1_1, .slice none 0 0, .int .i64 0] 61 (0, 0)))
  have CA8 := Aside0.mk (blk_alloc CB8.out (.cells #[.string a1_1, .slice none 0 0, .int .i64 0] 61 (0, 0)))
  have NS4 := Aside0.mk (Kd.S_ne HS.out CB4.out (by decide))
  have NS3 := Aside0.mk (Kd.S_ne HS.out CB3.out (by decide))
  have NS8 := Aside0.mk (Kd.S_ne HS.out CB8.out (by decide))
  have HSB := Aside0.mk (Kd.S_base HS.out)
  clear hL hLl hil hn256 hfo hf hi
  go_wp2_with (first
    | (go_at_call 35; (refine (insert_N2 w.heap.size i W.heap.size l0_1 (⟨a1_1, [], 0⟩ : S61) none 0 (W.alloc (.cells #[.string a1_1, .slice none 0 0, .int .i64 0] 61 (0, 0))) (.slice A10 l0_1.length c10) HNI.out HBA.out.size BNW.out HVBn.out HFK.out (fun _ h => h.elim) (fun k hk => ⟨Nat.lt_of_lt_of_le (blk_lt CA4.out) hk, fun e => absurd (blk_lt CA8.out) (Nat.not_lt.2 (e ▸ hk))⟩) HIL.out HL.out).mono ?_); rintro e w14 ⟨go, c14, rfl, hN, hg, hat, hz⟩; have hLL := HLL.out; unfold putAt at hLL; rw [← hLL] at hN; have HN14 := Aside0.mk hN; have HZ14 := Aside0.mk hz; have HB_ := Aside0.mk (HBA.out.grown hg HBA.out.size (fun k hk => HSB.out k hk)); have CB3_ := Aside0.mk (blk_grown CA3.out hg NS3.out); have CB4_ := Aside0.mk (blk_grown CA4.out hg NS4.out); have CB8_ := Aside0.mk (blk_grown CA8.out hg NS8.out); clear HB hN hz hg hat v20 v21 v30 v31 v32 v33 v40 v41 f40 f41 v80 v81 f80 f81 CB2 CB3 CB4 CB8; have HB := HB_; have CB3 := CB3_; have CB4 := CB4_; have CB8 := CB8_; clear HB_ CB3_ CB4_ CB8_; rw [← hLL]; clear hLL; have v30 : w14.cell? ⟨g3, 0, none⟩ = some (.int .i64 a1_0) := (blk_cell CB3.out 0).trans rfl; have v33 : w14.cell? ⟨g3, 3, none⟩ = some (.slice A1_3 l1_3.length c1_3) := (blk_cell CB3.out 3).trans rfl; have v80 : w14.cell? ⟨g8, 0, none⟩ = some (.int .i64 a0_0) := (blk_cell CB8.out 0).trans rfl; have v81 : w14.cell? ⟨g8, 1, none⟩ = some (.slice A10 l0_1.length c10) := (blk_cell CB8.out 1).trans rfl; have f80 := blk_frozen CB8.out 0; have f81 := blk_frozen CB8.out 1))
  have ng3 : g3 ≠ go := fun e => Kd.N_ne HN14.out CB3.out (by decide) (by simp [Value.ownBlock, e])
  have ng4 : g4 ≠ go := fun e => Kd.N_ne HN14.out CB4.out (by decide) (by simp [Value.ownBlock, e])
  have ng8 : g8 ≠ go := fun e => Kd.N_ne HN14.out CB8.out (by decide) (by simp [Value.ownBlock, e])
  have HN_ := Aside0.mk (Kd.N_far (p := ⟨g8, 1, none⟩) HN14.out (fun k hk => hk.2) (.slice (some ⟨go, 0, none⟩) L.length c14))
  have CB8_ := Aside0.mk (blk_put (cs' := #[.int .i64 a0_0, .slice (some ⟨go, 0, none⟩) L.length c14]) CB8.out 1 (.slice (some ⟨go, 0, none⟩) L.length c14) rfl)
  have CB3_ := Aside0.mk (blk_far (p := ⟨g8, 1, none⟩) CB3.out hn3 (.slice (some ⟨go, 0, none⟩) L.length c14))
  have CB4_ := Aside0.mk (blk_far (p := ⟨g8, 1, none⟩) CB4.out hn4 (.slice (some ⟨go, 0, none⟩) L.length c14))
  have HB_ := Aside0.mk (below_set (j := 1) (v := .slice (some ⟨go, 0, none⟩) L.length c14) HB.out G8.out)
  have HZ_ := Aside0.mk ((Below.heap_setCell w14 ⟨g8, 1, none⟩ (.slice (some ⟨go, 0, none⟩) L.length c14) go (Ne.symm ng8)))
  have hzz := (World.cell?_of_block (a := ⟨go, i * 3 + 1, none⟩) HZ_.out).trans HZ14.out
  clear HB CB3 CB4 CB8 HZ_ HN14 HZ14 v30 v33 v80 v81 f80 f81
  generalize w14.setCell ⟨g8, 1, none⟩ (.slice (some ⟨go, 0, none⟩) L.length c14) = W2 at *
  have HB := HB_
  have CB3 := CB3_
  have CB4 := CB4_
  have CB8 := CB8_
  have HN2 := HN_
  clear HB_ CB3_ CB4_ CB8_ HN_
  have v33 : W2.cell? ⟨g3, 3, none⟩ = some (.slice A1_3 l1_3.length c1_3) := (blk_cell CB3.out 3).trans rfl
  have v81 : W2.cell? ⟨g8, 1, none⟩ = some (.slice (some ⟨go, 0, none⟩) L.length c14) := (blk_cell CB8.out 1).trans rfl
  have hLn := HLN.out
  have hil := HIL.out
  obtain ⟨c, hcl, hM, hcc, hfr⟩ := Kd.N_elem HN2.out z61 (i : Int) (by omega) (by omega)
  rw [Int.toNat_natCast, show L.getD i z61 = (⟨a1_1, [], 0⟩ : S61) by rw [HLL.out]; exact HPI.out] at hM
  obtain ⟨A1, c1, rfl, hl1, hF1⟩ := k61_openF hM
  have hfz1 : W2.frozen? ⟨go, i * 3 + 1, none⟩ = false := hfr 1
  have HCC := Aside0.mk hcc
  have HGOL := Aside0.mk (World.block_lt_of_cell? W2 _ hzz)
  have HGB := Aside0.mk (Kd.N_base HN2.out go rfl)
  have i0 := eq_true (show (0 : Int) ≤ (i : Int) by omega)
  have i1 := eq_true (show (i : Int) < (L.length : Int) by omega)
  clear hcl hM hcc hfr hl1 hF1 hLn hil
  have HRD := Aside0.mk (Kd.C_drew (Kd.C_below HR3.out HB.out))
  have HBd := Aside0.mk (below_drew1 HB.out)
  have HNL := Aside0.mk (Kd.R_nil (Kd.int .u8) 5 W2.drew w.heap.size (fun k => W2.heap.size ≤ k))
  have HLX := Aside0.mk (show (([] : List Int).length + l1_3.length) * 1 ≤ 140737488355328 by have := HM.out; simp; omega)
  refine start_ (n := 15) (S := fun w' => w'.cell? ⟨g8, 1, none⟩ = some (.slice (some ⟨go, 0, none⟩) L.length c14) ∧ w'.cell? ⟨go, i * 3 + 1, none⟩ = some (.slice none 0 0) ∧ w'.cell? ⟨g3, 3, none⟩ = some (.slice A1_3 l1_3.length c1_3)) (ds := [14]) #[false, false, false, false, false, false, false, false, false, false, false, false, false, false, false] (by kernel_rfl) rfl rfl ⟨v81, hzz, v33⟩ (fun hHeld => ?_)
  refine pure_ (i := 0) (N := some 99) (v := ?_) (a' := ?_) #[true, false, false, false, false, false, false, false, false, false, false, false, false, false, false] rfl rfl (by kernel_rfl) (fun _ _ _ h => h) (Or.inl ⟨by rfl, ?_⟩) ?_ ?_
  rotate_left
  · intro w'
    go_simp
    with_reducible rfl
  rotate_left
  · simp only [Act.put, List.setIfInBounds_toArray, List.set_cons_zero, List.set_cons_succ, i64_w, i32_w]
    rfl
  refine pure_ (i := 2) (N := some 101) (v := ?_) (a' := ?_) #[true, false, true, false, false, false, false, false, false, false, false, false, false, false, false] rfl rfl (by kernel_rfl) (fun _ _ _ h => h) (Or.inl ⟨by rfl, ?_⟩) ?_ ?_
  rotate_left
  · intro w'
    go_simp
    with_reducible rfl
  rotate_left
  · simp only [Act.put, List.setIfInBounds_toArray, List.set_cons_zero, List.set_cons_succ, i64_w, i32_w]
    rfl
  refine pure_ (i := 3) (N := some 102) (v := ?_) (a' := ?_) #[true, false, true, true, false, false, false, false, false, false, false, false, false, false, false] rfl rfl (by kernel_rfl) (fun _ _ _ h => h) (Or.inl ⟨by rfl, ?_⟩) ?_ ?_
  rotate_left
  · intro w'
    go_simp
    with_reducible rfl
  rotate_left
  · simp only [Act.put, List.setIfInBounds_toArray, List.set_cons_zero, List.set_cons_succ, i64_w, i32_w]
    rfl
  refine pure_ (i := 5) (N := some 104) (v := ?_) (a' := ?_) #[true, false, true, true, false, true, false, false, false, false, false, false, false, false, false] rfl rfl (by kernel_rfl) (fun _ _ _ h => h) (Or.inl ⟨by rfl, ?_⟩) ?_ ?_
  rotate_left
  · intro w'
    go_simp
    with_reducible rfl
  rotate_left
  · simp only [Act.put, List.setIfInBounds_toArray, List.set_cons_zero, List.set_cons_succ, i64_w, i32_w]
    rfl
  refine pure_ (i := 9) (N := some 108) (v := ?_) (a' := ?_) #[true, false, true, true, false, true, false, false, false, true, false, false, false, false, false] rfl rfl (by kernel_rfl) (fun _ _ _ h => h) (Or.inl ⟨by rfl, ?_⟩) ?_ ?_
  rotate_left
  · intro w'
    go_simp
    with_reducible rfl
  rotate_left
  · simp only [Act.put, List.setIfInBounds_toArray, List.set_cons_zero, List.set_cons_succ, i64_w, i32_w]
    rfl
  refine take_ (i := 1) (N := some 100) (v := ?_) (a' := ?_) #[true, true, true, true, false, true, false, false, false, true, false, false, false, false, false] rfl rfl (by kernel_rfl) (fun _ _ _ h => h) (Or.inl ⟨by rfl, ?_⟩) hHeld ?_ ?_
  rotate_left
  · rintro w' ⟨s0, s1, s2⟩
    go_simp
    with_reducible rfl
  rotate_left
  · simp only [Act.put, List.setIfInBounds_toArray, List.set_cons_zero, List.set_cons_succ, i64_w, i32_w]
    rfl
  refine take_ (i := 4) (N := some 103) (v := ?_) (a' := ?_) #[true, true, true, true, true, true, false, false, false, true, false, false, false, false, false] rfl rfl (by kernel_rfl) (fun _ _ _ h => h) (Or.inl ⟨by rfl, ?_⟩) hHeld ?_ ?_
  rotate_left
  · rintro w' ⟨s0, s1, s2⟩
    go_simp
    with_reducible rfl
  rotate_left
  · simp only [Act.put, List.setIfInBounds_toArray, List.set_cons_zero, List.set_cons_succ, i64_w, i32_w]
    rfl
  refine pure_ (i := 6) (N := some 105) (v := ?_) (a' := ?_) #[true, true, true, true, true, true, true, false, false, true, false, false, false, false, false] rfl rfl (by kernel_rfl) (fun _ _ _ h => h) (Or.inl ⟨by rfl, ?_⟩) ?_ ?_
  rotate_left
  · intro w'
    go_simp
    with_reducible rfl
  rotate_left
  · simp only [Act.put, List.setIfInBounds_toArray, List.set_cons_zero, List.set_cons_succ, i64_w, i32_w]
    rfl
  refine pure_ (i := 7) (N := some 106) (v := ?_) (a' := ?_) #[true, true, true, true, true, true, true, true, false, true, false, false, false, false, false] rfl rfl (by kernel_rfl) (fun _ _ _ h => h) (Or.inl ⟨by rfl, ?_⟩) ?_ ?_
  rotate_left
  · intro w'
    go_simp
    with_reducible rfl
  rotate_left
  · simp only [Act.put, List.setIfInBounds_toArray, List.set_cons_zero, List.set_cons_succ, i64_w, i32_w]
    rfl
  refine take_ (i := 8) (N := some 107) (v := ?_) (a' := ?_) #[true, true, true, true, true, true, true, true, true, true, false, false, false, false, false] rfl rfl (by kernel_rfl) (fun _ _ _ h => h) (Or.inl ⟨by rfl, ?_⟩) hHeld ?_ ?_
  rotate_left
  · rintro w' ⟨s0, s1, s2⟩
    go_simp
    with_reducible rfl
  rotate_left
  · simp only [Act.put, List.setIfInBounds_toArray, List.set_cons_zero, List.set_cons_succ, i64_w, i32_w]
    rfl
  refine take_ (i := 10) (N := some 109) (v := ?_) (a' := ?_) #[true, true, true, true, true, true, true, true, true, true, true, false, false, false, false] rfl rfl (by kernel_rfl) (fun _ _ _ h => h) (Or.inl ⟨by rfl, ?_⟩) hHeld ?_ ?_
  rotate_left
  · rintro w' ⟨s0, s1, s2⟩
    go_simp
    with_reducible rfl
  rotate_left
  · simp only [Act.put, List.setIfInBounds_toArray, List.set_cons_zero, List.set_cons_succ, i64_w, i32_w]
    rfl
  refine one_ (i := 11) (N := some 110) #[true, true, true, true, true, true, true, true, true, true, true, true, false, false, false] rfl rfl (by kernel_rfl) (by decide) (fun K hK => ?_)
  refine Kd.R_append_rows_step (Kd.int .u8) (w0 := w) w.heap.size (by rfl) (.tmp 107) (.tmp 109) 25 5 (.int .u8 0) 1 rfl Try.underlying25 info5 rfl (by decide) (by omega) (.slice none 0 0) ([] : List Int) l1_3 A1_3 l1_3.length c1_3 (fun k => W2.heap.size ≤ k) (fun _ => False) rfl rfl HNL.out HRD.out (fun _ _ h => h) (fun _ h => h.elim) (fun k hk => hk) HBd.out HBd.out.size HLX.out ?_
  intro v15 w15 ho hb hg hat
  rw [List.nil_append] at ho
  obtain ⟨A15, c15, rfl⟩ := Kd.R_slice ho
  have HO15 := Aside0.mk ho
  have HB15 := Aside0.mk hb
  have HG15 := Aside0.mk hg
  clear ho hb hg hat
  refine hK.out _ _ ⟨(World.grownBy.cell HG15.out (show World.cell? (World.drew W2) _ = _ from v81) (by simp [Value.ownBlock])), (World.grownBy.cell HG15.out (show World.cell? (World.drew W2) _ = _ from hzz) (by simp [Value.ownBlock])), (World.grownBy.cell HG15.out (show World.cell? (World.drew W2) _ = _ from v33) (by simp [Value.ownBlock]))⟩ (fun hHeld => ?_)
  clear hK K
  refine norm_ (a' := ?_) ?_ ?_
  rotate_left
  · show Act.put _ (some 110) _ = _
    simp only [Act.put, List.setIfInBounds_toArray, List.set_cons_zero, List.set_cons_succ, i64_w, i32_w]
    rfl
  refine pure_ (i := 12) (N := some 111) (v := ?_) (a' := ?_) #[true, true, true, true, true, true, true, true, true, true, true, true, true, false, false] rfl rfl (by kernel_rfl) (fun _ _ _ h => h) (Or.inl ⟨by rfl, ?_⟩) ?_ ?_
  rotate_left
  · intro w'
    go_simp
    with_reducible rfl
  rotate_left
  · simp only [Act.put, List.setIfInBounds_toArray, List.set_cons_zero, List.set_cons_succ, i64_w, i32_w]
    rfl
  refine pure_ (i := 13) (N := some 112) (v := ?_) (a' := ?_) #[true, true, true, true, true, true, true, true, true, true, true, true, true, true, false] rfl rfl (by kernel_rfl) (fun _ _ _ h => h) (Or.inl ⟨by rfl, ?_⟩) ?_ ?_
  rotate_left
  · intro w'
    go_simp
    with_reducible rfl
  rotate_left
  · simp only [Act.put, List.setIfInBounds_toArray, List.set_cons_zero, List.set_cons_succ, i64_w, i32_w]
    rfl
  refine last_ (i := 14) (N := none) #[true, true, true, true, true, true, true, true, true, true, true, true, true, true, true] rfl rfl (by kernel_rfl) (by decide) (fun K hK => ?_)
  have hz15 := World.grownBy.cell HG15.out (show World.cell? (World.drew W2) _ = _ from hzz) (by simp [Value.ownBlock])
  have hfz15 : w15.frozen? ⟨go, i * 3 + 1, none⟩ = false := (World.frozen?_of_block (HG15.out.block go HGOL.out (by simp [Value.ownBlock]))).trans hfz1
  refine skip_ (w1 := ?_) (by rfl) rfl ?_ ?_
  rotate_left
  · go_simp
    rfl
  refine hK.out _ _ ?_
  clear hK K
  refine done_ (by kernel_rfl) ?_

  have hgn : ∀ k, some k ≠ (Value.slice none 0 0).ownBlock := fun k => by simp [Value.ownBlock]
  have hN15 := Kd.N_grown (Kd.N_drew HN2.out) HG15.out (fun k _ => hgn k)
  have hcc15 : ∀ j u, [Value.string a1_1, .slice A1 ([] : List Int).length c1, .int .i64 0][j]? = some u → w15.cell? ⟨go, (i : Int).toNat * 3 + j, none⟩ = some u := fun j u hu => World.grownBy.cell HG15.out (show World.cell? (World.drew W2) _ = _ from HCC.out j u hu) (hgn _)
  have hFK : Kd.FK k61 w15 (fun k => W2.heap.size ≤ k) (⟨a1_1, l1_3, 0⟩ : S61) [.string a1_1, .slice A15 l1_3.length c15, .int .i64 0] := Kd.FK_of_M (k61_mkM w15 w.heap.size _ (⟨a1_1, l1_3, 0⟩ : S61) HO15.out)
  obtain ⟨hs1, hs2⟩ := Kd.N_seg hN15 (i : Int) (of_eq_true i0) (of_eq_true i1) (seg := [.slice A15 l1_3.length c15]) (j := 1) (okp := fun k => W2.heap.size ≤ k) (x' := (⟨a1_1, l1_3, 0⟩ : S61)) rfl hcc15 (show 2 ≤ 3 by decide) hFK (fun k hk => ⟨⟨Nat.lt_of_lt_of_le (blk_lt CB4.out) hk, fun e => absurd (blk_lt CB8.out) (Nat.not_lt.2 (e ▸ hk))⟩, fun e => absurd HGOL.out (Nat.not_lt.2 (e ▸ hk))⟩)
  have hset : L.set (i : Int).toNat (⟨a1_1, l1_3, 0⟩ : S61) = putAt l0_1 i ⟨a1_1, l1_3, 0⟩ := by
    rw [HLL.out, Int.toNat_natCast]
    unfold putAt
    have hl : (l0_1.take i).length = i := by rw [List.length_take]; have := HIL.out; omega
    rw [List.set_append_right _ _ (by omega), hl, Nat.sub_self]
    rfl
  rw [hset] at hs1
  have hE := HE.out
  rw [← HI.out] at hE
  injection hE with he1 he2
  injection he2 with he2 he3
  subst he1
  subst he2
  subst he3
  have CB8_ : Aside0 ((w15.setCell ⟨go, i * 3 + 1, none⟩ (.slice A15 l1_3.length c15)).heap[g8]? = some (.cells #[.int .i64 a0_0, .slice (some ⟨go, 0, none⟩) L.length c14] 24 (0, 0))) := ⟨blk_far (blk_grown (w := W2.drew) CB8.out HG15.out (hgn _)) ng8 _⟩
  have CB4_ : Aside0 ((w15.setCell ⟨go, i * 3 + 1, none⟩ (.slice A15 l1_3.length c15)).heap[g4]? = some (.cells #[.int .i64 0, .slice none 0 0] 24 (0, 0))) := ⟨blk_far (blk_grown (w := W2.drew) CB4.out HG15.out (hgn _)) ng4 _⟩
  have HB_ : Aside0 (Below w.heap.size w (w15.setCell ⟨go, i * 3 + 1, none⟩ (.slice A15 l1_3.length c15))) := ⟨below_set HB15.out HGB.out⟩
  have HV : Aside0 (Kd.V k61 61 (w15.setCell ⟨go, i * 3 + 1, none⟩ (.slice A15 l1_3.length c15)) w.heap.size (fun k => g4 < k ∧ k ≠ g8) (.slice (some ⟨go, 0, none⟩) L.length c14) _) := ⟨N_V hs1⟩
  clear HB CB3 CB4 CB8 v33 v81
  generalize w15.setCell ⟨go, i * 3 + 1, none⟩ (.slice A15 l1_3.length c15) = WX at *
  have HB := HB_
  have CB4 := CB4_
  have CB8 := CB8_
  clear HB_ CB4_ CB8_
  have v40 : WX.cell? ⟨g4, 0, none⟩ = some (.int .i64 0) := (blk_cell CB4.out 0).trans rfl
  have v41 : WX.cell? ⟨g4, 1, none⟩ = some (.slice none 0 0) := (blk_cell CB4.out 1).trans rfl
  have f40 := blk_frozen CB4.out 0
  have f41 := blk_frozen CB4.out 1
  have v80 : WX.cell? ⟨g8, 0, none⟩ = some (.int .i64 a0_0) := (blk_cell CB8.out 0).trans rfl
  have v81 : WX.cell? ⟨g8, 1, none⟩ = some (.slice (some ⟨go, 0, none⟩) L.length c14) := (blk_cell CB8.out 1).trans rfl
  have f80 := blk_frozen CB8.out 0
  have f81 := blk_frozen CB8.out 1
  go_wp2
  refine bodyPost_ret (results_ct rfl _ _ g4 24 #[.int .i64 a0_0, .slice (some ⟨go, 0, none⟩) L.length c14] (0, 0) _ rfl (blk_put (cs := #[.int .i64 a0_0, .slice none 0 0]) (blk_put (cs := #[.int .i64 0, .slice none 0 0]) CB4.out 0 _ rfl) 1 _ rfl) Try.underlying24 rfl (by kernel_rfl)) rfl ?_
  exact ⟨_, rfl, Kd.V_mono (Kd.V_far (p := ⟨g4, 1, none⟩) (Kd.V_far (p := ⟨g4, 0, none⟩) HV.out (fun k hk => Nat.ne_of_gt hk.1) _) (fun k hk => Nat.ne_of_gt hk.1) _) (fun k hk => Nat.le_of_lt (Nat.lt_of_le_of_lt G4.out hk.1)), below_set (below_set HB.out G4.out) G4.out⟩
def store_Do.f (a0_0 : Int) (l0_1 : List S61) (a1_0 : Int) (a1_1 : ByteArray) (a1_2 : ByteArray) (l1_3 : List Int) : Option (Int × List S61 × Int) :=
  if SmallD l0_1 ∧ l1_3.length ≤ 140737488351232 ∧ FormedR a0_0 l0_1 ∧ nmd a1_1 ∧ a1_0 = 1 ∧ foundS l0_1 a1_1 = false ∧ l0_1.length ≠ 256 ∧ totS l0_1 + (l1_3.length : Int) ≤ a0_0 then some (a0_0, putAt l0_1 (idxS l0_1 a1_1) ⟨a1_1, l1_3, 0⟩, 0) else none
theorem store_Do.calls (a0_0 : Int) (A0_1 : Option Addr) (c0_1 : Nat) (l0_1 : List S61) (a1_0 : Int) (a1_1 : ByteArray) (a1_2 : ByteArray) (A1_3 : Option Addr) (c1_3 : Nat) (l1_3 : List Int) (r1 : Int) (r2 : List S61) (r3 : Int) (w : World) (hr0_1 : Kd.C k61 w A0_1 l0_1.length l0_1) (hc0_1 : l0_1.length ≤ c0_1) (hr1_3 : Kd.C (Kd.int .u8) w A1_3 l1_3.length l1_3) (hc1_3 : l1_3.length ≤ c1_3) (h : store_Do.f a0_0 l0_1 a1_0 a1_1 a1_2 l1_3 = some (r1, r2, r3)) :
    Calls Try.prog 12 #[.agg #[.int .i64 a0_0, .slice A0_1 l0_1.length c0_1], .agg #[.int .i64 a1_0, .string a1_1, .string a1_2, .slice A1_3 l1_3.length c1_3]] w fun e w' => ∃ v1_ : Value, e = .returned (.tuple #[.agg #[.int .i64 r1, v1_], .int .i64 r3]) ∧ Kd.V k61 61 w' w.heap.size (fun k_ => w.heap.size ≤ k_) v1_ r2 ∧ Below w.heap.size w w' := by
  unfold store_Do.f at h
  by_cases hb : SmallD l0_1 ∧ l1_3.length ≤ 140737488351232 ∧ FormedR a0_0 l0_1 ∧ nmd a1_1 ∧ a1_0 = 1 ∧ foundS l0_1 a1_1 = false ∧ l0_1.length ≠ 256 ∧ totS l0_1 + (l1_3.length : Int) ≤ a0_0
  case neg =>
    rw [if_neg hb] at h
    cases h
  rw [if_pos hb] at h
  obtain ⟨hs, hm, hf, hn, h1, hfo, hl, hsp⟩ := hb
  exact do_app_new a0_0 A0_1 c0_1 l0_1 a1_0 a1_1 a1_2 A1_3 c1_3 l1_3 r1 r2 r3 w hr0_1 hc0_1 hr1_3 hc1_3 hs hf hn hm hfo h1 hl hsp (Option.some.inj h)
end Go.Proofs.Ytopjdjljpkcdlaa.S
