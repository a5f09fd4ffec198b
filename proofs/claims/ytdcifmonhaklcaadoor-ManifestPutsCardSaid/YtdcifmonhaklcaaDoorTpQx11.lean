/- Walks: each Go function that is told here comes to what the plain function beside it says, wherever that one answers. Written by a program of this session (wip/tools/pr.sh), after the manner of print.sh. -/
import Derived.Test.YtdcifmonhaklcaaDoorTpQx0
import Derived.Test.YtdcifmonhaklcaaDoorTpQx2
import Derived.Test.YtdcifmonhaklcaaDoorTpQx3
import Derived.Test.YtdcifmonhaklcaaDoorTpQx7
import Derived.Test.YtdcifmonhaklcaaDoorTpQx8
import Derived.Test.YtdcifmonhaklcaaDoorTpQx10
namespace Go.Proofs.YtdcifmonhaklcaaDoor.Q
open Go.RowKit Go.Proofs.YtdcifmonhaklcaaDoorW.PrintWords Go.Proofs.YtdcifmonhaklcaaDoorW.PrintLast Go.Proofs.YtdcifmonhaklcaaDoorW.PrintMore
attribute [local go_sem] min2_int min_two -- for this text's walks alone
set_option linter.unusedVariables false
set_option linter.unusedSimpArgs false
structure YX (w W : World) (g1 : Nat) (D : Array Value) (v : Value) (acc : List Int) (ok : Nat → Prop) : Prop where
  B : Below w.heap.size w W
  c1 : W.heap[g1]? = some (.cells D 27 (0, 0))
  hO : Kd.R (Kd.int .u8) 5 W w.heap.size (fun k => k ≠ g1 ∧ ok k) v acc
section
variable {w W W' : World} {g1 g5 : Nat} {D : Array Value} {v : Value} {acc : List Int} {ok : Nat → Prop}
theorem YX.step (h : YX w W g1 D v acc ok) (hb : Below W.heap.size W W') : YX w W' g1 D v acc ok :=
  ⟨below_step h.B hb, blk_below h.c1 hb, Kd.R_below h.hO hb⟩
theorem YX.new (h : YX w W g1 D v acc ok) (hb : Below W.heap.size W W') (hg : g5 = W.heap.size) : YX w W' g1 D v acc (fun k => k ≠ g5) :=
  ⟨below_step h.B hb, blk_below h.c1 hb, Kd.R_below (Kd.R_mono (Kd.R_bound h.hO) (fun k hk => ⟨hk.1.1, by have := hk.2.2.1; omega⟩)) hb⟩
theorem YX.any (h : YX w W g1 D v acc ok) : YX w W g1 D v acc (fun _ => True) := ⟨h.B, h.c1, Kd.R_mono h.hO (fun k hk => ⟨hk.1, trivial⟩)⟩
theorem YX.lt1 (h : YX w W g1 D v acc ok) : g1 < W.heap.size := blk_lt h.c1
theorem YX.drew (h : YX w W g1 D v acc ok) : YX w W.drew g1 D v acc ok := ⟨below_drew1 h.B, h.c1, Kd.R_drew h.hO⟩
theorem YX.row (h : YX w W g1 D v acc ok) {v1 : Value} {acc1 : List Int} (hB : Below w.heap.size w W') (hg : W.grownBy W' v.ownBlock) (hR : Kd.R (Kd.int .u8) 5 W' w.heap.size (fun k => k ≠ g1 ∧ ok k) v1 acc1) : YX w W' g1 D v1 acc1 ok :=
  ⟨hB, blk_grown h.c1 hg (fun e => (h.hO.1 g1 e.symm).1 rfl), hR⟩
end
theorem YX.vis {w W : World} {g1 : Nat} {a b c : Value} {v : Value} {acc : List Int} {ok : Nat → Prop} (h : YX w W g1 #[a, b, c] v acc ok) : W.cell? ⟨g1, 0, none⟩ = some a ∧ W.cell? ⟨g1, 1, none⟩ = some b ∧ W.cell? ⟨g1, 2, none⟩ = some c :=
  ⟨(blk_cell h.c1 0).trans rfl, (blk_cell h.c1 1).trans rfl, (blk_cell h.c1 2).trans rfl⟩
def dragnetref18_Bytes.f (l0_0 : List S63) (a0_1 a0_2 : Int) : Option (List Int) := if FormedC l0_0 a0_1 a0_2 then dragnetref01_Frame.f (10 * (bytesC l0_0 a0_1 a0_2).length + 50) (bytesC l0_0 a0_1 a0_2) else none
set_option maxHeartbeats 8000000 in
set_option maxRecDepth 100000 in
theorem dragnetref18_Bytes.calls (A0_0 : Option Addr) (c0_0 : Nat) (l0_0 : List (S63)) (a0_1 : Int) (a0_2 : Int) (r : List Int) (w : World) (hr0_0 : Kd.C k63 w A0_0 l0_0.length l0_0) (hc0_0 : l0_0.length ≤ c0_0) (hG : GT w) (h : dragnetref18_Bytes.f l0_0 a0_1 a0_2 = some r) :
    Calls Tryd.prog 24 #[.agg #[.slice A0_0 l0_0.length c0_0, .int .i64 a0_1, .int .i64 a0_2]] w fun e w' => ∃ v0_ : Value, e = .returned (v0_) ∧ Kd.R (Kd.int .u8) 5 w' w.heap.size (fun _ => True) v0_ r ∧ Below w.heap.size w w' := by
  unfold dragnetref18_Bytes.f at h
  by_cases hf : FormedC l0_0 a0_1 a0_2
  case neg => rw [if_neg hf] at h; cases h
  rw [if_pos hf] at h
  have HR := Aside0.mk hr0_0
  have HC := Aside0.mk hc0_0
  have HW := Aside0.mk h
  have HFO := Aside0.mk hf
  have HB := Aside0.mk (Below.refl w.heap.size w)
  clear hr0_0 hc0_0 hf h
  have hu27 := Tryd.underlying27
  have hu63 := Tryd.underlying63
  have hu25 := Tryd.underlying25
  have hu79 := Tryd.underlying79
  have hcn : (l0_0.length : Int) % 18446744073709551616 = (l0_0.length : Int) := by have := HFO.out.1; omega
  have HP0 := Aside0.mk (show dragnetref02_Bytes.f 10 (l0_0.length : Int) = some (putB (l0_0.length : Int)) from rbytes_f (by omega) (by have := HFO.out.1; omega) (Nat.le_refl _))
  have HACC := Aside0.mk (show accB l0_0 0 = putB (l0_0.length : Int) by unfold accB; rw [List.take_zero, flatB, List.append_nil])
  go_enter Tryd.func24, Tryd.ntmps24
  go_upto_region 2 with (first
    | ((with_reducible refine gate_dst (N := 1) rfl ?_); refine box_event ?hg (N := 1) ?hd (cs := #[.slice A0_0 l0_0.length c0_0, .int .i64 a0_1, .int .i64 a0_2]) (t := 27) ?hr ?_; (case hd => rfl); (case hg => rfl); (case hr => first | (go_simp; done) | (go_simp; rfl)); intro g1 hg1 w1 hbox hb; have HB_ := Aside0.mk (below_step HB.out hb); have CB1 := Aside0.mk hbox; clear hb hbox hg1 HB; have HB := HB_; clear HB_; have v10 : w1.cell? ⟨g1, 0, none⟩ = some (.slice A0_0 l0_0.length c0_0) := (blk_cell CB1.out 0).trans rfl; have v11 : w1.cell? ⟨g1, 1, none⟩ = some (.int .i64 a0_1) := (blk_cell CB1.out 1).trans rfl; have v12 : w1.cell? ⟨g1, 2, none⟩ = some (.int .i64 a0_2) := (blk_cell CB1.out 2).trans rfl)
    | (go_at_call 42; ((with_reducible refine (dragnetref02_Bytes.calls 10 (l0_0.length : Int) (putB (l0_0.length : Int)) _ HP0.out).mono ?_); rintro e w3 ⟨v3, rfl, hR, hb⟩; obtain ⟨A4, c4, rfl⟩ := Kd.R_slice hR; have HX := Aside0.mk (YX.mk (w := w) (ok := fun _ => True) (below_step HB.out hb) (blk_below CB1.out hb) (Kd.R_lower (Kd.R_mono (Kd.R_bound hR) (fun k hk => ⟨by have := hk.2.1; have := blk_lt CB1.out; omega, trivial⟩)) (below_size HB.out))); clear HB CB1 hb hR v10 v11 v12)))
  rw [← HACC.out] at HX ⊢
  obtain ⟨v10, v11, v12⟩ := HX.out.vis
  go_wp2
  go_loopw [3, 4] (fun v3 v4 w' => ∃ (i : Nat) (A4 : Option Addr) (c4 : Nat), v3 = .slice A4 (accB l0_0 i).length c4 ∧ v4 = .int .i64 i ∧ i ≤ l0_0.length ∧ Aside0 (YX w w' g1 #[.slice A0_0 l0_0.length c0_0, .int .i64 a0_1, .int .i64 a0_2] (.slice A4 (accB l0_0 i).length c4) (accB l0_0 i) (fun _ => True))) (fun _ v4 _ => l0_0.length - (intOf v4).toNat)
  case atStart => exact ⟨0, A4, c4, rfl, rfl, Nat.zero_le _, HX⟩
  case round =>
    clear HX v10 v11 v12 HACC
    obtain ⟨i, A4, c4, rfl, rfl, hil, HX⟩ := hrel
    obtain ⟨v10, v11, v12⟩ := HX.out.vis
    by_cases cs : i < l0_0.length
    · have csd := decide_eq_true (show (i : Int) < (l0_0.length : Int) by omega)
      obtain ⟨ad, rfl, hx0, hx1, hx2, hx3⟩ := at_T63 HR.out (i : Int) (by omega) (by omega)
      obtain ⟨x, hx⟩ : ∃ x, x = rd_T63 l0_0 (i : Int) := ⟨_, rfl⟩
      have HXX := Aside0.mk hx
      have HRX := Aside0.mk (ok_rng HFO.out cs)
      have HLA := Aside0.mk (accB_length HFO.out i hil)
      have HL64 := Aside0.mk HFO.out.1
      rw [← hx] at hx0 hx1 hx2 hx3 HRX
      replace hx0 := (HX.out.B.cell (World.block_lt_of_cell? w _ hx0)).trans hx0
      replace hx1 := (HX.out.B.cell (World.block_lt_of_cell? w _ hx1)).trans hx1
      replace hx2 := (HX.out.B.cell (World.block_lt_of_cell? w _ hx2)).trans hx2
      replace hx3 := (HX.out.B.cell (World.block_lt_of_cell? w _ hx3)).trans hx3
      rw [Int.toNat_natCast] at hx0 hx1 hx2 hx3
      clear hx
      have q0 := eq_true (show (0 : Int) ≤ (i : Int) by omega)
      have q1 := eq_true (show (i : Int) < (l0_0.length : Int) by omega)
      have hwr : IntKind.i64.wrap ((i : Int) + 1) = ((i + 1 : Nat) : Int) := by rw [IntKind.wrap_i64]; have := HL64.out; omega
      go_upto_region 5 with (first
        | fail)
      have HX_ := Aside0.mk HX.out.drew
      have v10_ : wr.drew.cell? ⟨g1, 0, none⟩ = some (.slice (some ad) l0_0.length c0_0) := v10
      have hx0_ : wr.drew.cell? (ad.add (i * 4)) = some (.int .i64 x.f0) := hx0
      have hx1_ : wr.drew.cell? ⟨(ad.add (i * 4)).block, (ad.add (i * 4)).off + 1, none⟩ = some (.int .i64 x.f1) := hx1
      have hx2_ : wr.drew.cell? ⟨(ad.add (i * 4)).block, (ad.add (i * 4)).off + 2, none⟩ = some (.int .i64 x.f2) := hx2
      have hx3_ : wr.drew.cell? ⟨(ad.add (i * 4)).block, (ad.add (i * 4)).off + 3, none⟩ = some (.int .i64 x.f3) := hx3
      clear HX v10 v11 v12 hx0 hx1 hx2 hx3
      have HX := HX_
      have v10 := v10_
      have hx0 := hx0_
      have hx1 := hx1_
      have hx2 := hx2_
      have hx3 := hx3_
      clear HX_ v10_ hx0_ hx1_ hx2_ hx3_
      refine start_ (n := 27) (S := fun w' => w'.cell? ⟨g1, 0, none⟩ = some (.slice (some ad) l0_0.length c0_0) ∧ w'.cell? (ad.add (i * 4)) = some (.int .i64 x.f0) ∧ w'.cell? ⟨(ad.add (i * 4)).block, (ad.add (i * 4)).off + 1, none⟩ = some (.int .i64 x.f1) ∧ w'.cell? ⟨(ad.add (i * 4)).block, (ad.add (i * 4)).off + 2, none⟩ = some (.int .i64 x.f2) ∧ w'.cell? ⟨(ad.add (i * 4)).block, (ad.add (i * 4)).off + 3, none⟩ = some (.int .i64 x.f3)) (ds := [26]) #[false, false, false, false, false, false, false, false, false, false, false, false, false, false, false, false, false, false, false, false, false, false, false, false, false, false, false] (by kernel_rfl) rfl rfl ⟨v10, hx0, hx1, hx2, hx3⟩ (fun hHeld => ?_)
      generalize wr.drew = W1 at *
      refine pure_ (i := 0) (N := some 19) (v := ?_) (a' := ?_) #[true, false, false, false, false, false, false, false, false, false, false, false, false, false, false, false, false, false, false, false, false, false, false, false, false, false, false] rfl rfl (by kernel_rfl) (fun _ _ _ h => h) (Or.inl ⟨by rfl, ?_⟩) ?_ ?_
      rotate_left
      · intro w'
        go_simp
        with_reducible rfl
      rotate_left
      · simp only [Act.put, List.setIfInBounds_toArray, List.set_cons_zero, List.set_cons_succ, i64_w, i32_w]
        rfl
      refine pure_ (i := 2) (N := some 21) (v := ?_) (a' := ?_) #[true, false, true, false, false, false, false, false, false, false, false, false, false, false, false, false, false, false, false, false, false, false, false, false, false, false, false] rfl rfl (by kernel_rfl) (fun _ _ _ h => h) (Or.inl ⟨by rfl, ?_⟩) ?_ ?_
      rotate_left
      · intro w'
        go_simp
        with_reducible rfl
      rotate_left
      · simp only [Act.put, List.setIfInBounds_toArray, List.set_cons_zero, List.set_cons_succ, i64_w, i32_w]
        rfl
      refine pure_ (i := 6) (N := some 25) (v := ?_) (a' := ?_) #[true, false, true, false, false, false, true, false, false, false, false, false, false, false, false, false, false, false, false, false, false, false, false, false, false, false, false] rfl rfl (by kernel_rfl) (fun _ _ _ h => h) (Or.inl ⟨by rfl, ?_⟩) ?_ ?_
      rotate_left
      · intro w'
        go_simp
        with_reducible rfl
      rotate_left
      · simp only [Act.put, List.setIfInBounds_toArray, List.set_cons_zero, List.set_cons_succ, i64_w, i32_w]
        rfl
      refine pure_ (i := 8) (N := some 27) (v := ?_) (a' := ?_) #[true, false, true, false, false, false, true, false, true, false, false, false, false, false, false, false, false, false, false, false, false, false, false, false, false, false, false] rfl rfl (by kernel_rfl) (fun _ _ _ h => h) (Or.inl ⟨by rfl, ?_⟩) ?_ ?_
      rotate_left
      · intro w'
        go_simp
        with_reducible rfl
      rotate_left
      · simp only [Act.put, List.setIfInBounds_toArray, List.set_cons_zero, List.set_cons_succ, i64_w, i32_w]
        rfl
      refine pure_ (i := 12) (N := some 31) (v := ?_) (a' := ?_) #[true, false, true, false, false, false, true, false, true, false, false, false, true, false, false, false, false, false, false, false, false, false, false, false, false, false, false] rfl rfl (by kernel_rfl) (fun _ _ _ h => h) (Or.inl ⟨by rfl, ?_⟩) ?_ ?_
      rotate_left
      · intro w'
        go_simp
        with_reducible rfl
      rotate_left
      · simp only [Act.put, List.setIfInBounds_toArray, List.set_cons_zero, List.set_cons_succ, i64_w, i32_w]
        rfl
      refine pure_ (i := 14) (N := some 33) (v := ?_) (a' := ?_) #[true, false, true, false, false, false, true, false, true, false, false, false, true, false, true, false, false, false, false, false, false, false, false, false, false, false, false] rfl rfl (by kernel_rfl) (fun _ _ _ h => h) (Or.inl ⟨by rfl, ?_⟩) ?_ ?_
      rotate_left
      · intro w'
        go_simp
        with_reducible rfl
      rotate_left
      · simp only [Act.put, List.setIfInBounds_toArray, List.set_cons_zero, List.set_cons_succ, i64_w, i32_w]
        rfl
      refine pure_ (i := 18) (N := some 37) (v := ?_) (a' := ?_) #[true, false, true, false, false, false, true, false, true, false, false, false, true, false, true, false, false, false, true, false, false, false, false, false, false, false, false] rfl rfl (by kernel_rfl) (fun _ _ _ h => h) (Or.inl ⟨by rfl, ?_⟩) ?_ ?_
      rotate_left
      · intro w'
        go_simp
        with_reducible rfl
      rotate_left
      · simp only [Act.put, List.setIfInBounds_toArray, List.set_cons_zero, List.set_cons_succ, i64_w, i32_w]
        rfl
      refine pure_ (i := 20) (N := some 39) (v := ?_) (a' := ?_) #[true, false, true, false, false, false, true, false, true, false, false, false, true, false, true, false, false, false, true, false, true, false, false, false, false, false, false] rfl rfl (by kernel_rfl) (fun _ _ _ h => h) (Or.inl ⟨by rfl, ?_⟩) ?_ ?_
      rotate_left
      · intro w'
        go_simp
        with_reducible rfl
      rotate_left
      · simp only [Act.put, List.setIfInBounds_toArray, List.set_cons_zero, List.set_cons_succ, i64_w, i32_w]
        rfl
      refine take_ (i := 1) (N := some 20) (v := ?_) (a' := ?_) #[true, true, true, false, false, false, true, false, true, false, false, false, true, false, true, false, false, false, true, false, true, false, false, false, false, false, false] rfl rfl (by kernel_rfl) (fun _ _ _ h => h) (Or.inl ⟨by rfl, ?_⟩) hHeld ?_ ?_
      rotate_left
      · rintro w' ⟨s0, s1, s2, s3, s4⟩
        go_simp
        with_reducible rfl
      rotate_left
      · simp only [Act.put, List.setIfInBounds_toArray, List.set_cons_zero, List.set_cons_succ, i64_w, i32_w]
        rfl
      refine pure_ (i := 3) (N := some 22) (v := ?_) (a' := ?_) #[true, true, true, true, false, false, true, false, true, false, false, false, true, false, true, false, false, false, true, false, true, false, false, false, false, false, false] rfl rfl (by kernel_rfl) (fun _ _ _ h => h) (Or.inl ⟨by rfl, ?_⟩) ?_ ?_
      rotate_left
      · intro w'
        go_simp
        with_reducible rfl
      rotate_left
      · simp only [Act.put, List.setIfInBounds_toArray, List.set_cons_zero, List.set_cons_succ, i64_w, i32_w]
        rfl
      refine pure_ (i := 4) (N := some 23) (v := ?_) (a' := ?_) #[true, true, true, true, true, false, true, false, true, false, false, false, true, false, true, false, false, false, true, false, true, false, false, false, false, false, false] rfl rfl (by kernel_rfl) (fun _ _ _ h => h) (Or.inl ⟨by rfl, ?_⟩) ?_ ?_
      rotate_left
      · intro w'
        go_simp
        with_reducible rfl
      rotate_left
      · simp only [Act.put, List.setIfInBounds_toArray, List.set_cons_zero, List.set_cons_succ, i64_w, i32_w]
        rfl
      refine take_ (i := 5) (N := some 24) (v := ?_) (a' := ?_) #[true, true, true, true, true, true, true, false, true, false, false, false, true, false, true, false, false, false, true, false, true, false, false, false, false, false, false] rfl rfl (by kernel_rfl) (fun _ _ _ h => h) (Or.inl ⟨by rfl, ?_⟩) hHeld ?_ ?_
      rotate_left
      · rintro w' ⟨s0, s1, s2, s3, s4⟩
        go_simp
        with_reducible rfl
      rotate_left
      · simp only [Act.put, List.setIfInBounds_toArray, List.set_cons_zero, List.set_cons_succ, i64_w, i32_w]
        rfl
      refine take_ (i := 7) (N := some 26) (v := ?_) (a' := ?_) #[true, true, true, true, true, true, true, true, true, false, false, false, true, false, true, false, false, false, true, false, true, false, false, false, false, false, false] rfl rfl (by kernel_rfl) (fun _ _ _ h => h) (Or.inl ⟨by rfl, ?_⟩) hHeld ?_ ?_
      rotate_left
      · rintro w' ⟨s0, s1, s2, s3, s4⟩
        go_simp
        with_reducible rfl
      rotate_left
      · simp only [Act.put, List.setIfInBounds_toArray, List.set_cons_zero, List.set_cons_succ, i64_w, i32_w]
        rfl
      refine pure_ (i := 9) (N := some 28) (v := ?_) (a' := ?_) #[true, true, true, true, true, true, true, true, true, true, false, false, true, false, true, false, false, false, true, false, true, false, false, false, false, false, false] rfl rfl (by kernel_rfl) (fun _ _ _ h => h) (Or.inl ⟨by rfl, ?_⟩) ?_ ?_
      rotate_left
      · intro w'
        go_simp
        with_reducible rfl
      rotate_left
      · simp only [Act.put, List.setIfInBounds_toArray, List.set_cons_zero, List.set_cons_succ, i64_w, i32_w]
        rfl
      refine pure_ (i := 10) (N := some 29) (v := ?_) (a' := ?_) #[true, true, true, true, true, true, true, true, true, true, true, false, true, false, true, false, false, false, true, false, true, false, false, false, false, false, false] rfl rfl (by kernel_rfl) (fun _ _ _ h => h) (Or.inl ⟨by rfl, ?_⟩) ?_ ?_
      rotate_left
      · intro w'
        go_simp
        with_reducible rfl
      rotate_left
      · simp only [Act.put, List.setIfInBounds_toArray, List.set_cons_zero, List.set_cons_succ, i64_w, i32_w]
        rfl
      refine take_ (i := 11) (N := some 30) (v := ?_) (a' := ?_) #[true, true, true, true, true, true, true, true, true, true, true, true, true, false, true, false, false, false, true, false, true, false, false, false, false, false, false] rfl rfl (by kernel_rfl) (fun _ _ _ h => h) (Or.inl ⟨by rfl, ?_⟩) hHeld ?_ ?_
      rotate_left
      · rintro w' ⟨s0, s1, s2, s3, s4⟩
        go_simp
        with_reducible rfl
      rotate_left
      · simp only [Act.put, List.setIfInBounds_toArray, List.set_cons_zero, List.set_cons_succ, i64_w, i32_w]
        rfl
      refine take_ (i := 13) (N := some 32) (v := ?_) (a' := ?_) #[true, true, true, true, true, true, true, true, true, true, true, true, true, true, true, false, false, false, true, false, true, false, false, false, false, false, false] rfl rfl (by kernel_rfl) (fun _ _ _ h => h) (Or.inl ⟨by rfl, ?_⟩) hHeld ?_ ?_
      rotate_left
      · rintro w' ⟨s0, s1, s2, s3, s4⟩
        go_simp
        with_reducible rfl
      rotate_left
      · simp only [Act.put, List.setIfInBounds_toArray, List.set_cons_zero, List.set_cons_succ, i64_w, i32_w]
        rfl
      refine pure_ (i := 15) (N := some 34) (v := ?_) (a' := ?_) #[true, true, true, true, true, true, true, true, true, true, true, true, true, true, true, true, false, false, true, false, true, false, false, false, false, false, false] rfl rfl (by kernel_rfl) (fun _ _ _ h => h) (Or.inl ⟨by rfl, ?_⟩) ?_ ?_
      rotate_left
      · intro w'
        go_simp
        with_reducible rfl
      rotate_left
      · simp only [Act.put, List.setIfInBounds_toArray, List.set_cons_zero, List.set_cons_succ, i64_w, i32_w]
        rfl
      refine pure_ (i := 16) (N := some 35) (v := ?_) (a' := ?_) #[true, true, true, true, true, true, true, true, true, true, true, true, true, true, true, true, true, false, true, false, true, false, false, false, false, false, false] rfl rfl (by kernel_rfl) (fun _ _ _ h => h) (Or.inl ⟨by rfl, ?_⟩) ?_ ?_
      rotate_left
      · intro w'
        go_simp
        with_reducible rfl
      rotate_left
      · simp only [Act.put, List.setIfInBounds_toArray, List.set_cons_zero, List.set_cons_succ, i64_w, i32_w]
        rfl
      refine take_ (i := 17) (N := some 36) (v := ?_) (a' := ?_) #[true, true, true, true, true, true, true, true, true, true, true, true, true, true, true, true, true, true, true, false, true, false, false, false, false, false, false] rfl rfl (by kernel_rfl) (fun _ _ _ h => h) (Or.inl ⟨by rfl, ?_⟩) hHeld ?_ ?_
      rotate_left
      · rintro w' ⟨s0, s1, s2, s3, s4⟩
        go_simp
        with_reducible rfl
      rotate_left
      · simp only [Act.put, List.setIfInBounds_toArray, List.set_cons_zero, List.set_cons_succ, i64_w, i32_w]
        rfl
      refine take_ (i := 19) (N := some 38) (v := ?_) (a' := ?_) #[true, true, true, true, true, true, true, true, true, true, true, true, true, true, true, true, true, true, true, true, true, false, false, false, false, false, false] rfl rfl (by kernel_rfl) (fun _ _ _ h => h) (Or.inl ⟨by rfl, ?_⟩) hHeld ?_ ?_
      rotate_left
      · rintro w' ⟨s0, s1, s2, s3, s4⟩
        go_simp
        with_reducible rfl
      rotate_left
      · simp only [Act.put, List.setIfInBounds_toArray, List.set_cons_zero, List.set_cons_succ, i64_w, i32_w]
        rfl
      refine pure_ (i := 21) (N := some 40) (v := ?_) (a' := ?_) #[true, true, true, true, true, true, true, true, true, true, true, true, true, true, true, true, true, true, true, true, true, true, false, false, false, false, false] rfl rfl (by kernel_rfl) (fun _ _ _ h => h) (Or.inl ⟨by rfl, ?_⟩) ?_ ?_
      rotate_left
      · intro w'
        go_simp
        with_reducible rfl
      rotate_left
      · simp only [Act.put, List.setIfInBounds_toArray, List.set_cons_zero, List.set_cons_succ, i64_w, i32_w]
        rfl
      refine pure_ (i := 22) (N := some 41) (v := ?_) (a' := ?_) #[true, true, true, true, true, true, true, true, true, true, true, true, true, true, true, true, true, true, true, true, true, true, true, false, false, false, false] rfl rfl (by kernel_rfl) (fun _ _ _ h => h) (Or.inl ⟨by rfl, ?_⟩) ?_ ?_
      rotate_left
      · intro w'
        go_simp
        with_reducible rfl
      rotate_left
      · simp only [Act.put, List.setIfInBounds_toArray, List.set_cons_zero, List.set_cons_succ, i64_w, i32_w]
        rfl
      refine take_ (i := 23) (N := some 42) (v := ?_) (a' := ?_) #[true, true, true, true, true, true, true, true, true, true, true, true, true, true, true, true, true, true, true, true, true, true, true, true, false, false, false] rfl rfl (by kernel_rfl) (fun _ _ _ h => h) (Or.inl ⟨by rfl, ?_⟩) hHeld ?_ ?_
      rotate_left
      · rintro w' ⟨s0, s1, s2, s3, s4⟩
        go_simp
        with_reducible rfl
      rotate_left
      · simp only [Act.put, List.setIfInBounds_toArray, List.set_cons_zero, List.set_cons_succ, i64_w, i32_w]
        rfl
      refine pure_ (i := 24) (N := some 43) (v := ?_) (a' := ?_) #[true, true, true, true, true, true, true, true, true, true, true, true, true, true, true, true, true, true, true, true, true, true, true, true, true, false, false] rfl rfl (by kernel_rfl) (fun _ _ _ h => h) (Or.inl ⟨by rfl, ?_⟩) ?_ ?_
      rotate_left
      · intro w'
        go_simp
        with_reducible rfl
      rotate_left
      · simp only [Act.put, List.setIfInBounds_toArray, List.set_cons_zero, List.set_cons_succ, i64_w, i32_w]
        rfl
      refine one_ (i := 25) (N := some 5) #[true, true, true, true, true, true, true, true, true, true, true, true, true, true, true, true, true, true, true, true, true, true, true, true, true, true, false] rfl rfl (by kernel_rfl) (by decide) (fun K hK => ?_)
      refine value_ (w1 := ?_) (v := ?_) (by rfl) rfl ?_ ?_
      rotate_left 2
      · go_simp
        constructor
        · rfl
        · rfl
      have HBa := Aside0.mk (below_alloc (Below.refl W1.heap.size W1) (.cells #[.int .i64 0, .int .i64 0, .int .i64 0, .int .i64 0] 79 (0, 0)))
      have CB5 := Aside0.mk (blk_new W1 (.cells #[.int .i64 0, .int .i64 0, .int .i64 0, .int .i64 0] 79 (0, 0)))
      have v10_ := pw_cell_below HBa.out v10
      have hx0_ := pw_cell_below HBa.out hx0
      have hx1_ := pw_cell_below HBa.out hx1
      have hx2_ := pw_cell_below HBa.out hx2
      have hx3_ := pw_cell_below HBa.out hx3
      clear hHeld v10 hx0 hx1 hx2 hx3
      generalize W1.alloc (.cells #[.int .i64 0, .int .i64 0, .int .i64 0, .int .i64 0] 79 (0, 0)) = W2 at *
      generalize hg5 : W1.heap.size = g5 at *
      have HG5 := Aside0.mk hg5
      clear hg5
      have v10 := v10_
      have hx0 := hx0_
      have hx1 := hx1_
      have hx2 := hx2_
      have hx3 := hx3_
      clear v10_ hx0_ hx1_ hx2_ hx3_
      have c50 : W2.cell? ⟨g5, 0, none⟩ = some (.int .i64 0) := (blk_cell CB5.out 0).trans rfl
      have c51 : W2.cell? ⟨g5, 1, none⟩ = some (.int .i64 0) := (blk_cell CB5.out 1).trans rfl
      have c52 : W2.cell? ⟨g5, 2, none⟩ = some (.int .i64 0) := (blk_cell CB5.out 2).trans rfl
      have c53 : W2.cell? ⟨g5, 3, none⟩ = some (.int .i64 0) := (blk_cell CB5.out 3).trans rfl
      have z50 := blk_frozen CB5.out 0
      have z51 := blk_frozen CB5.out 1
      have z52 := blk_frozen CB5.out 2
      have z53 := blk_frozen CB5.out 3
      refine hK.out _ _ ⟨v10, hx0, hx1, hx2, hx3⟩ (fun hHeld => ?_)
      clear hK K
      refine norm_ (a' := ?_) ?_ ?_
      rotate_left
      · show Act.put _ (some 5) _ = _
        simp only [Act.put, List.setIfInBounds_toArray, List.set_cons_zero, List.set_cons_succ, i64_w, i32_w]
        rfl
      refine last_ (i := 26) (N := none) #[true, true, true, true, true, true, true, true, true, true, true, true, true, true, true, true, true, true, true, true, true, true, true, true, true, true, true] rfl rfl (by kernel_rfl) (by decide) (fun K hK => ?_)
      refine skip_ (w1 := ?_) (by rfl) rfl ?_ ?_
      rotate_left
      · go_simp
        rfl
      refine hK.out _ _ ?_
      clear hK K
      refine done_ (by kernel_rfl) ?_

      have HBa2 : Below W1.heap.size W1 W2 := by rw [HG5.out]; exact HBa.out
      have HBW : Aside0 (Below W1.heap.size W1 ((((W2.setCell ⟨g5, 0, none⟩ (.int .i64 x.f0)).setCell ⟨g5, 1, none⟩ (.int .i64 x.f1)).setCell ⟨g5, 2, none⟩ (.int .i64 x.f2)).setCell ⟨g5, 3, none⟩ (.int .i64 x.f3))) := ⟨(below_set (below_set (below_set (below_set HBa2 (Nat.le_of_eq HG5.out)) (Nat.le_of_eq HG5.out)) (Nat.le_of_eq HG5.out)) (Nat.le_of_eq HG5.out))⟩
      have HX_ := Aside0.mk (HX.out.new HBW.out HG5.out.symm)
      have CB5_ := Aside0.mk (blk_put (cs' := #[.int .i64 x.f0, .int .i64 x.f1, .int .i64 x.f2, .int .i64 x.f3]) (blk_put (cs' := #[.int .i64 x.f0, .int .i64 x.f1, .int .i64 x.f2, .int .i64 0]) (blk_put (cs' := #[.int .i64 x.f0, .int .i64 x.f1, .int .i64 0, .int .i64 0]) (blk_put (cs' := #[.int .i64 x.f0, .int .i64 0, .int .i64 0, .int .i64 0]) CB5.out 0 (.int .i64 x.f0) rfl) 1 (.int .i64 x.f1) rfl) 2 (.int .i64 x.f2) rfl) 3 (.int .i64 x.f3) rfl)
      clear HX CB5 HBa HBa2 HBW HG5 hHeld v10 hx0 hx1 hx2 hx3 c50 c51 c52 c53 z50 z51 z52 z53
      generalize ((((W2.setCell ⟨g5, 0, none⟩ (.int .i64 x.f0)).setCell ⟨g5, 1, none⟩ (.int .i64 x.f1)).setCell ⟨g5, 2, none⟩ (.int .i64 x.f2)).setCell ⟨g5, 3, none⟩ (.int .i64 x.f3)) = W3 at *
      have HX := HX_
      have CB5 := CB5_
      clear HX_ CB5_
      obtain ⟨v10, v11, v12⟩ := HX.out.vis
      have HE0 := Aside0.mk (show accB l0_0 i ++ preB x 0 = accB l0_0 i by unfold preB; rw [List.append_nil])
      go_wp2
      go_loopw [3, 6] (fun v3 v6 w' => ∃ (j : Nat) (A4 : Option Addr) (c4 : Nat) (acc : List Int), v3 = .slice A4 acc.length c4 ∧ v6 = .int .i64 j ∧ j ≤ 4 ∧ Aside0 (acc = accB l0_0 i ++ preB x j) ∧ Aside0 (YX w w' g1 #[.slice (some ad) l0_0.length c0_0, .int .i64 a0_1, .int .i64 a0_2] (.slice A4 acc.length c4) acc (fun k => k ≠ g5)) ∧ Aside0 (w'.heap[g5]? = some (.cells #[.int .i64 x.f0, .int .i64 x.f1, .int .i64 x.f2, .int .i64 x.f3] 79 (0, 0)))) (fun _ v6 _ => 4 - (intOf v6).toNat)
      case atStart => exact ⟨0, A4, c4, accB l0_0 i, rfl, rfl, Nat.zero_le _, ⟨HE0.out.symm⟩, HX, CB5⟩
      case round =>
        clear HX CB5 v10 v11 v12 HE0
        obtain ⟨j, A4, c4, acc, rfl, rfl, hj, HQ, HX, CB5⟩ := hrel
        obtain ⟨v10, v11, v12⟩ := HX.out.vis
        rcases (show j = 0 ∨ j = 1 ∨ j = 2 ∨ j = 3 ∨ j = 4 by omega) with rfl | rfl | rfl | rfl | rfl
        · have hmod : x.f0 % 18446744073709551616 = x.f0 := by have := (show 0 ≤ x.f0 ∧ x.f0 < 18446744073709551616 from HRX.out 0); omega
          have HPJ := Aside0.mk (show dragnetref02_Bytes.f 10 x.f0 = some (putB x.f0) from rbytes_f (HRX.out 0).1 (HRX.out 0).2 (Nat.le_refl _))
          have HLJ := Aside0.mk (show acc.length + (putB x.f0).length < 140737488355328 by
            have := preB_length HRX.out 0
            have := HLA.out
            have := HL64.out
            have := (putB_length (HRX.out 0).1 (HRX.out 0).2).2
            rw [HQ.out, List.length_append]
            have h2 : (putB x.f0).length ≤ 9 := this
            omega)
          obtain ⟨y, hy⟩ : ∃ y, y = putB x.f0 := ⟨_, rfl⟩
          have HYE := Aside0.mk hy
          rw [← hy] at HPJ HLJ
          clear hy
          obtain ⟨acc2, hacc2⟩ : ∃ acc2, acc2 = acc ++ y := ⟨_, rfl⟩
          have NA2 := Aside0.mk hacc2
          clear hacc2
          have y0 : wr.cell? ⟨g5, 0, none⟩ = some (.int .i64 x.f0) := (blk_cell CB5.out 0).trans rfl
          go_wp2_with (first
            | (go_at_call 42; ((with_reducible refine (dragnetref02_Bytes.calls 10 x.f0 y _ HPJ.out).mono ?_); rintro e w5 ⟨v5, rfl, hR, hb⟩; obtain ⟨A5, c5, rfl⟩ := Kd.R_slice hR; have HYv5 := Aside0.mk (Kd.R_reads' hR); have HX_ := Aside0.mk (HX.out.step hb); have CB5_ := Aside0.mk (blk_below CB5.out hb); clear CB5; have CB5 := CB5_; clear CB5_; clear HX hb hR v10 v11 v12; have HX := HX_; clear HX_; obtain ⟨v10, v11, v12⟩ := HX.out.vis))
            | ((with_reducible refine gate_builtin (b := .append) (xs := #[.tmp 48, .tmp 53]) rfl ?_); at_builtin; (refine Kd.R_append_rows (Kd.int .u8) (w0 := w) w.heap.size rfl (.tmp 48) (.tmp 53) 22 5 (.int .u8 0) 1 rfl Tryd.underlying22 info5 rfl (by decide) (by omega) (.slice A4 acc.length c4) acc y _ _ _ (fun k => k ≠ g1 ∧ k ≠ g5) (fun _ => False) rfl rfl ?aO ?aR (fun _ _ h => h) (fun _ h => h.elim) ?aF ?aB ?aS ?aL ?_; (case aR => exact HYv5.out.2.2); (case aB => exact HX.out.B); (case aF => exact (fun k hk => by have := HX.out.lt1; have := blk_lt CB5.out; exact ⟨by omega, by omega⟩)); (case aO => exact HX.out.hO); (case aS => exact below_size HX.out.B); (case aL => exact (by have := HLJ.out; omega)); intro v53 w6 ho hb hgr hat; rw [← NA2.out] at ho; obtain ⟨A6, c6, e53⟩ := Kd.R_slice ho; subst e53; have HX_ := Aside0.mk (HX.out.row hb hgr ho); have CB5_ := Aside0.mk (blk_grown CB5.out hgr (fun e => (HX.out.hO.1 g5 e.symm).2 rfl)); clear CB5; have CB5 := CB5_; clear CB5_; clear HX ho hb hgr hat v10 v11 v12; have HX := HX_; clear HX_; obtain ⟨v10, v11, v12⟩ := HX.out.vis)))
          go_roundw
          · exact ⟨1, A6, c6, acc2, rfl, rfl, by decide, ⟨by rw [NA2.out, HYE.out, HQ.out]; exact List.append_assoc _ _ _⟩, HX, CB5⟩
          · decide
        · have hmod : x.f1 % 18446744073709551616 = x.f1 := by have := (show 0 ≤ x.f1 ∧ x.f1 < 18446744073709551616 from HRX.out 1); omega
          have HPJ := Aside0.mk (show dragnetref02_Bytes.f 10 x.f1 = some (putB x.f1) from rbytes_f (HRX.out 1).1 (HRX.out 1).2 (Nat.le_refl _))
          have HLJ := Aside0.mk (show acc.length + (putB x.f1).length < 140737488355328 by
            have := preB_length HRX.out 1
            have := HLA.out
            have := HL64.out
            have := (putB_length (HRX.out 1).1 (HRX.out 1).2).2
            rw [HQ.out, List.length_append]
            have h2 : (putB x.f1).length ≤ 9 := this
            omega)
          obtain ⟨y, hy⟩ : ∃ y, y = putB x.f1 := ⟨_, rfl⟩
          have HYE := Aside0.mk hy
          rw [← hy] at HPJ HLJ
          clear hy
          obtain ⟨acc2, hacc2⟩ : ∃ acc2, acc2 = acc ++ y := ⟨_, rfl⟩
          have NA2 := Aside0.mk hacc2
          clear hacc2
          have y1 : wr.cell? ⟨g5, 1, none⟩ = some (.int .i64 x.f1) := (blk_cell CB5.out 1).trans rfl
          go_wp2_with (first
            | (go_at_call 42; ((with_reducible refine (dragnetref02_Bytes.calls 10 x.f1 y _ HPJ.out).mono ?_); rintro e w5 ⟨v5, rfl, hR, hb⟩; obtain ⟨A5, c5, rfl⟩ := Kd.R_slice hR; have HYv5 := Aside0.mk (Kd.R_reads' hR); have HX_ := Aside0.mk (HX.out.step hb); have CB5_ := Aside0.mk (blk_below CB5.out hb); clear CB5; have CB5 := CB5_; clear CB5_; clear HX hb hR v10 v11 v12; have HX := HX_; clear HX_; obtain ⟨v10, v11, v12⟩ := HX.out.vis))
            | ((with_reducible refine gate_builtin (b := .append) (xs := #[.tmp 48, .tmp 53]) rfl ?_); at_builtin; (refine Kd.R_append_rows (Kd.int .u8) (w0 := w) w.heap.size rfl (.tmp 48) (.tmp 53) 22 5 (.int .u8 0) 1 rfl Tryd.underlying22 info5 rfl (by decide) (by omega) (.slice A4 acc.length c4) acc y _ _ _ (fun k => k ≠ g1 ∧ k ≠ g5) (fun _ => False) rfl rfl ?aO ?aR (fun _ _ h => h) (fun _ h => h.elim) ?aF ?aB ?aS ?aL ?_; (case aR => exact HYv5.out.2.2); (case aB => exact HX.out.B); (case aF => exact (fun k hk => by have := HX.out.lt1; have := blk_lt CB5.out; exact ⟨by omega, by omega⟩)); (case aO => exact HX.out.hO); (case aS => exact below_size HX.out.B); (case aL => exact (by have := HLJ.out; omega)); intro v53 w6 ho hb hgr hat; rw [← NA2.out] at ho; obtain ⟨A6, c6, e53⟩ := Kd.R_slice ho; subst e53; have HX_ := Aside0.mk (HX.out.row hb hgr ho); have CB5_ := Aside0.mk (blk_grown CB5.out hgr (fun e => (HX.out.hO.1 g5 e.symm).2 rfl)); clear CB5; have CB5 := CB5_; clear CB5_; clear HX ho hb hgr hat v10 v11 v12; have HX := HX_; clear HX_; obtain ⟨v10, v11, v12⟩ := HX.out.vis)))
          go_roundw
          · exact ⟨2, A6, c6, acc2, rfl, rfl, by decide, ⟨by rw [NA2.out, HYE.out, HQ.out]; exact List.append_assoc _ _ _⟩, HX, CB5⟩
          · decide
        · have hmod : x.f2 % 18446744073709551616 = x.f2 := by have := (show 0 ≤ x.f2 ∧ x.f2 < 18446744073709551616 from HRX.out 2); omega
          have HPJ := Aside0.mk (show dragnetref02_Bytes.f 10 x.f2 = some (putB x.f2) from rbytes_f (HRX.out 2).1 (HRX.out 2).2 (Nat.le_refl _))
          have HLJ := Aside0.mk (show acc.length + (putB x.f2).length < 140737488355328 by
            have := preB_length HRX.out 2
            have := HLA.out
            have := HL64.out
            have := (putB_length (HRX.out 2).1 (HRX.out 2).2).2
            rw [HQ.out, List.length_append]
            have h2 : (putB x.f2).length ≤ 9 := this
            omega)
          obtain ⟨y, hy⟩ : ∃ y, y = putB x.f2 := ⟨_, rfl⟩
          have HYE := Aside0.mk hy
          rw [← hy] at HPJ HLJ
          clear hy
          obtain ⟨acc2, hacc2⟩ : ∃ acc2, acc2 = acc ++ y := ⟨_, rfl⟩
          have NA2 := Aside0.mk hacc2
          clear hacc2
          have y2 : wr.cell? ⟨g5, 2, none⟩ = some (.int .i64 x.f2) := (blk_cell CB5.out 2).trans rfl
          go_wp2_with (first
            | (go_at_call 42; ((with_reducible refine (dragnetref02_Bytes.calls 10 x.f2 y _ HPJ.out).mono ?_); rintro e w5 ⟨v5, rfl, hR, hb⟩; obtain ⟨A5, c5, rfl⟩ := Kd.R_slice hR; have HYv5 := Aside0.mk (Kd.R_reads' hR); have HX_ := Aside0.mk (HX.out.step hb); have CB5_ := Aside0.mk (blk_below CB5.out hb); clear CB5; have CB5 := CB5_; clear CB5_; clear HX hb hR v10 v11 v12; have HX := HX_; clear HX_; obtain ⟨v10, v11, v12⟩ := HX.out.vis))
            | ((with_reducible refine gate_builtin (b := .append) (xs := #[.tmp 48, .tmp 53]) rfl ?_); at_builtin; (refine Kd.R_append_rows (Kd.int .u8) (w0 := w) w.heap.size rfl (.tmp 48) (.tmp 53) 22 5 (.int .u8 0) 1 rfl Tryd.underlying22 info5 rfl (by decide) (by omega) (.slice A4 acc.length c4) acc y _ _ _ (fun k => k ≠ g1 ∧ k ≠ g5) (fun _ => False) rfl rfl ?aO ?aR (fun _ _ h => h) (fun _ h => h.elim) ?aF ?aB ?aS ?aL ?_; (case aR => exact HYv5.out.2.2); (case aB => exact HX.out.B); (case aF => exact (fun k hk => by have := HX.out.lt1; have := blk_lt CB5.out; exact ⟨by omega, by omega⟩)); (case aO => exact HX.out.hO); (case aS => exact below_size HX.out.B); (case aL => exact (by have := HLJ.out; omega)); intro v53 w6 ho hb hgr hat; rw [← NA2.out] at ho; obtain ⟨A6, c6, e53⟩ := Kd.R_slice ho; subst e53; have HX_ := Aside0.mk (HX.out.row hb hgr ho); have CB5_ := Aside0.mk (blk_grown CB5.out hgr (fun e => (HX.out.hO.1 g5 e.symm).2 rfl)); clear CB5; have CB5 := CB5_; clear CB5_; clear HX ho hb hgr hat v10 v11 v12; have HX := HX_; clear HX_; obtain ⟨v10, v11, v12⟩ := HX.out.vis)))
          go_roundw
          · exact ⟨3, A6, c6, acc2, rfl, rfl, by decide, ⟨by rw [NA2.out, HYE.out, HQ.out]; exact List.append_assoc _ _ _⟩, HX, CB5⟩
          · decide
        · have hmod : x.f3 % 18446744073709551616 = x.f3 := by have := (show 0 ≤ x.f3 ∧ x.f3 < 18446744073709551616 from HRX.out 3); omega
          have HPJ := Aside0.mk (show dragnetref02_Bytes.f 10 x.f3 = some (putB x.f3) from rbytes_f (HRX.out 3).1 (HRX.out 3).2 (Nat.le_refl _))
          have HLJ := Aside0.mk (show acc.length + (putB x.f3).length < 140737488355328 by
            have := preB_length HRX.out 3
            have := HLA.out
            have := HL64.out
            have := (putB_length (HRX.out 3).1 (HRX.out 3).2).2
            rw [HQ.out, List.length_append]
            have h2 : (putB x.f3).length ≤ 9 := this
            omega)
          obtain ⟨y, hy⟩ : ∃ y, y = putB x.f3 := ⟨_, rfl⟩
          have HYE := Aside0.mk hy
          rw [← hy] at HPJ HLJ
          clear hy
          obtain ⟨acc2, hacc2⟩ : ∃ acc2, acc2 = acc ++ y := ⟨_, rfl⟩
          have NA2 := Aside0.mk hacc2
          clear hacc2
          have y3 : wr.cell? ⟨g5, 3, none⟩ = some (.int .i64 x.f3) := (blk_cell CB5.out 3).trans rfl
          go_wp2_with (first
            | (go_at_call 42; ((with_reducible refine (dragnetref02_Bytes.calls 10 x.f3 y _ HPJ.out).mono ?_); rintro e w5 ⟨v5, rfl, hR, hb⟩; obtain ⟨A5, c5, rfl⟩ := Kd.R_slice hR; have HYv5 := Aside0.mk (Kd.R_reads' hR); have HX_ := Aside0.mk (HX.out.step hb); have CB5_ := Aside0.mk (blk_below CB5.out hb); clear CB5; have CB5 := CB5_; clear CB5_; clear HX hb hR v10 v11 v12; have HX := HX_; clear HX_; obtain ⟨v10, v11, v12⟩ := HX.out.vis))
            | ((with_reducible refine gate_builtin (b := .append) (xs := #[.tmp 48, .tmp 53]) rfl ?_); at_builtin; (refine Kd.R_append_rows (Kd.int .u8) (w0 := w) w.heap.size rfl (.tmp 48) (.tmp 53) 22 5 (.int .u8 0) 1 rfl Tryd.underlying22 info5 rfl (by decide) (by omega) (.slice A4 acc.length c4) acc y _ _ _ (fun k => k ≠ g1 ∧ k ≠ g5) (fun _ => False) rfl rfl ?aO ?aR (fun _ _ h => h) (fun _ h => h.elim) ?aF ?aB ?aS ?aL ?_; (case aR => exact HYv5.out.2.2); (case aB => exact HX.out.B); (case aF => exact (fun k hk => by have := HX.out.lt1; have := blk_lt CB5.out; exact ⟨by omega, by omega⟩)); (case aO => exact HX.out.hO); (case aS => exact below_size HX.out.B); (case aL => exact (by have := HLJ.out; omega)); intro v53 w6 ho hb hgr hat; rw [← NA2.out] at ho; obtain ⟨A6, c6, e53⟩ := Kd.R_slice ho; subst e53; have HX_ := Aside0.mk (HX.out.row hb hgr ho); have CB5_ := Aside0.mk (blk_grown CB5.out hgr (fun e => (HX.out.hO.1 g5 e.symm).2 rfl)); clear CB5; have CB5 := CB5_; clear CB5_; clear HX ho hb hgr hat v10 v11 v12; have HX := HX_; clear HX_; obtain ⟨v10, v11, v12⟩ := HX.out.vis)))
          go_roundw
          · exact ⟨4, A6, c6, acc2, rfl, rfl, by decide, ⟨by rw [NA2.out, HYE.out, HQ.out]; exact List.append_assoc _ _ _⟩, HX, CB5⟩
          · decide
        · go_wp2
          go_roundw
          · have hq : accB l0_0 (i + 1) = acc := by rw [accB_succ l0_0 i cs, ← HXX.out, ← preB_all]; exact HQ.out.symm
            exact ⟨i + 1, A4, c4, by rw [hq], rfl, cs, ⟨by rw [hq]; exact HX.out.any⟩⟩
          · show l0_0.length - (((i + 1 : Nat) : Int)).toNat < l0_0.length - (i : Int).toNat
            omega
    · obtain rfl : i = l0_0.length := by omega
      have csd : decide ((l0_0.length : Int) < (l0_0.length : Int)) = false := decide_eq_false (Int.lt_irrefl _)
      have HLA := Aside0.mk (accB_length HFO.out l0_0.length (Nat.le_refl _))
      have hm1 : a0_1 % 18446744073709551616 = a0_1 := by have := HFO.out.2.1; have := HFO.out.2.2.1; omega
      have hm2 : a0_2 % 18446744073709551616 = a0_2 := by have := HFO.out.2.2.2.1; have := HFO.out.2.2.2.2.1; omega
      have HP1 := Aside0.mk (show dragnetref02_Bytes.f 10 a0_1 = some (putB a0_1) from rbytes_f HFO.out.2.1 (by have := HFO.out.2.2.1; omega) (Nat.le_refl _))
      have HP2 := Aside0.mk (show dragnetref02_Bytes.f 10 a0_2 = some (putB a0_2) from rbytes_f HFO.out.2.2.2.1 (by have := HFO.out.2.2.2.2.1; omega) (Nat.le_refl _))
      have HN1 := Aside0.mk (putB_length HFO.out.2.1 (by have := HFO.out.2.2.1; omega)).2
      have HN2 := Aside0.mk (putB_length HFO.out.2.2.2.1 (by have := HFO.out.2.2.2.2.1; omega)).2
      obtain ⟨y1, hy1⟩ : ∃ y, y = putB a0_1 := ⟨_, rfl⟩
      obtain ⟨y2, hy2⟩ : ∃ y, y = putB a0_2 := ⟨_, rfl⟩
      obtain ⟨acc, hacc⟩ : ∃ acc, acc = accB l0_0 l0_0.length := ⟨_, rfl⟩
      obtain ⟨acc2, hacc2⟩ : ∃ acc2, acc2 = acc ++ y1 := ⟨_, rfl⟩
      obtain ⟨acc3, hacc3⟩ : ∃ acc3, acc3 = acc2 ++ y2 := ⟨_, rfl⟩
      have hB3 : (bytesC l0_0 a0_1 a0_2) = acc3 := by rw [hacc3, hacc2, hacc, hy1, hy2]; rfl
      have HB3 := Aside0.mk hB3
      have HW_ := Aside0.mk (show dragnetref01_Frame.f (10 * (bytesC l0_0 a0_1 a0_2).length + 50) acc3 = some r by rw [← hB3]; exact HW.out)
      clear HW hB3
      have HW := HW_
      clear HW_
      rw [← hy1] at HP1 HN1
      rw [← hy2] at HP2 HN2
      rw [← hacc] at HX HLA ⊢
      have NA2 := Aside0.mk hacc2
      have NA3 := Aside0.mk hacc3
      have HL1 := Aside0.mk (show acc.length + y1.length < 140737488355328 by have := HLA.out; have := HN1.out; have := HFO.out.1; omega)
      have HL2 := Aside0.mk (show acc2.length + y2.length < 140737488355328 by have := HLA.out; have := HN1.out; have := HN2.out; have := HFO.out.1; rw [hacc2, List.length_append]; omega)
      clear hy1 hy2 hacc hacc2 hacc3
      go_upto_region 11 with (first
        | (go_at_call 42; ((with_reducible refine (dragnetref02_Bytes.calls 10 a0_1 y1 _ HP1.out).mono ?_); rintro e w5 ⟨v5, rfl, hR, hb⟩; obtain ⟨A5, c5, rfl⟩ := Kd.R_slice hR; have HYv5 := Aside0.mk (Kd.R_reads' hR); have HX_ := Aside0.mk (HX.out.step hb); clear HX hb hR v10 v11 v12; have HX := HX_; clear HX_; obtain ⟨v10, v11, v12⟩ := HX.out.vis))
        | ((with_reducible refine gate_builtin (b := .append) (xs := #[.tmp 55, .tmp 59]) rfl ?_); at_builtin; (refine Kd.R_append_rows (Kd.int .u8) (w0 := w) w.heap.size rfl (.tmp 55) (.tmp 59) 22 5 (.int .u8 0) 1 rfl Tryd.underlying22 info5 rfl (by decide) (by omega) (.slice A4 acc.length c4) acc y1 _ _ _ (fun k => k ≠ g1 ∧ True) (fun _ => False) rfl rfl ?aO ?aR (fun _ _ h => h) (fun _ h => h.elim) ?aF ?aB ?aS ?aL ?_; (case aR => exact HYv5.out.2.2); (case aB => exact HX.out.B); (case aF => exact (fun k hk => by have := HX.out.lt1; exact ⟨by omega, trivial⟩)); (case aO => exact HX.out.hO); (case aS => exact below_size HX.out.B); (case aL => exact (by have := HL1.out; omega)); intro v53 w6 ho hb hgr hat; rw [← NA2.out] at ho; obtain ⟨A6, c6, e53⟩ := Kd.R_slice ho; subst e53; have HX_ := Aside0.mk (HX.out.row hb hgr ho); clear HX ho hb hgr hat v10 v11 v12; have HX := HX_; clear HX_; obtain ⟨v10, v11, v12⟩ := HX.out.vis)))
      go_wp2_with (first
        | (go_at_call 42; ((with_reducible refine (dragnetref02_Bytes.calls 10 a0_2 y2 _ HP2.out).mono ?_); rintro e w7 ⟨v7, rfl, hR, hb⟩; obtain ⟨A5, c5, rfl⟩ := Kd.R_slice hR; have HYv7 := Aside0.mk (Kd.R_reads' hR); have HX_ := Aside0.mk (HX.out.step hb); clear HX hb hR v10 v11 v12; have HX := HX_; clear HX_; obtain ⟨v10, v11, v12⟩ := HX.out.vis))
        | ((with_reducible refine gate_builtin (b := .append) (xs := #[.tmp 61, .tmp 65]) rfl ?_); at_builtin; (refine Kd.R_append_rows (Kd.int .u8) (w0 := w) w.heap.size rfl (.tmp 61) (.tmp 65) 22 5 (.int .u8 0) 1 rfl Tryd.underlying22 info5 rfl (by decide) (by omega) (.slice A6 acc2.length c6) acc2 y2 _ _ _ (fun k => k ≠ g1 ∧ True) (fun _ => False) rfl rfl ?aO ?aR (fun _ _ h => h) (fun _ h => h.elim) ?aF ?aB ?aS ?aL ?_; (case aR => exact HYv7.out.2.2); (case aB => exact HX.out.B); (case aF => exact (fun k hk => by have := HX.out.lt1; exact ⟨by omega, trivial⟩)); (case aO => exact HX.out.hO); (case aS => exact below_size HX.out.B); (case aL => exact (by have := HL2.out; omega)); intro v53 w8 ho hb hgr hat; rw [← NA3.out] at ho; obtain ⟨A8, c8, e53⟩ := Kd.R_slice ho; subst e53; have HX_ := Aside0.mk (HX.out.row hb hgr ho); clear HX ho hb hgr hat v10 v11 v12; have HX := HX_; clear HX_; obtain ⟨v10, v11, v12⟩ := HX.out.vis))
        | (go_at_call 43; ((with_reducible refine (dragnetref01_Frame.calls (10 * (bytesC l0_0 a0_1 a0_2).length + 50) A8 c8 acc3 r _ (Kd.R_reads' HX.out.hO).2.2 (Kd.R_reads' HX.out.hO).2.1 HW.out).mono ?_); rintro e w9 ⟨v9, rfl, hR, hb⟩; have HR9 := Aside0.mk (Kd.R_lower hR (below_size HX.out.B)); have HB9 := Aside0.mk (below_step HX.out.B hb); clear hR hb)))
      go_ret
      exact ⟨_, rfl, HR9.out, HB9.out⟩
def dragnetref18_Commit.f (l0_0 : List (S63)) (a0_1 : Int) (a0_2 : Int) : Option ((List (S60)) × Int) := (dragnetref18_Formed.f l0_0 a0_1 a0_2).bind fun t248 => (if t248 = true then ((dragnetref18_Bytes.f l0_0 a0_1 a0_2).bind fun t249 => (some ((([(⟨1, (⟨#[110]⟩ : ByteArray), (⟨#[]⟩ : ByteArray), t249⟩ : S60), (⟨2, (⟨#[110]⟩ : ByteArray), (⟨#[]⟩ : ByteArray), ([] : List Int)⟩ : S60), (⟨3, (⟨#[110]⟩ : ByteArray), (⟨#[109]⟩ : ByteArray), ([] : List Int)⟩ : S60)] : List (S60))), 0))) else (some (([] : List (S60)), 1)))
set_option maxHeartbeats 8000000 in
set_option maxRecDepth 100000 in
theorem dragnetref18_Commit.calls (A0_0 : Option Addr) (c0_0 : Nat) (l0_0 : List (S63)) (a0_1 : Int) (a0_2 : Int) (r1 : List (S60)) (r2 : Int) (w : World) (hr0_0 : Kd.C k63 w A0_0 l0_0.length l0_0) (hc0_0 : l0_0.length ≤ c0_0) (hG : GT w) (h : dragnetref18_Commit.f l0_0 a0_1 a0_2 = some (r1, r2)) :
    Calls Tryd.prog 20 #[.agg #[.slice A0_0 l0_0.length c0_0, .int .i64 a0_1, .int .i64 a0_2]] w fun e w' => ∃ v0_ : Value, e = .returned (.tuple #[v0_, .int .i64 r2]) ∧ Kd.N k60 60 w' w.heap.size (fun k_ => (w.heap.size ≤ k_)) v0_ r1 ∧ Below w.heap.size w w' := by
  have hu27 := Tryd.underlying27
  have hu60 := Tryd.underlying60
  have HR0_0 := Aside0.mk hr0_0
  have HC0_0 := Aside0.mk hc0_0
  clear hr0_0 hc0_0
  have HB := Aside0.mk (Below.refl w.heap.size w)
  have HG := Aside0.mk hG
  clear hG
  have H : ((dragnetref18_Formed.f l0_0 a0_1 a0_2).bind fun t248 => (if t248 = true then ((dragnetref18_Bytes.f l0_0 a0_1 a0_2).bind fun t249 => (some ((([(⟨1, (⟨#[110]⟩ : ByteArray), (⟨#[]⟩ : ByteArray), t249⟩ : S60), (⟨2, (⟨#[110]⟩ : ByteArray), (⟨#[]⟩ : ByteArray), ([] : List Int)⟩ : S60), (⟨3, (⟨#[110]⟩ : ByteArray), (⟨#[109]⟩ : ByteArray), ([] : List Int)⟩ : S60)] : List (S60))), 0))) else (some (([] : List (S60)), 1)))) = some (r1, r2) := h
  clear h
  replace H := Option.bind_eq_some_iff.mp H
  obtain ⟨t248, A20, H⟩ := H
  replace H : (if t248 = true then ((dragnetref18_Bytes.f l0_0 a0_1 a0_2).bind fun t249 => (some ((([(⟨1, (⟨#[110]⟩ : ByteArray), (⟨#[]⟩ : ByteArray), t249⟩ : S60), (⟨2, (⟨#[110]⟩ : ByteArray), (⟨#[]⟩ : ByteArray), ([] : List Int)⟩ : S60), (⟨3, (⟨#[110]⟩ : ByteArray), (⟨#[109]⟩ : ByteArray), ([] : List Int)⟩ : S60)] : List (S60))), 0))) else (some (([] : List (S60)), 1))) = some (r1, r2) := H
  have A2 := Aside0.mk A20
  clear A20
  by_cases c3 : t248 = true
  · subst c3
    have H1 : ((dragnetref18_Bytes.f l0_0 a0_1 a0_2).bind fun t249 => (some ((([(⟨1, (⟨#[110]⟩ : ByteArray), (⟨#[]⟩ : ByteArray), t249⟩ : S60), (⟨2, (⟨#[110]⟩ : ByteArray), (⟨#[]⟩ : ByteArray), ([] : List Int)⟩ : S60), (⟨3, (⟨#[110]⟩ : ByteArray), (⟨#[109]⟩ : ByteArray), ([] : List Int)⟩ : S60)] : List (S60))), 0))) = some (r1, r2) := by rw [if_pos rfl] at H; exact H
    clear H
    have H := H1
    clear H1
    replace H := Option.bind_eq_some_iff.mp H
    obtain ⟨t249, A40, H⟩ := H
    replace H : (some ((([(⟨1, (⟨#[110]⟩ : ByteArray), (⟨#[]⟩ : ByteArray), t249⟩ : S60), (⟨2, (⟨#[110]⟩ : ByteArray), (⟨#[]⟩ : ByteArray), ([] : List Int)⟩ : S60), (⟨3, (⟨#[110]⟩ : ByteArray), (⟨#[109]⟩ : ByteArray), ([] : List Int)⟩ : S60)] : List (S60))), 0)) = some (r1, r2) := H
    have A4 := Aside0.mk A40
    clear A40
    obtain ⟨y252, hy252⟩ : ∃ y_ : List (S60), y_ = (([(⟨1, (⟨#[110]⟩ : ByteArray), (⟨#[]⟩ : ByteArray), t249⟩ : S60), (⟨2, (⟨#[110]⟩ : ByteArray), (⟨#[]⟩ : ByteArray), ([] : List Int)⟩ : S60), (⟨3, (⟨#[110]⟩ : ByteArray), (⟨#[109]⟩ : ByteArray), ([] : List Int)⟩ : S60)] : List (S60))) := ⟨_, rfl⟩
    replace H : (some (y252, 0)) = some (r1, r2) := by first | (rw [hy252]; with_reducible exact H) | (have H2_ := (Option.bind_some _ _).symm.trans H; rw [hy252]; with_reducible exact H2_) | (have H2_ := (Option.bind_some _ _).symm.trans H; with_reducible exact H2_) | with_reducible exact H | (rw [hy252]; exact H) | exact H
    have Ny252 := Aside0.mk hy252
    clear hy252
    simp only [Option.some.injEq, Prod.mk.injEq] at H
    obtain ⟨rfl, rfl⟩ := H
    go_enter Tryd.func20, Tryd.ntmps20
    go_wp2_with (first | ((with_reducible refine gate_dst (N := 1) rfl ?_); refine box_event ?hg (N := 1) ?hd (cs := #[.slice A0_0 l0_0.length c0_0, .int .i64 a0_1, .int .i64 a0_2]) (t := 27) ?hr ?_; (case hd => rfl); (case hg => rfl); (case hr => first | (go_simp; done) | (go_simp; rfl)); intro gb247 hg w5 hbox hb; have n0_ := Aside0.mk (below_step (by repeat (first | (with_reducible first | exact HB.out | apply below_alloc | apply pw_below_drewN | apply below_drew1) | exact HB.out)) hb); have n1_ := Aside0.mk (hbox); have n2_ := Aside0.mk ((by rw [hg]; exact (below_size (by repeat (first | (with_reducible first | exact HB.out | apply below_alloc | apply pw_below_drewN | apply below_drew1) | exact HB.out))) : w.heap.size ≤ gb247)); have n3_ := Aside0.mk ((by rw [hg]; exact (below_size (by repeat (first | (with_reducible first | exact HB.out | apply below_alloc | apply pw_below_drewN | apply below_drew1) | exact HB.out))) : w.heap.size ≤ gb247)); clear HB; have HB := n0_; have BK247 := n1_; have GW247 := n2_; have GE247 := n3_; clear n0_ n1_ n2_ n3_; clear hb hbox hg; have hcz6_0 : w5.cell? ⟨gb247, 0, none⟩ = some (.slice A0_0 l0_0.length c0_0) := (blk_cell BK247.out 0).trans rfl; have hcz6_1 : w5.cell? ⟨gb247, 1, none⟩ = some (.int .i64 a0_1) := (blk_cell BK247.out 1).trans rfl; have hcz6_2 : w5.cell? ⟨gb247, 2, none⟩ = some (.int .i64 a0_2) := (blk_cell BK247.out 2).trans rfl; have hfz6_0 := blk_frozen BK247.out 0; have hfz6_1 := blk_frozen BK247.out 1; have hfz6_2 := blk_frozen BK247.out 2) | ((with_reducible refine gate_callee (f := 16) rfl ?_); refine goesL_ (some 5) rfl rfl Tryd.func16 (by kernel_rfl) rfl #[.agg #[.slice A0_0 l0_0.length c0_0, .int .i64 a0_1, .int .i64 a0_2]] rfl (by (try simp only [List.map_toArray, List.map_cons, List.map_nil]); first | done | rfl | (simp only [List.length_drop, List.length_take]; rfl)) ?_; (with_reducible refine (dragnetref18_Formed.calls _ _ l0_0 a0_1 a0_2 true _ ?side1 ?side2 A2.out).mono ?_); (case side1 => repeat (first | exact (Kd.C_below HR0_0.out HB.out) | (with_reducible refine Kd.C_alloc ?_ _) | (with_reducible refine Kd.C_drewN ?_ _) | (with_reducible refine Kd.C_drew ?_))); (case side2 => exact HC0_0.out); rintro e w7 ⟨rfl, hb⟩; refine ⟨_, rfl, ?_⟩; have n0_ := Aside0.mk (blk_below (g := gb247) (o := .cells #[.slice A0_0 l0_0.length c0_0, .int .i64 a0_1, .int .i64 a0_2] 27 (0, 0)) (by (with_reducible repeat (first | refine blk_drewN ?_ _ | refine blk_drew ?_ | refine blk_alloc ?_ _)); exact BK247.out) hb); have n1_ := Aside0.mk (below_step (by repeat (first | (with_reducible first | exact HB.out | apply below_alloc | apply pw_below_drewN | apply below_drew1 | refine below_set ?_ GE247.out) | exact HB.out)) hb); clear BK247; clear HB; have BK247 := n0_; have HB := n1_; clear n0_ n1_; (try clear hb); (try clear hb2); (try clear hk); (try clear hi); have hcz8_0 : w7.cell? ⟨gb247, 0, none⟩ = some (.slice A0_0 l0_0.length c0_0) := (blk_cell BK247.out 0).trans rfl; have hcz8_1 : w7.cell? ⟨gb247, 1, none⟩ = some (.int .i64 a0_1) := (blk_cell BK247.out 1).trans rfl; have hcz8_2 : w7.cell? ⟨gb247, 2, none⟩ = some (.int .i64 a0_2) := (blk_cell BK247.out 2).trans rfl; have hfz8_0 := blk_frozen BK247.out 0; have hfz8_1 := blk_frozen BK247.out 1; have hfz8_2 := blk_frozen BK247.out 2) | ((with_reducible refine gate_callee (f := 24) rfl ?_); refine goesL_ (some 8) rfl rfl Tryd.func24 (by kernel_rfl) rfl #[.agg #[.slice A0_0 l0_0.length c0_0, .int .i64 a0_1, .int .i64 a0_2]] rfl (by (try simp only [List.map_toArray, List.map_cons, List.map_nil]); first | done | rfl | (simp only [List.length_drop, List.length_take]; rfl)) ?_; (with_reducible refine (dragnetref18_Bytes.calls _ _ l0_0 a0_1 a0_2 t249 _ ?side1 ?side2 ?side3 A4.out).mono ?_); (case side1 => repeat (first | exact (Kd.C_below HR0_0.out HB.out) | (with_reducible refine Kd.C_alloc ?_ _) | (with_reducible refine Kd.C_drewN ?_ _) | (with_reducible refine Kd.C_drew ?_))); (case side2 => exact HC0_0.out); (case side3 => exact GT.below HG.out (by repeat (first | (with_reducible first | exact HB.out | apply below_alloc | apply pw_below_drewN | apply below_drew1 | refine below_set ?_ GE247.out) | exact HB.out))); rintro e w9 ⟨v250, rfl, ho0, hb⟩; refine ⟨_, rfl, ?_⟩; have n0_ := Aside0.mk (Kd.R_lower (Kd.R_newM (M := fun k_ => (w.heap.size ≤ k_)) ho0 (below_size (by repeat (first | (with_reducible first | exact HB.out | apply below_alloc | apply pw_below_drewN | apply below_drew1 | refine below_set ?_ GE247.out) | exact HB.out))) (fun k_ h_ => h_)) (below_size (by repeat (first | (with_reducible first | exact HB.out | apply below_alloc | apply pw_below_drewN | apply below_drew1 | refine below_set ?_ GE247.out) | exact HB.out)))); have n1_ := Aside0.mk (blk_below (g := gb247) (o := .cells #[.slice A0_0 l0_0.length c0_0, .int .i64 a0_1, .int .i64 a0_2] 27 (0, 0)) (by (with_reducible repeat (first | refine blk_drewN ?_ _ | refine blk_drew ?_ | refine blk_alloc ?_ _)); exact BK247.out) hb); have n2_ := Aside0.mk (below_step (by repeat (first | (with_reducible first | exact HB.out | apply below_alloc | apply pw_below_drewN | apply below_drew1 | refine below_set ?_ GE247.out) | exact HB.out)) hb); clear BK247; clear HB; have HO251 := n0_; have BK247 := n1_; have HB := n2_; clear n0_ n1_ n2_; (try clear hb); (try clear hb2); (try clear hk); (try clear hi); (try clear ho0); obtain ⟨Ao10, co10, eo10⟩ := Kd.R_slice HO251.out; subst eo10) | ((with_reducible refine gate_dst (N := 12) rfl ?_); refine Kd.N_lit k60 _ 60 ?hg (N' := 12) ?hd (xs := ([(⟨1, (⟨#[110]⟩ : ByteArray), (⟨#[]⟩ : ByteArray), t249⟩ : S60), (⟨2, (⟨#[110]⟩ : ByteArray), (⟨#[]⟩ : ByteArray), ([] : List Int)⟩ : S60), (⟨3, (⟨#[110]⟩ : ByteArray), (⟨#[109]⟩ : ByteArray), ([] : List Int)⟩ : S60)] : List (S60))) (inner := [.int .i64 1, .string (⟨#[110]⟩ : ByteArray), .string (⟨#[]⟩ : ByteArray), .slice Ao10 t249.length co10, .int .i64 2, .string (⟨#[110]⟩ : ByteArray), .string (⟨#[]⟩ : ByteArray), .slice none 0 0, .int .i64 3, .string (⟨#[110]⟩ : ByteArray), .string (⟨#[109]⟩ : ByteArray), .slice none 0 0]) (ok := (fun k_ => (w.heap.size ≤ k_) ∧ k_ ≠ gb247)) (okp := (fun k_ => (w.heap.size ≤ k_) ∧ k_ ≠ gb247)) ?hr ?hp (fun _ hk => hk) ((show ∀ k_, w9.heap.size ≤ k_ → (fun k_ => (w.heap.size ≤ k_) ∧ k_ ≠ gb247) k_ from fun k_ hk => ⟨(Nat.le_trans (below_size (by repeat (first | (with_reducible first | exact HB.out | apply below_alloc | apply pw_below_drewN | apply below_drew1 | refine below_set ?_ GE247.out) | exact HB.out))) hk), Kd.freshB (g := gb247) (o := .cells #[.slice A0_0 l0_0.length c0_0, .int .i64 a0_1, .int .i64 a0_2] 27 (0, 0)) (by (with_reducible repeat (first | refine blk_drewN ?_ _ | refine blk_drew ?_ | refine blk_alloc ?_ _)); exact BK247.out) k_ hk⟩) _ (Nat.le_refl _)) (Below.refl _ _) (Nat.le_refl _) (by simp) ?_; (case hd => rfl); (case hg => rfl); (case hr => first | (go_simp; done) | (go_simp; rfl)); (case hp => exact (Reps.c4 (show Kd.FK k60 _ _ (⟨1, (⟨#[110]⟩ : ByteArray), (⟨#[]⟩ : ByteArray), t249⟩ : S60) [.int .i64 1, .string (⟨#[110]⟩ : ByteArray), .string (⟨#[]⟩ : ByteArray), .slice Ao10 t249.length co10] from (k60_mkF _ _ (⟨1, (⟨#[110]⟩ : ByteArray), (⟨#[]⟩ : ByteArray), t249⟩ : S60) (Kd.R_reads' (Kd.R_mono (ok' := (fun k_ => (w.heap.size ≤ k_) ∧ k_ ≠ gb247)) (Kd.R_types (HO251.out) BK247.out (by decide)) (fun k_ hk => ⟨hk.1.1, hk.2⟩))).2.1 (Kd.R_F (Kd.R_mono (ok' := (fun k_ => (w.heap.size ≤ k_) ∧ k_ ≠ gb247)) (Kd.R_types (HO251.out) BK247.out (by decide)) (fun k_ hk => ⟨hk.1.1, hk.2⟩))))) (Reps.c4 (show Kd.FK k60 _ _ (⟨2, (⟨#[110]⟩ : ByteArray), (⟨#[]⟩ : ByteArray), ([] : List Int)⟩ : S60) [.int .i64 2, .string (⟨#[110]⟩ : ByteArray), .string (⟨#[]⟩ : ByteArray), .slice none 0 0] from (k60_mkF _ _ (⟨2, (⟨#[110]⟩ : ByteArray), (⟨#[]⟩ : ByteArray), ([] : List Int)⟩ : S60) (Nat.le_refl _) (Kd.F_nil _ _ _))) (Reps.c4 (show Kd.FK k60 _ _ (⟨3, (⟨#[110]⟩ : ByteArray), (⟨#[109]⟩ : ByteArray), ([] : List Int)⟩ : S60) [.int .i64 3, .string (⟨#[110]⟩ : ByteArray), .string (⟨#[109]⟩ : ByteArray), .slice none 0 0] from (k60_mkF _ _ (⟨3, (⟨#[110]⟩ : ByteArray), (⟨#[109]⟩ : ByteArray), ([] : List Int)⟩ : S60) (Nat.le_refl _) (Kd.F_nil _ _ _))) (Reps.none _ _))))); intro v253 w11 ho12 hb hg_ hnew_; clear hg_ hnew_; (first | rw [← Ny252.out] at ho12 | (simp only [Int.reduceToNat] at ho12; rw [← Ny252.out] at ho12)); have n0_ := Aside0.mk (Kd.N_lower ho12 (below_size (by repeat (first | (with_reducible first | exact HB.out | apply below_alloc | apply pw_below_drewN | apply below_drew1 | refine below_set ?_ GE247.out) | exact HB.out)))); have n1_ := Aside0.mk (blk_below (g := gb247) (o := .cells #[.slice A0_0 l0_0.length c0_0, .int .i64 a0_1, .int .i64 a0_2] 27 (0, 0)) (by (with_reducible repeat (first | refine blk_drewN ?_ _ | refine blk_drew ?_ | refine blk_alloc ?_ _)); exact BK247.out) hb); have n2_ := Aside0.mk (below_step (by repeat (first | (with_reducible first | exact HB.out | apply below_alloc | apply pw_below_drewN | apply below_drew1 | refine below_set ?_ GE247.out) | exact HB.out)) hb); clear BK247; clear HB; clear HO251; have HO254 := n0_; have BK247 := n1_; have HB := n2_; clear n0_ n1_ n2_; clear hb ho12))
    go_ret2
    exact ⟨_, by first | rfl | (simp [errW_none, errW_some] <;> rfl) | (simp [*, errW_none, errW_some] <;> rfl), by (with_reducible repeat (first | apply Kd.N_alloc | apply Kd.N_drewN | apply Kd.N_drew)); exact Kd.N_mono HO254.out (fun _ hk => hk.1), by repeat (first | (with_reducible first | exact HB.out | apply below_alloc | apply pw_below_drewN | apply below_drew1 | refine below_set ?_ GE247.out) | exact HB.out)⟩
  · replace c3 := Bool.eq_false_iff.mpr c3
    subst c3
    have H1 : (some (([] : List (S60)), 1)) = some (r1, r2) := by rw [if_neg (show ¬ (false = true) by decide)] at H; exact H
    clear H
    have H := H1
    clear H1
    simp only [Option.some.injEq, Prod.mk.injEq] at H
    obtain ⟨rfl, rfl⟩ := H
    go_enter Tryd.func20, Tryd.ntmps20
    go_wp2_with (first | ((with_reducible refine gate_dst (N := 1) rfl ?_); refine box_event ?hg (N := 1) ?hd (cs := #[.slice A0_0 l0_0.length c0_0, .int .i64 a0_1, .int .i64 a0_2]) (t := 27) ?hr ?_; (case hd => rfl); (case hg => rfl); (case hr => first | (go_simp; done) | (go_simp; rfl)); intro gb247 hg w13 hbox hb; have n0_ := Aside0.mk (below_step (by repeat (first | (with_reducible first | exact HB.out | apply below_alloc | apply pw_below_drewN | apply below_drew1) | exact HB.out)) hb); have n1_ := Aside0.mk (hbox); have n2_ := Aside0.mk ((by rw [hg]; exact (below_size (by repeat (first | (with_reducible first | exact HB.out | apply below_alloc | apply pw_below_drewN | apply below_drew1) | exact HB.out))) : w.heap.size ≤ gb247)); have n3_ := Aside0.mk ((by rw [hg]; exact (below_size (by repeat (first | (with_reducible first | exact HB.out | apply below_alloc | apply pw_below_drewN | apply below_drew1) | exact HB.out))) : w.heap.size ≤ gb247)); clear HB; have HB := n0_; have BK247 := n1_; have GW247 := n2_; have GE247 := n3_; clear n0_ n1_ n2_ n3_; clear hb hbox hg; have hcz14_0 : w13.cell? ⟨gb247, 0, none⟩ = some (.slice A0_0 l0_0.length c0_0) := (blk_cell BK247.out 0).trans rfl; have hcz14_1 : w13.cell? ⟨gb247, 1, none⟩ = some (.int .i64 a0_1) := (blk_cell BK247.out 1).trans rfl; have hcz14_2 : w13.cell? ⟨gb247, 2, none⟩ = some (.int .i64 a0_2) := (blk_cell BK247.out 2).trans rfl; have hfz14_0 := blk_frozen BK247.out 0; have hfz14_1 := blk_frozen BK247.out 1; have hfz14_2 := blk_frozen BK247.out 2) | ((with_reducible refine gate_callee (f := 16) rfl ?_); refine goesL_ (some 5) rfl rfl Tryd.func16 (by kernel_rfl) rfl #[.agg #[.slice A0_0 l0_0.length c0_0, .int .i64 a0_1, .int .i64 a0_2]] rfl (by (try simp only [List.map_toArray, List.map_cons, List.map_nil]); first | done | rfl | (simp only [List.length_drop, List.length_take]; rfl)) ?_; (with_reducible refine (dragnetref18_Formed.calls _ _ l0_0 a0_1 a0_2 false _ ?side1 ?side2 A2.out).mono ?_); (case side1 => repeat (first | exact (Kd.C_below HR0_0.out HB.out) | (with_reducible refine Kd.C_alloc ?_ _) | (with_reducible refine Kd.C_drewN ?_ _) | (with_reducible refine Kd.C_drew ?_))); (case side2 => exact HC0_0.out); rintro e w15 ⟨rfl, hb⟩; refine ⟨_, rfl, ?_⟩; have n0_ := Aside0.mk (blk_below (g := gb247) (o := .cells #[.slice A0_0 l0_0.length c0_0, .int .i64 a0_1, .int .i64 a0_2] 27 (0, 0)) (by (with_reducible repeat (first | refine blk_drewN ?_ _ | refine blk_drew ?_ | refine blk_alloc ?_ _)); exact BK247.out) hb); have n1_ := Aside0.mk (below_step (by repeat (first | (with_reducible first | exact HB.out | apply below_alloc | apply pw_below_drewN | apply below_drew1 | refine below_set ?_ GE247.out) | exact HB.out)) hb); clear BK247; clear HB; have BK247 := n0_; have HB := n1_; clear n0_ n1_; (try clear hb); (try clear hb2); (try clear hk); (try clear hi)))
    go_ret2
    exact ⟨_, by first | rfl | (simp [errW_none, errW_some] <;> rfl) | (simp [*, errW_none, errW_some] <;> rfl), by first | exact Kd.S_nil _ _ _ _ _ | exact Kd.N_nil _ _ _ _ _ | exact Kd.V_nil _ _ _ _ _ | exact Kd.Q_nil _ _ _ _ _ | exact Kd.R_nil _ _ _ _ _, by repeat (first | (with_reducible first | exact HB.out | apply below_alloc | apply pw_below_drewN | apply below_drew1 | refine below_set ?_ GE247.out) | exact HB.out)⟩
end Go.Proofs.YtdcifmonhaklcaaDoor.Q
