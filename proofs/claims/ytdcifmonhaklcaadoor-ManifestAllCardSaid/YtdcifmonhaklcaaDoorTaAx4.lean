/- Walks: each Go function told here comes to what the plain function beside it says, wherever that one answers. -/
import Derived.Test.YtdcifmonhaklcaaDoorTaAx0
import Derived.Test.YtdcifmonhaklcaaDoorTaAx2
import Derived.Test.YtdcifmonhaklcaaDoorTaAx3
namespace Go.Proofs.YtdcifmonhaklcaaDoor.A
open Go.RowKit YtdcifmonhaklcaaDoorW.PrintWords YtdcifmonhaklcaaDoorW.PrintLast YtdcifmonhaklcaaDoorW.PrintMore
attribute [local go_sem] max2_int min2_int max_two min_two
set_option linter.unusedVariables false
set_option linter.unusedSimpArgs false
def crc_First.f (l0 : List Int) : Option (List Int × Int × Int) := (crc_shape.f l0).bind fun bt143 => (if bt143.2 = 0 then (if 0 ≤ (wrap64 (4 + bt143.1)) then (if (wrap64 (4 + bt143.1)) ≤ (l0.length : Int) then ((crc_Sum.f (l0.take ((wrap64 (4 + bt143.1)) : Int).toNat)).bind fun t146 => ((crc_number.f (l0.drop ((wrap64 (4 + bt143.1)) : Int).toNat)).bind fun t148 => (if t146 = t148 then (if 4 ≤ (wrap64 (4 + bt143.1)) then ((slices_Clone_byte_byte.f ((l0.take ((wrap64 (4 + bt143.1)) : Int).toNat).drop 4)).bind fun t150 => (some (t150, wrap64 ((wrap64 (4 + bt143.1)) + 4), 0))) else (none)) else (some (([] : List Int), 0, 4))))) else (none)) else (none)) else (some (([] : List Int), 0, bt143.2)))
def crc_First.T4 : Bool × List (List Nat × List Nat) := (true, [([], []), ([], []), ([1], [1]), ([0, 2], [0, 2]), ([3], [3]), ([], []), ([], []), ([6], [6]), ([5, 7], [5, 7]), ([8, 4], [8]), ([4, 9], [4, 9])])
def crc_First.B4 : List Nat := [0, 0, 2, 7, 15, 0, 0, 64, 224, 511, 1023]
theorem crc_First.tab4 : rtab .any (opsOf Tryd.f57 4) = crc_First.T4 := by kernel_rfl
theorem crc_First.bits4 : waitsOk crc_First.T4.2 crc_First.B4 = true := by kernel_rfl
set_option maxHeartbeats 8000000 in
set_option maxRecDepth 100000 in
theorem crc_First.calls (A0 : Option Addr) (c0 : Nat) (l0 : List Int) (r1 : List Int) (r2 : Int) (r3 : Int) (w : World) (hr0 : Kd.C (Kd.int .u8) w A0 l0.length l0) (hc0 : l0.length ≤ c0) (hG : GT w) (h : crc_First.f l0 = some (r1, r2, r3)) :
  Calls Tryd.prog 57 #[.slice A0 l0.length c0] w fun e w' => ∃ v0_ : Value, e = .returned (.tuple #[v0_, .int .i64 r2, .int .i64 r3]) ∧ Kd.R (Kd.int .u8) 5 w' w.heap.size (fun _ => True) v0_ r1 ∧ Below w.heap.size w w' := by
 have HR0 := Aside0.mk hr0
 have HC0 := Aside0.mk hc0
 clear hr0 hc0
 have HB := Aside0.mk (Below.refl w.heap.size w)
 have HG := Aside0.mk hG
 clear hG
 have H : ((crc_shape.f l0).bind fun bt143 => (if bt143.2 = 0 then (if 0 ≤ (wrap64 (4 + bt143.1)) then (if (wrap64 (4 + bt143.1)) ≤ (l0.length : Int) then ((crc_Sum.f (l0.take ((wrap64 (4 + bt143.1)) : Int).toNat)).bind fun t146 => ((crc_number.f (l0.drop ((wrap64 (4 + bt143.1)) : Int).toNat)).bind fun t148 => (if t146 = t148 then (if 4 ≤ (wrap64 (4 + bt143.1)) then ((slices_Clone_byte_byte.f ((l0.take ((wrap64 (4 + bt143.1)) : Int).toNat).drop 4)).bind fun t150 => (some (t150, wrap64 ((wrap64 (4 + bt143.1)) + 4), 0))) else (none)) else (some (([] : List Int), 0, 4))))) else (none)) else (none)) else (some (([] : List Int), 0, bt143.2)))) = some (r1, r2, r3) := h
 clear h
 replace H := Option.bind_eq_some_iff.mp H
 obtain ⟨⟨t143, t144⟩, A20, H⟩ := H
 replace H : (if t144 = 0 then (if 0 ≤ (wrap64 (4 + t143)) then (if (wrap64 (4 + t143)) ≤ (l0.length : Int) then ((crc_Sum.f (l0.take ((wrap64 (4 + t143)) : Int).toNat)).bind fun t146 => ((crc_number.f (l0.drop ((wrap64 (4 + t143)) : Int).toNat)).bind fun t148 => (if t146 = t148 then (if 4 ≤ (wrap64 (4 + t143)) then ((slices_Clone_byte_byte.f ((l0.take ((wrap64 (4 + t143)) : Int).toNat).drop 4)).bind fun t150 => (some (t150, wrap64 ((wrap64 (4 + t143)) + 4), 0))) else (none)) else (some (([] : List Int), 0, 4))))) else (none)) else (none)) else (some (([] : List Int), 0, t144))) = some (r1, r2, r3) := H
 have A2 := Aside0.mk A20
 clear A20
 by_cases c3 : t144 = 0
 ·rw [if_pos c3] at H
  have c3b0 : (t144 == 0) = true := beq_iff_eq.mpr c3
  have c3b1 : (t144 != 0) = false := bne_eq_false_iff_eq.mpr c3
  clear c3
  obtain ⟨ji4, hji4⟩ : ∃ j_ : Int, (wrap64 (4 + t143)) = j_ := ⟨_, rfl⟩
  replace H : (if 0 ≤ (ji4) then (if (ji4) ≤ (l0.length : Int) then ((crc_Sum.f (l0.take ((ji4) : Int).toNat)).bind fun t146 => ((crc_number.f (l0.drop ((ji4) : Int).toNat)).bind fun t148 => (if t146 = t148 then (if 4 ≤ (ji4) then ((slices_Clone_byte_byte.f ((l0.take ((ji4) : Int).toNat).drop 4)).bind fun t150 => (some (t150, wrap64 ((ji4) + 4), 0))) else (none)) else (some (([] : List Int), 0, 4))))) else (none)) else (none)) = some (r1, r2, r3) := by first | (rw [hji4] at H; exact H) | (simp only [hji4] at H ⊢; exact H)
  (try rw [hji4] at A2)
  have hji4w : (IntKind.i64.wrap (4 + t143)) = ji4 := (i64_w _).trans hji4
  by_cases c5 : 0 ≤ (ji4)
  ·rw [if_pos c5] at H
   have c5b0 := eq_true c5
   have c5b1 : decide (0 ≤ (ji4)) = true := decide_eq_true c5
   clear c5
   by_cases c6 : (ji4) ≤ (l0.length : Int)
   ·rw [if_pos c6] at H
    have c6b0 := eq_true c6
    have c6b1 : decide ((ji4) ≤ (l0.length : Int)) = true := decide_eq_true c6
    clear c6
    replace H := Option.bind_eq_some_iff.mp H
    obtain ⟨t146, A70, H⟩ := H
    replace H : ((crc_number.f (l0.drop ((ji4) : Int).toNat)).bind fun t148 => (if t146 = t148 then (if 4 ≤ (ji4) then ((slices_Clone_byte_byte.f ((l0.take ((ji4) : Int).toNat).drop 4)).bind fun t150 => (some (t150, wrap64 ((ji4) + 4), 0))) else (none)) else (some (([] : List Int), 0, 4)))) = some (r1, r2, r3) := H
    have A7 := Aside0.mk A70
    clear A70
    have c8b0 := eq_true (of_decide_eq_true (by first | (with_reducible assumption) | assumption) : 0 ≤ (ji4))
    have c9b0 := eq_true (of_decide_eq_true (by first | (with_reducible assumption) | assumption) : (ji4) ≤ (l0.length : Int))
    replace H := Option.bind_eq_some_iff.mp H
    obtain ⟨t148, A100, H⟩ := H
    replace H : (if t146 = t148 then (if 4 ≤ (ji4) then ((slices_Clone_byte_byte.f ((l0.take ((ji4) : Int).toNat).drop 4)).bind fun t150 => (some (t150, wrap64 ((ji4) + 4), 0))) else (none)) else (some (([] : List Int), 0, 4))) = some (r1, r2, r3) := H
    have A10 := Aside0.mk A100
    clear A100
    by_cases c11 : t146 = t148
    ·rw [if_pos c11] at H
     have c11b0 : (t146 == t148) = true := beq_iff_eq.mpr c11
     have c11b1 : (t146 != t148) = false := bne_eq_false_iff_eq.mpr c11
     clear c11
     by_cases c12 : 4 ≤ (ji4)
     ·rw [if_pos c12] at H
      have c12b0 := eq_true c12
      have c12b1 : decide (4 ≤ (ji4)) = true := decide_eq_true c12
      clear c12
      have c13b0 := eq_true (of_decide_eq_true (by first | (with_reducible assumption) | assumption) : (ji4) ≤ (l0.length : Int))
      replace H := Option.bind_eq_some_iff.mp H
      obtain ⟨t150, A140, H⟩ := H
      replace H : (some (t150, wrap64 ((ji4) + 4), 0)) = some (r1, r2, r3) := H
      have A14 := Aside0.mk A140
      clear A140
      simp only [Option.some.injEq, Prod.mk.injEq] at H
      obtain ⟨rfl, rfl, rfl⟩ := H
      go_enter Tryd.func57, Tryd.ntmps57
      try go_wp2_with (first | ((with_reducible refine gate_callee (f := 56) rfl ?_); refine goesL_ (some 8) rfl rfl Tryd.func56 (by kernel_rfl) rfl #[.slice A0 l0.length c0] rfl (by (try simp only [List.map_toArray, List.map_cons, List.map_nil]); first | done | rfl | (simp only [List.length_drop, List.length_take]; rfl)) ?_; (with_reducible refine (crc_shape.calls _ _ l0 t143 t144 _ ?side1 ?side2 A2.out).mono ?_); (case side1 => repeat (first | exact HR0.out | (with_reducible refine Kd.C_alloc ?_ _) | (with_reducible refine Kd.C_drewN ?_ _) | (with_reducible refine Kd.C_drew ?_))); (case side2 => exact HC0.out); rintro e w15 ⟨rfl, hd_⟩; have hb := Drawn0.below hd_; clear hd_; refine ⟨_, rfl, ?_⟩; have n0_ := Aside0.mk (below_step (by repeat (first | (with_reducible first | exact HB.out | apply below_alloc | apply pw_below_drewN | apply below_drew1) | exact HB.out)) hb); clear HB; have HB := n0_; clear n0_; (try clear hb)))
      have n0_ := Aside0.mk (below_drew1 HB.out)
      clear HB
      have HB := n0_
      clear n0_
      obtain ⟨i017, hi017, _, hsz17, _⟩ := info_parts info5
      obtain ⟨hcut17, hA17, hC17⟩ := print_take_of (P := Tryd.prog) (Value.int .u8) 0 22 5 .i64 Tryd.underlying22 hi017 hsz17 A0 c0 l0 (ji4) (of_decide_eq_true (by first | (with_reducible assumption) | assumption)) (of_decide_eq_true (by first | (with_reducible assumption) | assumption)) HC0.out
      have HR145 := Aside0.mk (Kd.C_of_reads (h1 := fun _ => rfl) (hA17 _ (Kd.reads_of_C HR0.out)))
      have HC145 := Aside0.mk hC17
      clear hA17 hC17 hi017 hsz17
      obtain ⟨i018, hi018, _, hsz18, _⟩ := info_parts info5
      obtain ⟨A18, hcut18, hA18, hC18⟩ := print_drop_of (P := Tryd.prog) (Value.int .u8) 0 22 5 .i64 Tryd.underlying22 hi018 hsz18 A0 c0 l0 (ji4) (of_decide_eq_true (by first | (with_reducible assumption) | assumption)) (of_decide_eq_true (by first | (with_reducible assumption) | assumption)) HC0.out
      have HR147 := Aside0.mk (Kd.C_of_reads (h1 := fun _ => rfl) (hA18 _ (Kd.reads_of_C HR0.out)))
      have HC147 := Aside0.mk hC18
      clear hA18 hC18 hi018 hsz18
      refine start_ (n := 11) (S := fun w' => True) (ds := []) #[false, false, false, false, false, false, false, false, false, false, false] (by kernel_rfl) rfl rfl trivial (fun hHeld => ?_); refine with_tabW crc_First.tab4 crc_First.bits4 (fun HT_ HW_ => ?_)
      generalize w15.drew = w16 at HB HR145 HR147 hHeld ⊢
      refine pure_ (i := 0) (N := some 14) (v := ?_) (a' := ?_) #[true, false, false, false, false, false, false, false, false, false, false] rfl rfl (any_of HT_.out (by kernel_rfl)) (fun _ _ _ h => h) (Or.inl ⟨by rfl, ?_⟩) ?_ ?_
      rotate_left
      ·intro w'
       go_simp
       with_reducible rfl
      rotate_left
      ·simp only [Act.put, List.setIfInBounds_toArray, List.set_cons_zero, List.set_cons_succ, i64_w, i32_w]
       rfl
      refine pure_ (i := 1) (N := some 15) (v := ?_) (a' := ?_) #[true, true, false, false, false, false, false, false, false, false, false] rfl rfl (any_of HT_.out (by kernel_rfl)) (fun _ _ _ h => h) (Or.inl ⟨by rfl, ?_⟩) ?_ ?_
      rotate_left
      ·intro w'
       go_simp
       with_reducible rfl
      rotate_left
      ·simp only [Act.put, List.setIfInBounds_toArray, List.set_cons_zero, List.set_cons_succ, i64_w, i32_w]
       rfl
      refine pure_ (i := 2) (N := some 16) (v := ?_) (a' := ?_) #[true, true, true, false, false, false, false, false, false, false, false] rfl rfl (any_of HT_.out (by kernel_rfl)) (fun _ _ _ h => h) (Or.inl ⟨by rfl, ?_⟩) ?_ ?_
      rotate_left
      ·intro w'
       go_simp
       with_reducible rfl
      rotate_left
      ·simp only [Act.put, List.setIfInBounds_toArray, List.set_cons_zero, List.set_cons_succ, i64_w, i32_w]
       rfl
      refine pure_ (i := 3) (N := some 17) (v := ?_) (a' := ?_) #[true, true, true, true, false, false, false, false, false, false, false] rfl rfl (any_of HT_.out (by kernel_rfl)) (fun _ _ _ h => h) (Or.inl ⟨by rfl, ?_⟩) ?_ ?_
      rotate_left
      ·intro w'
       go_simp
       with_reducible rfl
      rotate_left
      ·simp only [Act.put, List.setIfInBounds_toArray, List.set_cons_zero, List.set_cons_succ, i64_w, i32_w]
       rfl
      refine pure_ (i := 5) (N := some 19) (v := ?_) (a' := ?_) #[true, true, true, true, false, true, false, false, false, false, false] rfl rfl (any_of HT_.out (by kernel_rfl)) (fun _ _ _ h => h) (Or.inl ⟨by rfl, ?_⟩) ?_ ?_
      rotate_left
      ·intro w'
       go_simp
       with_reducible rfl
      rotate_left
      ·simp only [Act.put, List.setIfInBounds_toArray, List.set_cons_zero, List.set_cons_succ, i64_w, i32_w]
       rfl
      refine pure_ (i := 6) (N := some 20) (v := ?_) (a' := ?_) #[true, true, true, true, false, true, true, false, false, false, false] rfl rfl (any_of HT_.out (by kernel_rfl)) (fun _ _ _ h => h) (Or.inl ⟨by rfl, ?_⟩) ?_ ?_
      rotate_left
      ·intro w'
       go_simp
       with_reducible rfl
      rotate_left
      ·simp only [Act.put, List.setIfInBounds_toArray, List.set_cons_zero, List.set_cons_succ, i64_w, i32_w]
       rfl
      refine pure_ (i := 7) (N := some 21) (v := ?_) (a' := ?_) #[true, true, true, true, false, true, true, true, false, false, false] rfl rfl (any_of HT_.out (by kernel_rfl)) (fun _ _ _ h => h) (Or.inl ⟨by rfl, ?_⟩) ?_ ?_
      rotate_left
      ·intro w'
       go_simp
       with_reducible rfl
      rotate_left
      ·simp only [Act.put, List.setIfInBounds_toArray, List.set_cons_zero, List.set_cons_succ, i64_w, i32_w]
       rfl
      refine pure_ (i := 8) (N := some 22) (v := ?_) (a' := ?_) #[true, true, true, true, false, true, true, true, true, false, false] rfl rfl (any_of HT_.out (by kernel_rfl)) (fun _ _ _ h => h) (Or.inl ⟨by rfl, ?_⟩) ?_ ?_
      rotate_left
      ·intro w'
       go_simp
       with_reducible rfl
      rotate_left
      ·simp only [Act.put, List.setIfInBounds_toArray, List.set_cons_zero, List.set_cons_succ, i64_w, i32_w]
       rfl
      refine one_ (i := 4) (N := some 18) #[true, true, true, true, true, true, true, true, true, false, false] rfl rfl (one_of HT_.out (by kernel_rfl)) (by decide) (fun K hK => ?_)
      refine goes_ Tryd.func65 (by kernel_rfl) rfl #[.slice A0 (l0.take ((ji4) : Int).toNat).length c0] (by rfl) rfl rfl (by (try simp only [List.map_toArray, List.map_cons, List.map_nil]); first | done | (rw [show (l0.take ((ji4) : Int).toNat).length = (ji4).toNat from (by rw [List.length_take]; have h_ : ((ji4) : Int) ≤ (l0.length : Int) := of_decide_eq_true (by first | (with_reducible assumption) | assumption); omega)] <;> rfl) | (simp only [hji4]; rfl) | rfl | (simp only [List.length_drop, List.length_take]; rfl)) ?_
      with_reducible refine (crc_Sum.calls _ _ (l0.take ((ji4) : Int).toNat) t146 _ ?side1 ?side2 ?side3 A7.out).mono ?_
      (case side1 => repeat (first | exact (Kd.C_below HR145.out HB.out) | (with_reducible refine Kd.C_alloc ?_ _) | (with_reducible refine Kd.C_drewN ?_ _) | (with_reducible refine Kd.C_drew ?_)))
      (case side2 => exact HC145.out)
      (case side3 => exact GT.below HG.out (by repeat (first | (with_reducible first | exact HB.out | apply below_alloc | apply pw_below_drewN | apply below_drew1) | exact HB.out)))
      rintro e w' ⟨rfl, ⟨nd, rfl⟩⟩
      refine ⟨_, rfl, ?_⟩
      refine hK.out _ _ trivial (fun hHeld => ?_)
      clear hK K
      refine norm_ (a' := ?_) ?_ ?_
      rotate_left
      ·show Act.put _ (some 18) _ = _
       simp only [Act.put, List.setIfInBounds_toArray, List.set_cons_zero, List.set_cons_succ, i64_w, i32_w]
       rfl
      refine one_ (i := 9) (N := some 23) #[true, true, true, true, true, true, true, true, true, true, false] rfl rfl (one_of HT_.out (by kernel_rfl)) (by decide) (fun K hK => ?_)
      refine goes_ Tryd.func78 (by kernel_rfl) rfl #[.slice A18 (l0.drop ((ji4) : Int).toNat).length (c0 - (ji4).toNat)] (by rfl) rfl rfl (by (try simp only [List.map_toArray, List.map_cons, List.map_nil]); first | done | (rw [show (l0.drop ((ji4) : Int).toNat).length = (l0.length - (ji4).toNat) from List.length_drop] <;> rfl) | (simp only [hji4]; rfl) | rfl | (simp only [List.length_drop, List.length_take]; rfl)) ?_
      with_reducible refine (crc_number.calls _ _ (l0.drop ((ji4) : Int).toNat) t148 _ ?side1 ?side2 A10.out).mono ?_
      (case side1 => repeat (first | exact (Kd.C_below HR147.out (by repeat (first | (with_reducible first | exact HB.out | apply below_alloc | apply pw_below_drewN | apply below_drew1) | exact HB.out))) | (with_reducible refine Kd.C_alloc ?_ _) | (with_reducible refine Kd.C_drewN ?_ _) | (with_reducible refine Kd.C_drew ?_)))
      (case side2 => exact HC147.out)
      rintro e w' ⟨rfl, ⟨nd, rfl⟩⟩
      refine ⟨_, rfl, ?_⟩
      refine hK.out _ _ trivial (fun hHeld => ?_)
      clear hK K
      refine norm_ (a' := ?_) ?_ ?_
      rotate_left
      ·show Act.put _ (some 23) _ = _
       simp only [Act.put, List.setIfInBounds_toArray, List.set_cons_zero, List.set_cons_succ, i64_w, i32_w]
       rfl
      refine pure_ (i := 10) (N := some 24) (v := ?_) (a' := ?_) #[true, true, true, true, true, true, true, true, true, true, true] rfl rfl (any_of HT_.out (by kernel_rfl)) (fun _ _ _ h => h) (Or.inl ⟨by rfl, ?_⟩) ?_ ?_
      rotate_left
      ·intro w'
       go_simp
       with_reducible rfl
      rotate_left
      ·simp only [Act.put, List.setIfInBounds_toArray, List.set_cons_zero, List.set_cons_succ, i64_w, i32_w]
       rfl
      refine done_ (done_of HT_.out (by kernel_rfl)) ?_
      obtain ⟨i019, hi019, _, hsz19, _⟩ := info_parts info5
      obtain ⟨A19, hcut19, hA19, hC19⟩ := print_mid_of (P := Tryd.prog) (Value.int .u8) 0 22 5 .i64 .i64 Tryd.underlying22 hi019 hsz19 A0 c0 l0 4 (ji4) (by omega) (by first | omega | exact of_decide_eq_true (by first | (with_reducible assumption) | assumption)) (of_decide_eq_true (by first | (with_reducible assumption) | assumption)) HC0.out
      have HR149 := Aside0.mk (Kd.C_of_reads (h1 := fun _ => rfl) (hA19 _ (Kd.reads_of_C HR0.out)))
      have HC149 := Aside0.mk hC19
      clear hA19 hC19 hi019 hsz19
      try go_wp2_with (first | ((with_reducible refine gate_callee (f := 55) rfl ?_); refine goesL_ (some 29) rfl rfl Tryd.func55 (by kernel_rfl) rfl #[.slice A19 ((l0.take ((ji4) : Int).toNat).drop 4).length (c0 - 4)] rfl (by (try simp only [List.map_toArray, List.map_cons, List.map_nil]); first | done | (rw [show ((l0.take ((ji4) : Int).toNat).drop 4).length = ((ji4).toNat - 4) from (by rw [List.length_drop, List.length_take]; have h_ : ((ji4) : Int) ≤ (l0.length : Int) := of_decide_eq_true (by first | (with_reducible assumption) | assumption); omega)] <;> rfl) | (simp only [hji4]; rfl) | rfl | (simp only [List.length_drop, List.length_take]; rfl)) ?_; (with_reducible refine (slices_Clone_byte_byte.calls _ _ ((l0.take ((ji4) : Int).toNat).drop 4) t150 _ ?side1 ?side2 A14.out).mono ?_); (case side1 => repeat (first | exact (Kd.C_below HR149.out (by repeat (first | (with_reducible first | exact HB.out | apply below_alloc | apply pw_below_drewN | apply below_drew1) | exact HB.out))) | (with_reducible refine Kd.C_alloc ?_ _) | (with_reducible refine Kd.C_drewN ?_ _) | (with_reducible refine Kd.C_drew ?_))); (case side2 => exact HC149.out); rintro e w20 ⟨v151, rfl, ho0, hb⟩; refine ⟨_, rfl, ?_⟩; have n0_ := Aside0.mk (Kd.R_lower ho0 (below_size (by repeat (first | (with_reducible first | exact HB.out | apply below_alloc | apply pw_below_drewN | apply below_drew1) | exact HB.out)))); have n1_ := Aside0.mk (below_step (by repeat (first | (with_reducible first | exact HB.out | apply below_alloc | apply pw_below_drewN | apply below_drew1) | exact HB.out)) hb); clear HB; have HO152 := n0_; have HB := n1_; clear n0_ n1_; (try clear hb); (try clear hb2); (try clear hk); (try clear hi); (try clear ho0)))
      go_ret3
      exact ⟨_, by first | rfl | (simp [errW_none, errW_some] <;> rfl) | (simp only [← hji4]; first | rfl | (simp [errW_none, errW_some] <;> rfl)) | (simp [*, errW_none, errW_some] <;> rfl), by (with_reducible repeat (first | apply Kd.R_alloc | apply Kd.R_drewN | apply Kd.R_drew)); exact HO152.out, by repeat (first | (with_reducible first | exact HB.out | apply below_alloc | apply pw_below_drewN | apply below_drew1) | exact HB.out)⟩
     ·rw [if_neg c12] at H
      exact absurd H (by simp)
    ·rw [if_neg c11] at H
     have c11b0 : (t146 == t148) = false := beq_eq_false_iff_ne.mpr c11
     have c11b1 : (t146 != t148) = true := bne_iff_ne.mpr c11
     simp only [Option.some.injEq, Prod.mk.injEq] at H
     obtain ⟨rfl, rfl, rfl⟩ := H
     go_enter Tryd.func57, Tryd.ntmps57
     try go_wp2_with (first | ((with_reducible refine gate_callee (f := 56) rfl ?_); refine goesL_ (some 8) rfl rfl Tryd.func56 (by kernel_rfl) rfl #[.slice A0 l0.length c0] rfl (by (try simp only [List.map_toArray, List.map_cons, List.map_nil]); first | done | rfl | (simp only [List.length_drop, List.length_take]; rfl)) ?_; (with_reducible refine (crc_shape.calls _ _ l0 t143 t144 _ ?side1 ?side2 A2.out).mono ?_); (case side1 => repeat (first | exact HR0.out | (with_reducible refine Kd.C_alloc ?_ _) | (with_reducible refine Kd.C_drewN ?_ _) | (with_reducible refine Kd.C_drew ?_))); (case side2 => exact HC0.out); rintro e w21 ⟨rfl, hd_⟩; have hb := Drawn0.below hd_; clear hd_; refine ⟨_, rfl, ?_⟩; have n0_ := Aside0.mk (below_step (by repeat (first | (with_reducible first | exact HB.out | apply below_alloc | apply pw_below_drewN | apply below_drew1) | exact HB.out)) hb); clear HB; have HB := n0_; clear n0_; (try clear hb)))
     have n0_ := Aside0.mk (below_drew1 HB.out)
     clear HB
     have HB := n0_
     clear n0_
     obtain ⟨i023, hi023, _, hsz23, _⟩ := info_parts info5
     obtain ⟨hcut23, hA23, hC23⟩ := print_take_of (P := Tryd.prog) (Value.int .u8) 0 22 5 .i64 Tryd.underlying22 hi023 hsz23 A0 c0 l0 (ji4) (of_decide_eq_true (by first | (with_reducible assumption) | assumption)) (of_decide_eq_true (by first | (with_reducible assumption) | assumption)) HC0.out
     have HR145 := Aside0.mk (Kd.C_of_reads (h1 := fun _ => rfl) (hA23 _ (Kd.reads_of_C HR0.out)))
     have HC145 := Aside0.mk hC23
     clear hA23 hC23 hi023 hsz23
     obtain ⟨i024, hi024, _, hsz24, _⟩ := info_parts info5
     obtain ⟨A24, hcut24, hA24, hC24⟩ := print_drop_of (P := Tryd.prog) (Value.int .u8) 0 22 5 .i64 Tryd.underlying22 hi024 hsz24 A0 c0 l0 (ji4) (of_decide_eq_true (by first | (with_reducible assumption) | assumption)) (of_decide_eq_true (by first | (with_reducible assumption) | assumption)) HC0.out
     have HR147 := Aside0.mk (Kd.C_of_reads (h1 := fun _ => rfl) (hA24 _ (Kd.reads_of_C HR0.out)))
     have HC147 := Aside0.mk hC24
     clear hA24 hC24 hi024 hsz24
     refine start_ (n := 11) (S := fun w' => True) (ds := []) #[false, false, false, false, false, false, false, false, false, false, false] (by kernel_rfl) rfl rfl trivial (fun hHeld => ?_); refine with_tabW crc_First.tab4 crc_First.bits4 (fun HT_ HW_ => ?_)
     generalize w21.drew = w22 at HB HR145 HR147 hHeld ⊢
     refine pure_ (i := 0) (N := some 14) (v := ?_) (a' := ?_) #[true, false, false, false, false, false, false, false, false, false, false] rfl rfl (any_of HT_.out (by kernel_rfl)) (fun _ _ _ h => h) (Or.inl ⟨by rfl, ?_⟩) ?_ ?_
     rotate_left
     ·intro w'
      go_simp
      with_reducible rfl
     rotate_left
     ·simp only [Act.put, List.setIfInBounds_toArray, List.set_cons_zero, List.set_cons_succ, i64_w, i32_w]
      rfl
     refine pure_ (i := 1) (N := some 15) (v := ?_) (a' := ?_) #[true, true, false, false, false, false, false, false, false, false, false] rfl rfl (any_of HT_.out (by kernel_rfl)) (fun _ _ _ h => h) (Or.inl ⟨by rfl, ?_⟩) ?_ ?_
     rotate_left
     ·intro w'
      go_simp
      with_reducible rfl
     rotate_left
     ·simp only [Act.put, List.setIfInBounds_toArray, List.set_cons_zero, List.set_cons_succ, i64_w, i32_w]
      rfl
     refine pure_ (i := 2) (N := some 16) (v := ?_) (a' := ?_) #[true, true, true, false, false, false, false, false, false, false, false] rfl rfl (any_of HT_.out (by kernel_rfl)) (fun _ _ _ h => h) (Or.inl ⟨by rfl, ?_⟩) ?_ ?_
     rotate_left
     ·intro w'
      go_simp
      with_reducible rfl
     rotate_left
     ·simp only [Act.put, List.setIfInBounds_toArray, List.set_cons_zero, List.set_cons_succ, i64_w, i32_w]
      rfl
     refine pure_ (i := 3) (N := some 17) (v := ?_) (a' := ?_) #[true, true, true, true, false, false, false, false, false, false, false] rfl rfl (any_of HT_.out (by kernel_rfl)) (fun _ _ _ h => h) (Or.inl ⟨by rfl, ?_⟩) ?_ ?_
     rotate_left
     ·intro w'
      go_simp
      with_reducible rfl
     rotate_left
     ·simp only [Act.put, List.setIfInBounds_toArray, List.set_cons_zero, List.set_cons_succ, i64_w, i32_w]
      rfl
     refine pure_ (i := 5) (N := some 19) (v := ?_) (a' := ?_) #[true, true, true, true, false, true, false, false, false, false, false] rfl rfl (any_of HT_.out (by kernel_rfl)) (fun _ _ _ h => h) (Or.inl ⟨by rfl, ?_⟩) ?_ ?_
     rotate_left
     ·intro w'
      go_simp
      with_reducible rfl
     rotate_left
     ·simp only [Act.put, List.setIfInBounds_toArray, List.set_cons_zero, List.set_cons_succ, i64_w, i32_w]
      rfl
     refine pure_ (i := 6) (N := some 20) (v := ?_) (a' := ?_) #[true, true, true, true, false, true, true, false, false, false, false] rfl rfl (any_of HT_.out (by kernel_rfl)) (fun _ _ _ h => h) (Or.inl ⟨by rfl, ?_⟩) ?_ ?_
     rotate_left
     ·intro w'
      go_simp
      with_reducible rfl
     rotate_left
     ·simp only [Act.put, List.setIfInBounds_toArray, List.set_cons_zero, List.set_cons_succ, i64_w, i32_w]
      rfl
     refine pure_ (i := 7) (N := some 21) (v := ?_) (a' := ?_) #[true, true, true, true, false, true, true, true, false, false, false] rfl rfl (any_of HT_.out (by kernel_rfl)) (fun _ _ _ h => h) (Or.inl ⟨by rfl, ?_⟩) ?_ ?_
     rotate_left
     ·intro w'
      go_simp
      with_reducible rfl
     rotate_left
     ·simp only [Act.put, List.setIfInBounds_toArray, List.set_cons_zero, List.set_cons_succ, i64_w, i32_w]
      rfl
     refine pure_ (i := 8) (N := some 22) (v := ?_) (a' := ?_) #[true, true, true, true, false, true, true, true, true, false, false] rfl rfl (any_of HT_.out (by kernel_rfl)) (fun _ _ _ h => h) (Or.inl ⟨by rfl, ?_⟩) ?_ ?_
     rotate_left
     ·intro w'
      go_simp
      with_reducible rfl
     rotate_left
     ·simp only [Act.put, List.setIfInBounds_toArray, List.set_cons_zero, List.set_cons_succ, i64_w, i32_w]
      rfl
     refine one_ (i := 4) (N := some 18) #[true, true, true, true, true, true, true, true, true, false, false] rfl rfl (one_of HT_.out (by kernel_rfl)) (by decide) (fun K hK => ?_)
     refine goes_ Tryd.func65 (by kernel_rfl) rfl #[.slice A0 (l0.take ((ji4) : Int).toNat).length c0] (by rfl) rfl rfl (by (try simp only [List.map_toArray, List.map_cons, List.map_nil]); first | done | (rw [show (l0.take ((ji4) : Int).toNat).length = (ji4).toNat from (by rw [List.length_take]; have h_ : ((ji4) : Int) ≤ (l0.length : Int) := of_decide_eq_true (by first | (with_reducible assumption) | assumption); omega)] <;> rfl) | (simp only [hji4]; rfl) | rfl | (simp only [List.length_drop, List.length_take]; rfl)) ?_
     with_reducible refine (crc_Sum.calls _ _ (l0.take ((ji4) : Int).toNat) t146 _ ?side1 ?side2 ?side3 A7.out).mono ?_
     (case side1 => repeat (first | exact (Kd.C_below HR145.out HB.out) | (with_reducible refine Kd.C_alloc ?_ _) | (with_reducible refine Kd.C_drewN ?_ _) | (with_reducible refine Kd.C_drew ?_)))
     (case side2 => exact HC145.out)
     (case side3 => exact GT.below HG.out (by repeat (first | (with_reducible first | exact HB.out | apply below_alloc | apply pw_below_drewN | apply below_drew1) | exact HB.out)))
     rintro e w' ⟨rfl, ⟨nd, rfl⟩⟩
     refine ⟨_, rfl, ?_⟩
     refine hK.out _ _ trivial (fun hHeld => ?_)
     clear hK K
     refine norm_ (a' := ?_) ?_ ?_
     rotate_left
     ·show Act.put _ (some 18) _ = _
      simp only [Act.put, List.setIfInBounds_toArray, List.set_cons_zero, List.set_cons_succ, i64_w, i32_w]
      rfl
     refine one_ (i := 9) (N := some 23) #[true, true, true, true, true, true, true, true, true, true, false] rfl rfl (one_of HT_.out (by kernel_rfl)) (by decide) (fun K hK => ?_)
     refine goes_ Tryd.func78 (by kernel_rfl) rfl #[.slice A24 (l0.drop ((ji4) : Int).toNat).length (c0 - (ji4).toNat)] (by rfl) rfl rfl (by (try simp only [List.map_toArray, List.map_cons, List.map_nil]); first | done | (rw [show (l0.drop ((ji4) : Int).toNat).length = (l0.length - (ji4).toNat) from List.length_drop] <;> rfl) | (simp only [hji4]; rfl) | rfl | (simp only [List.length_drop, List.length_take]; rfl)) ?_
     with_reducible refine (crc_number.calls _ _ (l0.drop ((ji4) : Int).toNat) t148 _ ?side1 ?side2 A10.out).mono ?_
     (case side1 => repeat (first | exact (Kd.C_below HR147.out (by repeat (first | (with_reducible first | exact HB.out | apply below_alloc | apply pw_below_drewN | apply below_drew1) | exact HB.out))) | (with_reducible refine Kd.C_alloc ?_ _) | (with_reducible refine Kd.C_drewN ?_ _) | (with_reducible refine Kd.C_drew ?_)))
     (case side2 => exact HC147.out)
     rintro e w' ⟨rfl, ⟨nd, rfl⟩⟩
     refine ⟨_, rfl, ?_⟩
     refine hK.out _ _ trivial (fun hHeld => ?_)
     clear hK K
     refine norm_ (a' := ?_) ?_ ?_
     rotate_left
     ·show Act.put _ (some 23) _ = _
      simp only [Act.put, List.setIfInBounds_toArray, List.set_cons_zero, List.set_cons_succ, i64_w, i32_w]
      rfl
     refine pure_ (i := 10) (N := some 24) (v := ?_) (a' := ?_) #[true, true, true, true, true, true, true, true, true, true, true] rfl rfl (any_of HT_.out (by kernel_rfl)) (fun _ _ _ h => h) (Or.inl ⟨by rfl, ?_⟩) ?_ ?_
     rotate_left
     ·intro w'
      go_simp
      with_reducible rfl
     rotate_left
     ·simp only [Act.put, List.setIfInBounds_toArray, List.set_cons_zero, List.set_cons_succ, i64_w, i32_w]
      rfl
     refine done_ (done_of HT_.out (by kernel_rfl)) ?_
     try go_wp2
     go_ret3
     exact ⟨_, by first | rfl | (simp [errW_none, errW_some] <;> rfl) | (simp only [← hji4]; first | rfl | (simp [errW_none, errW_some] <;> rfl)) | (simp [*, errW_none, errW_some] <;> rfl), by first | exact Kd.R_nil _ _ _ _ _ | exact Kd.N_nil _ _ _ _ _ | exact Kd.V_nil _ _ _ _ _ | exact Kd.Q_nil _ _ _ _ _ | exact Kd.S_nil _ _ _ _ _, by repeat (first | (with_reducible first | exact HB.out | apply below_alloc | apply pw_below_drewN | apply below_drew1) | exact HB.out)⟩
   ·rw [if_neg c6] at H
    exact absurd H (by simp)
  ·rw [if_neg c5] at H
   exact absurd H (by simp)
 ·rw [if_neg c3] at H
  have c3b0 : (t144 == 0) = false := beq_eq_false_iff_ne.mpr c3
  have c3b1 : (t144 != 0) = true := bne_iff_ne.mpr c3
  simp only [Option.some.injEq, Prod.mk.injEq] at H
  obtain ⟨rfl, rfl, rfl⟩ := H
  go_enter Tryd.func57, Tryd.ntmps57
  go_wp2_with (first | ((with_reducible refine gate_callee (f := 56) rfl ?_); refine goesL_ (some 8) rfl rfl Tryd.func56 (by kernel_rfl) rfl #[.slice A0 l0.length c0] rfl (by (try simp only [List.map_toArray, List.map_cons, List.map_nil]); first | done | rfl | (simp only [List.length_drop, List.length_take]; rfl)) ?_; (with_reducible refine (crc_shape.calls _ _ l0 t143 t144 _ ?side1 ?side2 A2.out).mono ?_); (case side1 => repeat (first | exact HR0.out | (with_reducible refine Kd.C_alloc ?_ _) | (with_reducible refine Kd.C_drewN ?_ _) | (with_reducible refine Kd.C_drew ?_))); (case side2 => exact HC0.out); rintro e w25 ⟨rfl, hd_⟩; have hb := Drawn0.below hd_; clear hd_; refine ⟨_, rfl, ?_⟩; have n0_ := Aside0.mk (below_step (by repeat (first | (with_reducible first | exact HB.out | apply below_alloc | apply pw_below_drewN | apply below_drew1) | exact HB.out)) hb); clear HB; have HB := n0_; clear n0_; (try clear hb)))
  go_ret3
  exact ⟨_, by first | rfl | (simp [errW_none, errW_some] <;> rfl) | (simp [*, errW_none, errW_some] <;> rfl), by first | exact Kd.R_nil _ _ _ _ _ | exact Kd.N_nil _ _ _ _ _ | exact Kd.V_nil _ _ _ _ _ | exact Kd.Q_nil _ _ _ _ _ | exact Kd.S_nil _ _ _ _ _, by repeat (first | (with_reducible first | exact HB.out | apply below_alloc | apply pw_below_drewN | apply below_drew1) | exact HB.out)⟩
def crc_Unwrap.f (l0 : List Int) : Option (List Int × Int) := (crc_shape.f l0).bind fun bt153 => (if bt153.2 = 0 then (if (wrap64 ((wrap64 (4 + bt153.1)) + 4)) < (l0.length : Int) then (some (([] : List Int), 2)) else ((crc_First.f l0).bind fun bt155 => (some (bt155.1, bt155.2.2)))) else ((crc_First.f l0).bind fun bt160 => (some (bt160.1, bt160.2.2))))
set_option maxHeartbeats 8000000 in
set_option maxRecDepth 100000 in
theorem crc_Unwrap.calls (A0 : Option Addr) (c0 : Nat) (l0 : List Int) (r1 : List Int) (r2 : Int) (w : World) (hr0 : Kd.C (Kd.int .u8) w A0 l0.length l0) (hc0 : l0.length ≤ c0) (hG : GT w) (h : crc_Unwrap.f l0 = some (r1, r2)) :
  Calls Tryd.prog 33 #[.slice A0 l0.length c0] w fun e w' => ∃ v0_ : Value, e = .returned (.tuple #[v0_, .int .i64 r2]) ∧ Kd.R (Kd.int .u8) 5 w' w.heap.size (fun _ => True) v0_ r1 ∧ Below w.heap.size w w' := by
 have HR0 := Aside0.mk hr0
 have HC0 := Aside0.mk hc0
 clear hr0 hc0
 have HB := Aside0.mk (Below.refl w.heap.size w)
 have HG := Aside0.mk hG
 clear hG
 have H : ((crc_shape.f l0).bind fun bt153 => (if bt153.2 = 0 then (if (wrap64 ((wrap64 (4 + bt153.1)) + 4)) < (l0.length : Int) then (some (([] : List Int), 2)) else ((crc_First.f l0).bind fun bt155 => (some (bt155.1, bt155.2.2)))) else ((crc_First.f l0).bind fun bt160 => (some (bt160.1, bt160.2.2))))) = some (r1, r2) := h
 clear h
 replace H := Option.bind_eq_some_iff.mp H
 obtain ⟨⟨t153, t154⟩, A20, H⟩ := H
 replace H : (if t154 = 0 then (if (wrap64 ((wrap64 (4 + t153)) + 4)) < (l0.length : Int) then (some (([] : List Int), 2)) else ((crc_First.f l0).bind fun bt155 => (some (bt155.1, bt155.2.2)))) else ((crc_First.f l0).bind fun bt160 => (some (bt160.1, bt160.2.2)))) = some (r1, r2) := H
 have A2 := Aside0.mk A20
 clear A20
 by_cases c3 : t154 = 0
 ·rw [if_pos c3] at H
  have c3b0 : (t154 == 0) = true := beq_iff_eq.mpr c3
  have c3b1 : (t154 != 0) = false := bne_eq_false_iff_eq.mpr c3
  clear c3
  by_cases c4 : (wrap64 ((wrap64 (4 + t153)) + 4)) < (l0.length : Int)
  ·rw [if_pos c4] at H
   have c4b0 : decide ((wrap64 ((wrap64 (4 + t153)) + 4)) < (l0.length : Int)) = true := decide_eq_true c4
   clear c4
   simp only [Option.some.injEq, Prod.mk.injEq] at H
   obtain ⟨rfl, rfl⟩ := H
   go_enter Tryd.func33, Tryd.ntmps33
   go_wp2_with (first | ((with_reducible refine gate_callee (f := 56) rfl ?_); refine goesL_ (some 11) rfl rfl Tryd.func56 (by kernel_rfl) rfl #[.slice A0 l0.length c0] rfl (by (try simp only [List.map_toArray, List.map_cons, List.map_nil]); first | done | rfl | (simp only [List.length_drop, List.length_take]; rfl)) ?_; (with_reducible refine (crc_shape.calls _ _ l0 t153 t154 _ ?side1 ?side2 A2.out).mono ?_); (case side1 => repeat (first | exact HR0.out | (with_reducible refine Kd.C_alloc ?_ _) | (with_reducible refine Kd.C_drewN ?_ _) | (with_reducible refine Kd.C_drew ?_))); (case side2 => exact HC0.out); rintro e w' ⟨rfl, ⟨nd, rfl⟩⟩; refine ⟨_, rfl, ?_⟩))
   go_ret2
   exact ⟨_, by first | rfl | (simp [errW_none, errW_some] <;> rfl) | (simp [*, errW_none, errW_some] <;> rfl), by first | exact Kd.R_nil _ _ _ _ _ | exact Kd.N_nil _ _ _ _ _ | exact Kd.V_nil _ _ _ _ _ | exact Kd.Q_nil _ _ _ _ _ | exact Kd.S_nil _ _ _ _ _, by repeat (first | (with_reducible first | exact HB.out | apply below_alloc | apply pw_below_drewN | apply below_drew1) | exact HB.out)⟩
  ·rw [if_neg c4] at H
   have c4b0 : decide ((wrap64 ((wrap64 (4 + t153)) + 4)) < (l0.length : Int)) = false := decide_eq_false c4
   clear c4
   replace H := Option.bind_eq_some_iff.mp H
   obtain ⟨⟨t155, t156, t157⟩, A50, H⟩ := H
   replace H : (some (t155, t157)) = some (r1, r2) := H
   have A5 := Aside0.mk A50
   clear A50
   simp only [Option.some.injEq, Prod.mk.injEq] at H
   obtain ⟨rfl, rfl⟩ := H
   go_enter Tryd.func33, Tryd.ntmps33
   go_wp2_with (first | ((with_reducible refine gate_callee (f := 56) rfl ?_); refine goesL_ (some 11) rfl rfl Tryd.func56 (by kernel_rfl) rfl #[.slice A0 l0.length c0] rfl (by (try simp only [List.map_toArray, List.map_cons, List.map_nil]); first | done | rfl | (simp only [List.length_drop, List.length_take]; rfl)) ?_; (with_reducible refine (crc_shape.calls _ _ l0 t153 t154 _ ?side1 ?side2 A2.out).mono ?_); (case side1 => repeat (first | exact HR0.out | (with_reducible refine Kd.C_alloc ?_ _) | (with_reducible refine Kd.C_drewN ?_ _) | (with_reducible refine Kd.C_drew ?_))); (case side2 => exact HC0.out); rintro e w' ⟨rfl, ⟨nd, rfl⟩⟩; refine ⟨_, rfl, ?_⟩) | ((with_reducible refine gate_callee (f := 57) rfl ?_); refine goesL_ (some 26) rfl rfl Tryd.func57 (by kernel_rfl) rfl #[.slice A0 l0.length c0] rfl (by (try simp only [List.map_toArray, List.map_cons, List.map_nil]); first | done | rfl | (simp only [List.length_drop, List.length_take]; rfl)) ?_; (with_reducible refine (crc_First.calls _ _ l0 t155 t156 t157 _ ?side1 ?side2 ?side3 A5.out).mono ?_); (case side1 => repeat (first | exact HR0.out | (with_reducible refine Kd.C_alloc ?_ _) | (with_reducible refine Kd.C_drewN ?_ _) | (with_reducible refine Kd.C_drew ?_))); (case side2 => exact HC0.out); (case side3 => exact GT.below HG.out (by repeat (first | (with_reducible first | exact HB.out | apply below_alloc | apply pw_below_drewN | apply below_drew1) | exact HB.out))); rintro e w6 ⟨v158, rfl, ho0, hb⟩; refine ⟨_, rfl, ?_⟩; have n0_ := Aside0.mk (Kd.R_lower ho0 (below_size (by repeat (first | (with_reducible first | exact HB.out | apply below_alloc | apply pw_below_drewN | apply below_drew1) | exact HB.out)))); have n1_ := Aside0.mk (below_step (by repeat (first | (with_reducible first | exact HB.out | apply below_alloc | apply pw_below_drewN | apply below_drew1) | exact HB.out)) hb); clear HB; have HO159 := n0_; have HB := n1_; clear n0_ n1_; (try clear hb); (try clear hb2); (try clear hk); (try clear hi); (try clear ho0)))
   go_ret2
   exact ⟨_, by first | rfl | (simp [errW_none, errW_some] <;> rfl) | (simp [*, errW_none, errW_some] <;> rfl), by (with_reducible repeat (first | apply Kd.R_alloc | apply Kd.R_drewN | apply Kd.R_drew)); exact HO159.out, by repeat (first | (with_reducible first | exact HB.out | apply below_alloc | apply pw_below_drewN | apply below_drew1) | exact HB.out)⟩
 ·rw [if_neg c3] at H
  have c3b0 : (t154 == 0) = false := beq_eq_false_iff_ne.mpr c3
  have c3b1 : (t154 != 0) = true := bne_iff_ne.mpr c3
  replace H := Option.bind_eq_some_iff.mp H
  obtain ⟨⟨t160, t161, t162⟩, A70, H⟩ := H
  replace H : (some (t160, t162)) = some (r1, r2) := H
  have A7 := Aside0.mk A70
  clear A70
  simp only [Option.some.injEq, Prod.mk.injEq] at H
  obtain ⟨rfl, rfl⟩ := H
  go_enter Tryd.func33, Tryd.ntmps33
  go_wp2_with (first | ((with_reducible refine gate_callee (f := 56) rfl ?_); refine goesL_ (some 11) rfl rfl Tryd.func56 (by kernel_rfl) rfl #[.slice A0 l0.length c0] rfl (by (try simp only [List.map_toArray, List.map_cons, List.map_nil]); first | done | rfl | (simp only [List.length_drop, List.length_take]; rfl)) ?_; (with_reducible refine (crc_shape.calls _ _ l0 t153 t154 _ ?side1 ?side2 A2.out).mono ?_); (case side1 => repeat (first | exact HR0.out | (with_reducible refine Kd.C_alloc ?_ _) | (with_reducible refine Kd.C_drewN ?_ _) | (with_reducible refine Kd.C_drew ?_))); (case side2 => exact HC0.out); rintro e w' ⟨rfl, ⟨nd, rfl⟩⟩; refine ⟨_, rfl, ?_⟩) | ((with_reducible refine gate_callee (f := 57) rfl ?_); refine goesL_ (some 26) rfl rfl Tryd.func57 (by kernel_rfl) rfl #[.slice A0 l0.length c0] rfl (by (try simp only [List.map_toArray, List.map_cons, List.map_nil]); first | done | rfl | (simp only [List.length_drop, List.length_take]; rfl)) ?_; (with_reducible refine (crc_First.calls _ _ l0 t160 t161 t162 _ ?side1 ?side2 ?side3 A7.out).mono ?_); (case side1 => repeat (first | exact HR0.out | (with_reducible refine Kd.C_alloc ?_ _) | (with_reducible refine Kd.C_drewN ?_ _) | (with_reducible refine Kd.C_drew ?_))); (case side2 => exact HC0.out); (case side3 => exact GT.below HG.out (by repeat (first | (with_reducible first | exact HB.out | apply below_alloc | apply pw_below_drewN | apply below_drew1) | exact HB.out))); rintro e w8 ⟨v163, rfl, ho0, hb⟩; refine ⟨_, rfl, ?_⟩; have n0_ := Aside0.mk (Kd.R_lower ho0 (below_size (by repeat (first | (with_reducible first | exact HB.out | apply below_alloc | apply pw_below_drewN | apply below_drew1) | exact HB.out)))); have n1_ := Aside0.mk (below_step (by repeat (first | (with_reducible first | exact HB.out | apply below_alloc | apply pw_below_drewN | apply below_drew1) | exact HB.out)) hb); clear HB; have HO164 := n0_; have HB := n1_; clear n0_ n1_; (try clear hb); (try clear hb2); (try clear hk); (try clear hi); (try clear ho0)))
  go_ret2
  exact ⟨_, by first | rfl | (simp [errW_none, errW_some] <;> rfl) | (simp [*, errW_none, errW_some] <;> rfl), by (with_reducible repeat (first | apply Kd.R_alloc | apply Kd.R_drewN | apply Kd.R_drew)); exact HO164.out, by repeat (first | (with_reducible first | exact HB.out | apply below_alloc | apply pw_below_drewN | apply below_drew1) | exact HB.out)⟩
theorem or_add64 (i : Nat) (x y : Int) (h0 : 0 ≤ x) (h1 : x < 2 ^ i) (h2 : 0 ≤ y) (h3 : y * 2 ^ i < 18446744073709551616) (h4 : x < 18446744073709551616) : Go.bits .or .u64 x (y * 2 ^ i) = x + y * 2 ^ i := by
 obtain ⟨a, rfl⟩ := Int.eq_ofNat_of_zero_le h0
 obtain ⟨b, rfl⟩ := Int.eq_ofNat_of_zero_le h2
 have e : ((b : Int) * 2 ^ i) = ((b * 2 ^ i : Nat) : Int) := by simp
 have h1' : a < 2 ^ i := by
  have : ((2 ^ i : Nat) : Int) = 2 ^ i := by simp
  omega
 rw [e] at h3 ⊢
 rw [u64_or _ _ (by omega) (by omega) (by omega) (by omega)]
 rw [Int.toNat_natCast, Int.toNat_natCast]
 have := Nat.shiftLeft_add_eq_or_of_lt h1' b
 rw [Nat.shiftLeft_eq] at this
 rw [Nat.or_comm, ← this]
 omega
def ByteL (l : List Int) : Prop := ∀ x ∈ l, 0 ≤ x ∧ x < 256
instance (l : List Int) : Decidable (ByteL l) := by unfold ByteL; exact inferInstance
theorem rdB {l : List Int} (h : ByteL l) (i : Int) : 0 ≤ rd l i ∧ rd l i < 256 := by
 unfold rd
 rw [List.getD_eq_getElem?_getD]
 rcases Nat.lt_or_ge i.toNat l.length with hi | hi
 ·rw [List.getElem?_eq_getElem hi]
  exact h _ (List.getElem_mem hi)
 ·rw [List.getElem?_eq_none hi]
  exact ⟨by decide, by decide⟩
theorem takeI (l : List Int) (i : Nat) (h : i < l.length) : l.take (i + 1) = l.take i ++ [rd l (i : Int)] := by
 unfold rd
 rw [Int.toNat_natCast, List.getD_eq_getElem?_getD, List.getElem?_eq_getElem h, List.take_succ_eq_append_getElem h]
 rfl
theorem leV_step {m : List Int} (hm : ByteL m) {i : Nat} (hi : i < m.length) (h8 : m.length ≤ 8) :
  Go.bits .or .u64 (leV (m.take i)) (IntKind.u64.wrap (rd m (i : Int) * 2 ^ (8 * i))) = leV (m.take (i + 1)) := by
 have h1 := leV_range (m.take i) (fun x hx => hm x (List.mem_of_mem_take hx))
 have hl : (m.take i).length = i := by rw [List.length_take]; omega
 rw [hl] at h1
 have h2 := rdB hm (i : Int)
 have hp : (256 : Int) ^ i = 2 ^ (8 * i) := by rw [Int.pow_mul]; rfl
 rw [hp] at h1
 have hle : (2 : Int) ^ (8 * i) ≤ 2 ^ 56 := by
  have := Nat.pow_le_pow_right (show 0 < 2 by decide) (show 8 * i ≤ 56 by omega)
  have e1 : (2 : Int) ^ (8 * i) = ((2 ^ (8 * i) : Nat) : Int) := by simp
  have e2 : (2 : Int) ^ 56 = ((2 ^ 56 : Nat) : Int) := by simp
  rw [e1, e2]
  exact Int.ofNat_le.2 this
 have h56 : (2 : Int) ^ 56 = 72057594037927936 := by decide
 have hb : rd m (i : Int) * 2 ^ (8 * i) ≤ 255 * 72057594037927936 := by
  rw [h56] at hle
  exact Int.mul_le_mul (by omega) hle (by omega) (by omega)
 have hnn : 0 ≤ rd m (i : Int) * 2 ^ (8 * i) := Int.mul_nonneg h2.1 (by omega)
 have hw : IntKind.u64.wrap (rd m (i : Int) * 2 ^ (8 * i)) = rd m (i : Int) * 2 ^ (8 * i) := by
  rw [wrapU64]
  omega
 rw [hw, or_add64 (8 * i) _ _ h1.1 h1.2 h2.1 (by omega) (by omega), takeI m i hi, leV_append, hl, hp]
 show _ = _ + 2 ^ (8 * i) * (rd m (i : Int) + 256 * 0)
 rw [Int.mul_comm (2 ^ (8 * i))]
 simp
def num_Take.f (l0 : List Int) : Option (Int × Int × Int) := if ByteL l0 ∧ l0.length < 140737488355328 then some (takeN l0) else none
theorem rd_zero (b : Int) (r : List Int) : rd (b :: r) 0 = b := rfl
set_option maxHeartbeats 8000000 in
set_option maxRecDepth 100000 in
theorem num_Take.calls (A0 : Option Addr) (c0 : Nat) (l0 : List Int) (r1 : Int) (r2 : Int) (r3 : Int) (w : World) (hr0 : Kd.C (Kd.int .u8) w A0 l0.length l0) (hc0 : l0.length ≤ c0) (h : num_Take.f l0 = some (r1, r2, r3)) :
  Calls Tryd.prog 58 #[.slice A0 l0.length c0] w fun e w' => e = .returned (.tuple #[.int .u64 r1, .int .i64 r2, .int .i64 r3]) ∧ Drawn0 w w' := by
 unfold num_Take.f at h
 by_cases hl : ByteL l0 ∧ l0.length < 140737488355328
 case neg => rw [if_neg hl] at h; cases h
 rw [if_pos hl] at h
 have h := Option.some.inj h
 have HR := Aside0.mk hr0
 have HC := Aside0.mk hc0
 have HB := Aside0.mk hl.1
 have HL := Aside0.mk hl.2
 clear hr0 hc0 hl
 have hu22 := Tryd.underlying22
 have hu5 := Tryd.underlying5
 cases l0 with
 | nil =>
  unfold takeN at h
  simp only [Prod.mk.injEq] at h
  obtain ⟨rfl, rfl, rfl⟩ := h
  simp only [List.length_nil]
  go_enter Tryd.func58, Tryd.ntmps58
  go_wp2
  go_ret3
  exact ⟨rfl, Drawn0.refl _⟩
 | cons b r =>
  obtain ⟨ad, rfl, hx0⟩ := Kd.at_int HR.out 0 (Int.le_refl _) (by rw [List.length_cons]; omega)
  rw [show ((0 : Int)).toNat = 0 from rfl, Addr.add_zero', rd_zero] at hx0
  have HBB := Aside0.mk (HB.out b List.mem_cons_self)
  obtain ⟨n, hn⟩ : ∃ n, n = (b :: r).length := ⟨_, rfl⟩
  have HN := Aside0.mk (show n = r.length + 1 from hn)
  rw [takeN_cons] at h
  have HRL := Aside0.mk HR.out
  have HCL := Aside0.mk HC.out
  rw [← hn] at HR HC HL ⊢
  have hz0 : ((n : Int) == 0) = false := by rw [beq_eq_false_iff_ne]; rw [hn, List.length_cons]; omega
  have hz1 : decide ((n : Int) = 0) = false := decide_eq_false (by rw [hn, List.length_cons]; omega)
  have hz2 : (n = 0) = False := eq_false (by rw [hn, List.length_cons]; omega)
  have hz3 : (0 < n) = True := eq_true (by rw [hn, List.length_cons]; omega)
  have hz4 : ((0 : Int) < (n : Int)) = True := eq_true (by rw [hn, List.length_cons]; omega)
  clear hn
  have hw1 : wrap64 b = b := by have := HBB.out; unfold wrap64; omega
  have hw2 : wrap64 (b - 247) = b - 247 := by have := HBB.out; unfold wrap64; omega
  have hw3 : wrap64 ((n : Int) - 1) = (n : Int) - 1 := by have := HL.out; unfold wrap64; omega
  have hw4 : b % 18446744073709551616 = b := by have := HBB.out; omega
  by_cases hb : b ≤ 247
  ·rw [if_pos hb] at h
   simp only [Prod.mk.injEq] at h
   obtain ⟨rfl, rfl, rfl⟩ := h
   have hb1 := decide_eq_true hb
   clear hb
   go_enter Tryd.func58, Tryd.ntmps58
   go_wp2
   go_ret3
   exact ⟨rfl, Drawn0.refl _⟩
  ·rw [if_neg hb] at h
   have hb1 := decide_eq_false hb
   by_cases hs : (r.length : Int) < b - 247
   ·rw [if_pos hs] at h
    simp only [Prod.mk.injEq] at h
    obtain ⟨rfl, rfl, rfl⟩ := h
    have hs1 : decide ((n : Int) - 1 < b - 247) = true := decide_eq_true (by have := HN.out; omega)
    clear hs
    go_enter Tryd.func58, Tryd.ntmps58
    go_wp2
    go_ret3
    exact ⟨rfl, Drawn0.refl _⟩
   ·rw [if_neg hs] at h
    have hs1 : decide ((n : Int) - 1 < b - 247) = false := decide_eq_false (by have := HN.out; omega)
    obtain ⟨kk, hk⟩ : ∃ kk : Nat, b - 247 = (kk : Int) := ⟨(b - 247).toNat, by omega⟩
    have HK := Aside0.mk (show 1 ≤ kk ∧ kk ≤ 8 ∧ kk ≤ r.length by have := HBB.out; omega)
    have HBK := Aside0.mk hk
    rw [hk, Int.toNat_natCast] at h
    obtain ⟨m, hm⟩ : ∃ m, m = r.take kk := ⟨_, rfl⟩
    rw [← hm] at h
    have hml : m.length = kk := by rw [hm, List.length_take]; have := HK.out; omega
    have HM := Aside0.mk (show ((b :: r).take (1 + kk)).drop 1 = m by rw [show 1 + kk = kk + 1 by omega, List.take_succ_cons, List.drop_succ_cons, List.drop_zero]; exact hm.symm)
    have HMB := Aside0.mk (show ByteL m from fun x hx => HB.out x (List.mem_cons_of_mem _ (List.mem_of_mem_take (hm ▸ hx))))
    rw [hk] at hw2 hs1
    have hw5 : wrap64 (1 + (kk : Int)) = 1 + (kk : Int) := by have := HK.out; unfold wrap64; omega
    obtain ⟨i0, hi, hz⟩ := Option.map_eq_some_iff.1 info5
    simp only [Prod.mk.injEq] at hz
    have hsl := cut_mid (P := Tryd.prog) 22 5 .i64 .i64 Tryd.underlying22 hi 1 hz.2.1 (some ad) n c0 1 (1 + (kk : Int)) (by omega) (by have := HK.out; omega) (by have := HK.out; have := HN.out; omega) HC.out
    have HCM : (Kd.int .u8).C w (if c0 = 1 then some ad else (some ad).map (·.add (1 * 1))) (((b :: r).take (1 + kk)).drop 1).length (((b :: r).take (1 + kk)).drop 1) := Kd.C_mid (lo := 1) (hi := 1 + kk) (c := c0) HRL.out (by omega) (by have := HK.out; rw [List.length_cons]; omega) HCL.out
    rw [show ((1 : Int)).toNat = 1 from rfl, show (1 + (kk : Int)).toNat - 1 = m.length by omega] at hsl
    rw [HM.out] at HCM
    generalize (if c0 = 1 then some ad else Option.map (fun x => x.add (1 * 1)) (some ad)) = A2 at hsl HCM
    have HM2 := Aside0.mk HCM
    have HML := Aside0.mk hml
    have HH := Aside0.mk h
    clear HCM hml h hm hs hi hz HRL HCL
    go_enter Tryd.func58, Tryd.ntmps58
    go_wp2
    go_loopw [2, 36] (fun v2 v36 w' => ∃ i : Nat, v2 = .int .u64 (leV (m.take i)) ∧ v36 = .int .i64 i ∧ i ≤ m.length ∧ Aside0 (w' = w)) (fun _ v36 _ => m.length - (intOf v36).toNat)
    case atStart => exact ⟨0, rfl, rfl, Nat.zero_le _, ⟨rfl⟩⟩
    case round =>
     obtain ⟨i, rfl, rfl, him, HW⟩ := hrel
     obtain rfl := HW.out
     by_cases cs : i < m.length
     ·have csd := decide_eq_true (show (i : Int) < (m.length : Int) by omega)
      obtain ⟨am, rfl, hy⟩ := Kd.at_int HM2.out (i : Int) (by omega) (by omega)
      rw [Int.toNat_natCast] at hy
      have q0 := eq_true (show (0 : Int) ≤ (i : Int) by omega)
      have q1 := eq_true (show (i : Int) < (m.length : Int) by omega)
      have hm8 : wrap64 (8 * (i : Int)) = ((8 * i : Nat) : Int) := by have := HK.out; have := HML.out; unfold wrap64; omega
      have hwr : IntKind.i64.wrap ((i : Int) + 1) = ((i + 1 : Nat) : Int) := by rw [IntKind.wrap_i64]; have := HML.out; have := HK.out; omega
      have hp8 := eq_true (show (0 : Int) ≤ 8 * (i : Int) by omega)
      have hrx := rdB HMB.out (i : Int)
      have hwx : IntKind.u64.wrap (rd m (i : Int)) = rd m (i : Int) := by rw [wrapU64]; omega
      have hmn : min (8 * (i : Int)).toNat 64 = 8 * i := by have := HK.out; have := HML.out; omega
      have hor := leV_step HMB.out cs (by have := HK.out; have := HML.out; omega)
      clear hrx
      go_wp2
      go_roundw
      ·exact ⟨i + 1, rfl, rfl, cs, ⟨trivial⟩⟩
      ·show m.length - (((i + 1 : Nat) : Int)).toNat < m.length - (i : Int).toNat
       omega
     ·obtain rfl : i = m.length := by omega
      have csd : decide ((m.length : Int) < (m.length : Int)) = false := decide_eq_false (Int.lt_irrefl _)
      have htk : m.take m.length = m := List.take_length
      rw [htk]
      have hlr := leV_range m HMB.out
      have hlt : leV m < 18446744073709551616 := by
       have h1 : (256 : Int) ^ m.length ≤ 256 ^ 8 := by
        have := Nat.pow_le_pow_right (show 0 < 256 by decide) (show m.length ≤ 8 by have := HK.out; have := HML.out; omega)
        have e1 : (256 : Int) ^ m.length = ((256 ^ m.length : Nat) : Int) := by simp
        have e2 : (256 : Int) ^ 8 = ((256 ^ 8 : Nat) : Int) := by simp
        rw [e1, e2]
        exact Int.ofNat_le.2 this
       have h2 : (256 : Int) ^ 8 = 18446744073709551616 := by decide
       omega
      have HSZ := Aside0.mk (size_f hlr.1 hlt)
      clear hlr hlt
      have h := HH.out
      by_cases e1 : leV m ≤ 247
      ·have e1b := decide_eq_true e1
       rw [if_pos (.inl e1)] at h
       simp only [Prod.mk.injEq] at h
       obtain ⟨rfl, rfl, rfl⟩ := h
       clear e1
       go_wp2
       go_ret3
       exact ⟨rfl, Drawn0.refl _⟩
      ·have e1b := decide_eq_false e1
       by_cases e2 : (szN (leV m) : Int) < (kk : Int)
       ·have e2b := decide_eq_true e2
        have e2n := eq_true (show szN (leV m) < kk by omega)
        rw [if_pos (.inr e2)] at h
        simp only [Prod.mk.injEq] at h
        obtain ⟨rfl, rfl, rfl⟩ := h
        clear e1 e2
        go_wp2_with (go_at_call 63; (with_reducible refine (num_size.calls (leV m) (szN (leV m) : Int) _ HSZ.out).mono ?_); rintro e w6 ⟨rfl, ⟨nd, rfl⟩⟩)
        go_ret3
        exact ⟨rfl, Drawn0.step (Drawn0.refl _) _⟩
       ·have e2b := decide_eq_false e2
        have e2n := eq_false (show ¬ szN (leV m) < kk by omega)
        rw [if_neg (fun h => h.elim e1 e2)] at h
        simp only [Prod.mk.injEq] at h
        obtain ⟨rfl, rfl, rfl⟩ := h
        clear e1 e2
        go_wp2_with (go_at_call 63; (with_reducible refine (num_size.calls (leV m) (szN (leV m) : Int) _ HSZ.out).mono ?_); rintro e w6 ⟨rfl, ⟨nd, rfl⟩⟩)
        go_ret3
        have ew : wrap64 (1 + (kk : Int)) = b - 246 := by have := HBK.out; have := HK.out; unfold wrap64; omega
        exact ⟨by rw [ew]; rfl, Drawn0.step (Drawn0.refl _) _⟩
end Go.Proofs.YtdcifmonhaklcaaDoor.A
