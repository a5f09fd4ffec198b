/- Walk and plain law of StoreSure, by hand. -/
import Derived.Test.YtopjdjljpkcdlaaTuSuP
import Derived.Test.YtopjdjljpkcdlaaTuSuQ
namespace Go.Proofs.Ytopjdjljpkcdlaa.U
open Go.Proofs.Ytopjdjljpkcdlaa.D
open Go.RowKit Go.Proofs.YtopjdjljpkcdlaaW.PrintWords Go.Proofs.YtopjdjljpkcdlaaW.PrintLast Go.Proofs.YtopjdjljpkcdlaaW.PrintMore
attribute [local go_sem] max2_int min2_int max_two min_two -- for this text's walks alone
set_option linter.unusedVariables false
set_option linter.unusedSimpArgs false
set_option maxHeartbeats 8000000 in
set_option maxRecDepth 100000 in
theorem sure_long (A0 : Option Addr) (c0 : Nat) (l0 : List S46) (A1 : Option Addr) (c1 : Nat) (l1 : List S59) (w : World) (hr0 : Kd.C k46 w A0 l0.length l0) (hc0 : l0.length ≤ c0) (hr1 : Kd.C k59 w A1 l1.length l1) (hc1 : l1.length ≤ c1) (hs : SureOK l0 l1) (hl : 60 < l0.length) :
    Calls Try.prog 5 #[.slice A0 l0.length c0, .slice A1 l1.length c1] w fun e w' => e = .returned (.bool true) ∧ Below w.heap.size w w' := by
  have HR := Aside0.mk hr0
  have HC := Aside0.mk hc0
  have HR1 := Aside0.mk hr1
  have HC1 := Aside0.mk hc1
  have HB := Aside0.mk (Below.refl w.heap.size w)
  have HS := Aside0.mk hs
  clear hr0 hc0 hr1 hc1 hs
  have hu24 := Try.underlying24
  have hu27 := Try.underlying27
  have hu43 := Try.underlying43
  have hu46 := Try.underlying46
  have hu42 := Try.underlying42
  have HAL := Aside0.mk (show dragnetlaw16_alive.f = some true from rfl)
  have hl60 : decide ((60 : Int) < (l0.length : Int)) = true := decide_eq_true (by omega)
  clear hl
  go_enter Try.func5, Try.ntmps5
  go_wp2_with (first
    | (go_at_call 9; (with_reducible refine (dragnetlaw16_alive.calls true _ HAL.out).mono ?_); rintro e w2 ⟨rfl, hb⟩; have HB_ := Aside0.mk (below_step HB.out hb); clear HB hb; have HB := HB_; clear HB_))
  go_ret
  exact ⟨rfl, HB.out⟩
set_option maxHeartbeats 8000000 in
set_option maxRecDepth 100000 in
theorem sure_short (A0 : Option Addr) (c0 : Nat) (l0 : List S46) (A1 : Option Addr) (c1 : Nat) (l1 : List S59) (w : World) (hr0 : Kd.C k46 w A0 l0.length l0) (hc0 : l0.length ≤ c0) (hr1 : Kd.C k59 w A1 l1.length l1) (hc1 : l1.length ≤ c1) (hs : SureOK l0 l1) (hl : l0.length ≤ 60) :
    Calls Try.prog 5 #[.slice A0 l0.length c0, .slice A1 l1.length c1] w fun e w' => e = .returned (.bool true) ∧ Below w.heap.size w w' := by
  have HR := Aside0.mk hr0
  have HC := Aside0.mk hc0
  have HR1 := Aside0.mk hr1
  have HC1 := Aside0.mk hc1
  have HB := Aside0.mk (Below.refl w.heap.size w)
  have HS := Aside0.mk hs
  clear hr0 hc0 hr1 hc1 hs
  have hu24 := Try.underlying24
  have hu27 := Try.underlying27
  have hu43 := Try.underlying43
  have hu46 := Try.underlying46
  have hu42 := Try.underlying42
  have HAL := Aside0.mk (show dragnetlaw16_alive.f = some true from rfl)
  have HNW := Aside0.mk (show store_New.f 4096 = some (4096, [], 0) from rfl)
  have hl60 : decide ((60 : Int) < (l0.length : Int)) = false := decide_eq_false (by omega)
  have HL := Aside0.mk hl
  clear hl
  go_enter Try.func5, Try.ntmps5
  go_upto_region 6 with (first
    | (go_at_call 9; (with_reducible refine (dragnetlaw16_alive.calls true _ HAL.out).mono ?_); rintro e w2 ⟨rfl, hb⟩; have HB_ := Aside0.mk (below_step HB.out hb); clear HB hb; have HB := HB_; clear HB_)
    | ((with_reducible refine gate_dst (N := 5) rfl ?_); refine box_event ?hg (N := 5) ?hd (cs := #[.string ⟨#[]⟩, .string ⟨#[]⟩]) (t := 43) ?hr ?_; (case hd => rfl); (case hg => rfl); (case hr => first | (go_simp; done) | (go_simp; rfl)); intro g5 hg5 w5 hbox hb; have HB_ := Aside0.mk (below_step HB.out hb); have CB5 := Aside0.mk hbox; have G5 := Aside0.mk (show w.heap.size ≤ g5 by rw [hg5]; exact below_size HB.out); clear hb hbox hg5 HB; have HB := HB_; clear HB_; have f50 := blk_frozen CB5.out 0; have f51 := blk_frozen CB5.out 1; have v50 : w5.cell? ⟨g5, 0, none⟩ = some (.string ⟨#[]⟩) := (blk_cell CB5.out 0).trans rfl; have v51 : w5.cell? ⟨g5, 1, none⟩ = some (.string ⟨#[]⟩) := (blk_cell CB5.out 1).trans rfl))
  have HB_ := Aside0.mk (below_set (j := 1) (v := .string ⟨#[98]⟩) (below_set (j := 0) (v := .string ⟨#[97]⟩) HB.out G5.out) G5.out)
  have CB5_ := Aside0.mk (blk_put (cs' := #[.string ⟨#[97]⟩, .string ⟨#[98]⟩]) (blk_put (cs' := #[.string ⟨#[97]⟩, .string ⟨#[]⟩]) CB5.out 0 (.string ⟨#[97]⟩) rfl) 1 (.string ⟨#[98]⟩) rfl)
  clear HB CB5 v50 v51 f50 f51
  generalize (w5.setCell ⟨g5, 0, none⟩ (.string ⟨#[97]⟩)).setCell ⟨g5, 1, none⟩ (.string ⟨#[98]⟩) = W5 at *
  have HB := HB_
  have CB5 := CB5_
  clear HB_ CB5_
  go_upto_region 7 with (first
    | (go_at_call 19; (with_reducible refine (store_New.calls 4096 4096 [] 0 _ HNW.out).mono ?_); rintro e w6 ⟨v6, rfl, hS, hb⟩; obtain ⟨A6, c6, rfl⟩ := Kd.S_slice hS; have HV := Aside0.mk (Kd.S_V (base' := 0) (Kd.S_bound hS)); have HB_ := Aside0.mk (below_step HB.out hb); have CB5_ := Aside0.mk (blk_below CB5.out hb); clear HB CB5 hb hS; have HB := HB_; have CB5 := CB5_; clear HB_ CB5_)
    | ((with_reducible refine gate_dst (N := 6) rfl ?_); refine box_event ?hg (N := 6) ?hd (cs := #[.int .i64 0, .slice none 0 0]) (t := 24) ?hr ?_; (case hd => rfl); (case hg => rfl); (case hr => first | (go_simp; done) | (go_simp; rfl)); intro g6 hg6 w7 hbox hb; have CB6 := Aside0.mk hbox; have G6 := Aside0.mk (show g5 < g6 by rw [hg6]; exact blk_lt CB5.out); have HV_ := Aside0.mk (Kd.V_mono (Kd.V_below HV.out hb) (ok' := fun k => k < g6) (fun k hk => by have := hk.2; omega)); have HB_ := Aside0.mk (below_step HB.out hb); have CB5_ := Aside0.mk (blk_below CB5.out hb); clear HB CB5 HV hb hbox hg6; have HB := HB_; have CB5 := CB5_; have HV := HV_; clear HB_ CB5_ HV_; have f60 := blk_frozen CB6.out 0; have f61 := blk_frozen CB6.out 1; have v60 : w7.cell? ⟨g6, 0, none⟩ = some (.int .i64 0) := (blk_cell CB6.out 0).trans rfl; have v61 : w7.cell? ⟨g6, 1, none⟩ = some (.slice none 0 0) := (blk_cell CB6.out 1).trans rfl))
  have HN56 := Aside0.mk (show g5 ≠ g6 by have := G6.out; omega)
  have GW6 := Aside0.mk (show w.heap.size ≤ g6 by have := G6.out; have := G5.out; omega)
  have HB_ := Aside0.mk (below_set (j := 1) (v := .slice A6 0 c6) (below_set (j := 0) (v := .int .i64 4096) HB.out GW6.out) GW6.out)
  have CB5_ := Aside0.mk (blk_far (p := ⟨g6, 1, none⟩) (blk_far (p := ⟨g6, 0, none⟩) CB5.out HN56.out (.int .i64 4096)) HN56.out (.slice A6 0 c6))
  have CB6_ := Aside0.mk (blk_put (cs' := #[.int .i64 4096, .slice A6 0 c6]) (blk_put (cs' := #[.int .i64 4096, .slice none 0 0]) CB6.out 0 (.int .i64 4096) rfl) 1 (.slice A6 0 c6) rfl)
  have HV_ := Aside0.mk (Kd.V_far (p := ⟨g6, 1, none⟩) (Kd.V_far (p := ⟨g6, 0, none⟩) HV.out (fun k hk => by show k ≠ g6; omega) (.int .i64 4096)) (fun k hk => by show k ≠ g6; omega) (.slice A6 0 c6))
  clear HB CB5 CB6 HV v60 v61 f60 f61
  generalize (w7.setCell ⟨g6, 0, none⟩ (.int .i64 4096)).setCell ⟨g6, 1, none⟩ (.slice A6 0 c6) = W6 at *
  have HB := HB_
  have CB5 := CB5_
  have CB6 := CB6_
  have HV := HV_
  clear HB_ CB5_ CB6_ HV_
  go_wp2_with (first
    | ((with_reducible refine gate_dst (N := 8) rfl ?_); refine box_event ?hg (N := 8) ?hd (cs := #[.string ⟨#[]⟩, .string ⟨#[]⟩]) (t := 43) ?hr ?_; (case hd => rfl); (case hg => rfl); (case hr => first | (go_simp; done) | (go_simp; rfl)); intro g8 hg8 w8 hbox hb; have CB8 := Aside0.mk hbox; have G8 := Aside0.mk (show g6 < g8 by rw [hg8]; exact blk_lt CB6.out); have HV_ := Aside0.mk (Kd.V_below HV.out hb); have HB_ := Aside0.mk (below_step HB.out hb); have CB5_ := Aside0.mk (blk_below CB5.out hb); have CB6_ := Aside0.mk (blk_below CB6.out hb); clear HB CB5 CB6 HV hb hbox hg8; have HB := HB_; have CB5 := CB5_; have CB6 := CB6_; have HV := HV_; clear HB_ CB5_ CB6_ HV_)
    | ((with_reducible refine gate_dst (N := 9) rfl ?_); refine box_event ?hg (N := 9) ?hd (cs := #[.string ⟨#[]⟩, .string ⟨#[]⟩]) (t := 43) ?hr ?_; (case hd => rfl); (case hg => rfl); (case hr => first | (go_simp; done) | (go_simp; rfl)); intro g9 hg9 w9 hbox hb; have HX := Aside0.mk (QX.mk (A := A6) (c := c6) (L := []) (a0 := ⟨#[]⟩) (a1 := ⟨#[]⟩) (s0 := ⟨#[]⟩) (s1 := ⟨#[]⟩) (below_step HB.out hb) (blk_below CB5.out hb) (blk_below CB6.out hb) (blk_below CB8.out hb) hbox (Kd.V_mono (Kd.V_below HV.out hb) (fun k hk => ⟨by omega, by have := G8.out; omega, by have := G8.out; have := blk_lt CB8.out; omega⟩)) G5.out G6.out G8.out (by rw [hg9]; exact blk_lt CB8.out)); clear HB CB5 CB6 CB8 HV hb hbox hg9))
  clear HNW HAL hl60
  go_loopw [10] (fun v10 w' => ∃ (i : Nat) (A : Option Addr) (c : Nat) (L : List S61) (a0 a1 s0 s1 : ByteArray), v10 = .int .i64 i ∧ i ≤ l0.length ∧ Aside0 (SI L a0 a1 s0 s1) ∧ Aside0 (QX w w' g5 g6 g8 g9 A c L a0 a1 s0 s1)) (fun v10 _ => l0.length - (intOf v10).toNat)
  case atStart => exact ⟨0, A6, c6, [], ⟨#[]⟩, ⟨#[]⟩, ⟨#[]⟩, ⟨#[]⟩, rfl, Nat.zero_le _, ⟨si_start⟩, HX⟩
  case round =>
    clear HX
    obtain ⟨i, A, c, L, a0, a1, s0, s1, rfl, hil, HI, HX⟩ := hrel
    by_cases cs : i < l0.length
    · have csd := decide_eq_true (show (i : Int) < (l0.length : Int) by omega)
      obtain ⟨ad, A2, c2, rfl, hx0, hx1, hl2, hC2⟩ := at_T46 HR.out (i : Int) (by omega) (by omega)
      obtain ⟨x, hx⟩ : ∃ x, x = rd_T46 l0 (i : Int) := ⟨_, rfl⟩
      have HXO := Aside0.mk (HS.out.1 (rd_T46 l0 (i : Int)) (rdm46 l0 i cs))
      rw [← hx] at hx0 hx1 hl2 hC2 HXO
      clear hx
      have HL2 := Aside0.mk hl2
      have HC2W := Aside0.mk hC2
      rw [Int.toNat_natCast] at hx0 hx1
      have HX1W := Aside0.mk hx1
      replace hx0 := (HX.out.B.cell (World.block_lt_of_cell? w _ hx0)).trans hx0
      replace hx1 := (HX.out.B.cell (World.block_lt_of_cell? w _ hx1)).trans hx1
      clear hl2 hC2
      have q0 := eq_true (show (0 : Int) ≤ (i : Int) by omega)
      have q1 := eq_true (show (i : Int) < (l0.length : Int) by omega)
      have hwr : IntKind.i64.wrap ((i : Int) + 1) = ((i + 1 : Nat) : Int) := by rw [IntKind.wrap_i64]; have := HL.out; omega
      obtain ⟨v50, v51, v60, v61, f60, f61, v80, v81, f80, f81, v90, v91, f90, f91⟩ := HX.out.vis
      rcases kinds4 HXO.out.2.1 HXO.out.2.2.1 with hk4 | hk4 | hk4 | hk4
      · go_upto_region 12 with (first
          | fail)
        have HX_ := Aside0.mk HX.out.drew
        have hx1_ : wr.drew.cell? ⟨(ad.add (i * 2)).block, (ad.add (i * 2)).off + 1, none⟩ = some (.slice A2 x.f1.length c2) := hx1
        have v5_ : wr.drew.cell? ⟨g5, 0, none⟩ = some (.string ⟨#[97]⟩) := v50
        clear HX hx0 hx1 v50 v51 v60 v61 f60 f61 v80 v81 f80 f81 v90 v91 f90 f91
        have HX := HX_
        have hx1 := hx1_
        have v50 := v5_
        clear HX_ hx1_ v5_
        refine start_ (n := 12) (S := fun w' => w'.cell? ⟨g5, 0, none⟩ = some (.string ⟨#[97]⟩) ∧ w'.cell? ⟨(ad.add (i * 2)).block, (ad.add (i * 2)).off + 1, none⟩ = some (.slice A2 x.f1.length c2)) (ds := [11]) #[false, false, false, false, false, false, false, false, false, false, false, false] (by kernel_rfl) rfl rfl ⟨v50, hx1⟩ (fun hHeld => ?_)
        generalize wr.drew = W1 at *
        refine pure_ (i := 0) (N := some 48) (v := ?_) (a' := ?_) #[true, false, false, false, false, false, false, false, false, false, false, false] rfl rfl (by kernel_rfl) (fun _ _ _ h => h) (Or.inl ⟨by rfl, ?_⟩) ?_ ?_
        rotate_left
        · intro w'
          go_simp
          with_reducible rfl
        rotate_left
        · simp only [Act.put, List.setIfInBounds_toArray, List.set_cons_zero, List.set_cons_succ, i64_w, i32_w]
          rfl
        refine pure_ (i := 1) (N := some 49) (v := ?_) (a' := ?_) #[true, true, false, false, false, false, false, false, false, false, false, false] rfl rfl (by kernel_rfl) (fun _ _ _ h => h) (Or.inl ⟨by rfl, ?_⟩) ?_ ?_
        rotate_left
        · intro w'
          go_simp
          with_reducible rfl
        rotate_left
        · simp only [Act.put, List.setIfInBounds_toArray, List.set_cons_zero, List.set_cons_succ, i64_w, i32_w]
          rfl
        refine pure_ (i := 2) (N := some 50) (v := ?_) (a' := ?_) #[true, true, true, false, false, false, false, false, false, false, false, false] rfl rfl (by kernel_rfl) (fun _ _ _ h => h) (Or.inl ⟨by rfl, ?_⟩) ?_ ?_
        rotate_left
        · intro w'
          go_simp
          with_reducible rfl
        rotate_left
        · simp only [Act.put, List.setIfInBounds_toArray, List.set_cons_zero, List.set_cons_succ, i64_w, i32_w]
          rfl
        refine pure_ (i := 4) (N := some 52) (v := ?_) (a' := ?_) #[true, true, true, false, true, false, false, false, false, false, false, false] rfl rfl (by kernel_rfl) (fun _ _ _ h => h) (Or.inl ⟨by rfl, ?_⟩) ?_ ?_
        rotate_left
        · intro w'
          go_simp
          with_reducible rfl
        rotate_left
        · simp only [Act.put, List.setIfInBounds_toArray, List.set_cons_zero, List.set_cons_succ, i64_w, i32_w]
          rfl
        refine pure_ (i := 5) (N := some 53) (v := ?_) (a' := ?_) #[true, true, true, false, true, true, false, false, false, false, false, false] rfl rfl (by kernel_rfl) (fun _ _ _ h => h) (Or.inl ⟨by rfl, ?_⟩) ?_ ?_
        rotate_left
        · intro w'
          go_simp
          with_reducible rfl
        rotate_left
        · simp only [Act.put, List.setIfInBounds_toArray, List.set_cons_zero, List.set_cons_succ, i64_w, i32_w]
          rfl
        refine pure_ (i := 6) (N := some 54) (v := ?_) (a' := ?_) #[true, true, true, false, true, true, true, false, false, false, false, false] rfl rfl (by kernel_rfl) (fun _ _ _ h => h) (Or.inl ⟨by rfl, ?_⟩) ?_ ?_
        rotate_left
        · intro w'
          go_simp
          with_reducible rfl
        rotate_left
        · simp only [Act.put, List.setIfInBounds_toArray, List.set_cons_zero, List.set_cons_succ, i64_w, i32_w]
          rfl
        refine pure_ (i := 7) (N := some 55) (v := ?_) (a' := ?_) #[true, true, true, false, true, true, true, true, false, false, false, false] rfl rfl (by kernel_rfl) (fun _ _ _ h => h) (Or.inl ⟨by rfl, ?_⟩) ?_ ?_
        rotate_left
        · intro w'
          go_simp
          with_reducible rfl
        rotate_left
        · simp only [Act.put, List.setIfInBounds_toArray, List.set_cons_zero, List.set_cons_succ, i64_w, i32_w]
          rfl
        refine take_ (i := 3) (N := some 51) (v := ?_) (a' := ?_) #[true, true, true, true, true, true, true, true, false, false, false, false] rfl rfl (by kernel_rfl) (fun _ _ _ h => h) (Or.inl ⟨by rfl, ?_⟩) hHeld ?_ ?_
        rotate_left
        · rintro w' ⟨s0, s1⟩
          go_simp
          with_reducible rfl
        rotate_left
        · simp only [Act.put, List.setIfInBounds_toArray, List.set_cons_zero, List.set_cons_succ, i64_w, i32_w]
          rfl
        refine take_ (i := 8) (N := some 56) (v := ?_) (a' := ?_) #[true, true, true, true, true, true, true, true, true, false, false, false] rfl rfl (by kernel_rfl) (fun _ _ _ h => h) (Or.inl ⟨by rfl, ?_⟩) hHeld ?_ ?_
        rotate_left
        · rintro w' ⟨s0, s1⟩
          go_simp
          with_reducible rfl
        rotate_left
        · simp only [Act.put, List.setIfInBounds_toArray, List.set_cons_zero, List.set_cons_succ, i64_w, i32_w]
          rfl
        refine pure_ (i := 9) (N := some 57) (v := ?_) (a' := ?_) #[true, true, true, true, true, true, true, true, true, true, false, false] rfl rfl (by kernel_rfl) (fun _ _ _ h => h) (Or.inl ⟨by rfl, ?_⟩) ?_ ?_
        rotate_left
        · intro w'
          go_simp
          with_reducible rfl
        rotate_left
        · simp only [Act.put, List.setIfInBounds_toArray, List.set_cons_zero, List.set_cons_succ, i64_w, i32_w]
          rfl
        refine one_ (i := 10) (N := some 12) #[true, true, true, true, true, true, true, true, true, true, true, false] rfl rfl (by kernel_rfl) (by decide) (fun K hK => ?_)
        refine value_ (w1 := ?_) (v := ?_) (by rfl) rfl ?_ ?_
        rotate_left 2
        · go_simp
          constructor
          · rfl
          · rfl
        have HB12 := Aside0.mk (below_alloc (Below.refl W1.heap.size W1) (.cells #[.int .i64 0, .string ⟨#[]⟩, .string ⟨#[]⟩, .slice none 0 0] 27 (0, 0)))
        have CB12 := Aside0.mk (blk_new W1 (.cells #[.int .i64 0, .string ⟨#[]⟩, .string ⟨#[]⟩, .slice none 0 0] 27 (0, 0)))
        have G12 := Aside0.mk (blk_lt HX.out.c9)
        have v5_ := pw_cell_below HB12.out v50
        have hx1_ := pw_cell_below HB12.out hx1
        clear hHeld hx1 v50
        generalize W1.alloc (.cells #[.int .i64 0, .string ⟨#[]⟩, .string ⟨#[]⟩, .slice none 0 0] 27 (0, 0)) = W2 at *
        generalize hg12 : W1.heap.size = g12 at *
        have HG12 := Aside0.mk hg12
        clear hg12
        have v50 := v5_
        have hx1 := hx1_
        clear v5_ hx1_
        have v120 : W2.cell? ⟨g12, 0, none⟩ = some (.int .i64 0) := (blk_cell CB12.out 0).trans rfl
        have v121 : W2.cell? ⟨g12, 1, none⟩ = some (.string ⟨#[]⟩) := (blk_cell CB12.out 1).trans rfl
        have v122 : W2.cell? ⟨g12, 2, none⟩ = some (.string ⟨#[]⟩) := (blk_cell CB12.out 2).trans rfl
        have v123 : W2.cell? ⟨g12, 3, none⟩ = some (.slice none 0 0) := (blk_cell CB12.out 3).trans rfl
        have f120 := blk_frozen CB12.out 0
        have f121 := blk_frozen CB12.out 1
        have f122 := blk_frozen CB12.out 2
        have f123 := blk_frozen CB12.out 3
        refine hK.out _ _ ⟨v50, hx1⟩ (fun hHeld => ?_)
        clear hK K
        refine norm_ (a' := ?_) ?_ ?_
        rotate_left
        · show Act.put _ (some 12) _ = _
          simp only [Act.put, List.setIfInBounds_toArray, List.set_cons_zero, List.set_cons_succ, i64_w, i32_w]
          rfl
        refine last_ (i := 11) (N := none) #[true, true, true, true, true, true, true, true, true, true, true, true] rfl rfl (by kernel_rfl) (by decide) (fun K hK => ?_)
        refine skip_ (w1 := ?_) (by rfl) rfl ?_ ?_
        rotate_left
        · go_simp
          rfl
        refine hK.out _ _ ?_
        clear hK K
        refine done_ (by kernel_rfl) ?_

        have HBV : Aside0 (Below W1.heap.size W1 W2) := ⟨by rw [HG12.out]; exact HB12.out⟩
        have HBW : Aside0 (Below W1.heap.size W1 (((((W2).setCell ⟨g12, 0, none⟩ (.int .i64 1)).setCell ⟨g12, 1, none⟩ (.string ⟨#[97]⟩)).setCell ⟨g12, 2, none⟩ (.string ⟨#[]⟩)).setCell ⟨g12, 3, none⟩ (.slice A2 x.f1.length c2))) := ⟨below_set (below_set (below_set (below_set HBV.out (Nat.le_of_eq HG12.out)) (Nat.le_of_eq HG12.out)) (Nat.le_of_eq HG12.out)) (Nat.le_of_eq HG12.out)⟩
        have HX_ := Aside0.mk (HX.out.step HBW.out)
        have CB12_ := Aside0.mk (blk_put (cs' := #[.int .i64 1, .string ⟨#[97]⟩, .string ⟨#[]⟩, .slice A2 x.f1.length c2]) (blk_put (cs' := #[.int .i64 1, .string ⟨#[97]⟩, .string ⟨#[]⟩, .slice none 0 0]) (blk_put (cs' := #[.int .i64 1, .string ⟨#[97]⟩, .string ⟨#[]⟩, .slice none 0 0]) (blk_put (cs' := #[.int .i64 1, .string ⟨#[]⟩, .string ⟨#[]⟩, .slice none 0 0]) CB12.out 0 (.int .i64 1) rfl) 1 (.string ⟨#[97]⟩) rfl) 2 (.string ⟨#[]⟩) rfl) 3 (.slice A2 x.f1.length c2) rfl)
        have HV12_ := Aside0.mk (Kd.V_mono (Kd.V_bound HX.out.hV) (ok' := fun k => (k ≠ g6 ∧ k ≠ g8 ∧ k ≠ g9) ∧ k ≠ g12) (fun k hk => ⟨hk.1, by have := HG12.out; have := hk.2; omega⟩))
        have HV12 := Aside0.mk (Kd.V_below HV12_.out HBW.out)
        clear HV12_
        clear HX CB12 HB12 HBV HBW HG12 hHeld hx1 v50 v120 v121 v122 v123 f120 f121 f122 f123
        generalize ((((W2).setCell ⟨g12, 0, none⟩ (.int .i64 1)).setCell ⟨g12, 1, none⟩ (.string ⟨#[97]⟩)).setCell ⟨g12, 2, none⟩ (.string ⟨#[]⟩)).setCell ⟨g12, 3, none⟩ (.slice A2 x.f1.length c2) = W3 at *
        have HX := HX_
        have CB12 := CB12_
        clear HX_ CB12_
        obtain ⟨v50, v51, v60, v61, f60, f61, v80, v81, f80, f81, v90, v91, f90, f91⟩ := HX.out.vis
        have v120 : W3.cell? ⟨g12, 0, none⟩ = some (.int .i64 1) := (blk_cell CB12.out 0).trans rfl
        have v121 : W3.cell? ⟨g12, 1, none⟩ = some (.string ⟨#[97]⟩) := (blk_cell CB12.out 1).trans rfl
        have v122 : W3.cell? ⟨g12, 2, none⟩ = some (.string ⟨#[]⟩) := (blk_cell CB12.out 2).trans rfl
        have v123 : W3.cell? ⟨g12, 3, none⟩ = some (.slice A2 x.f1.length c2) := (blk_cell CB12.out 3).trans rfl
        have f120 := blk_frozen CB12.out 0
        have f121 := blk_frozen CB12.out 1
        have f122 := blk_frozen CB12.out 2
        have f123 := blk_frozen CB12.out 3
        rcases si_app HI.out false x.f1 with ⟨hsp, hd⟩ | ⟨L2, hd, hi2⟩
        · have HDO := Aside0.mk (show store_Do.f 4096 L 1 ⟨#[97]⟩ ⟨#[]⟩ x.f1 = some (0, [], 11) by unfold store_Do.f; rw [if_pos ⟨(reach_of HI.out.1).small, HXO.out.1⟩]; exact congrArg some hd)
          clear hd
          go_upto_region 16 with (first
            | (go_at_call 12; (with_reducible refine (store_Do.calls 4096 A c L 1 ⟨#[97]⟩ ⟨#[]⟩ A2 c2 x.f1 0 [] 11 _ HX.out.reads HX.out.room (Kd.C_below HC2W.out HX.out.B) HL2.out HDO.out).mono ?_); rintro e w4 ⟨v4, rfl, hV, hb⟩; obtain ⟨Ax, cx, rfl⟩ := Kd.V_slice hV; have G4 := Aside0.mk (blk_lt HX.out.c9); have HVX := Aside0.mk (Kd.V_lower (Kd.V_mono hV (ok' := fun k => g9 < k) (fun k hk => by have := G4.out; omega)) (Nat.zero_le _)); have HX_ := Aside0.mk (HX.out.step hb); clear HX hV hb G4 CB12 v50 v51 v60 v61 f60 f61 v80 v81 f80 f81 v90 v91 f90 f91 v120 v121 v122 v123 f120 f121 f122 f123; have HX := HX_; clear HX_)
            | ((with_reducible refine gate_dst (N := 13) rfl ?_); refine box_event ?hg (N := 13) ?hd (cs := #[.int .i64 0, .slice none 0 0]) (t := 24) ?hr ?_; (case hd => rfl); (case hg => rfl); (case hr => first | (go_simp; done) | (go_simp; rfl)); intro g13 hg13 w5 hbox hb; have CB13 := Aside0.mk hbox; have HG13 := Aside0.mk hg13; have HA13 := Aside0.mk hb; clear hbox hg13 hb; have v130 : w5.cell? ⟨g13, 0, none⟩ = some (.int .i64 0) := (blk_cell CB13.out 0).trans rfl; have v131 : w5.cell? ⟨g13, 1, none⟩ = some (.slice none 0 0) := (blk_cell CB13.out 1).trans rfl; have f130 := blk_frozen CB13.out 0; have f131 := blk_frozen CB13.out 1))
          have HBx := Aside0.mk (below_set (g := g13) (j := 1) (v := .slice Ax 0 cx) (below_set (g := g13) (j := 0) (v := .int .i64 0) HA13.out (Nat.le_of_eq HG13.out.symm)) (Nat.le_of_eq HG13.out.symm))
          have HX_ := Aside0.mk (HX.out.step HBx.out)
          have HVX_ := Aside0.mk (Kd.V_below HVX.out HBx.out)
          have CB13_ := Aside0.mk (blk_put (cs' := #[.int .i64 0, .slice Ax 0 cx]) (blk_put (cs' := #[.int .i64 0, .slice none 0 0]) CB13.out 0 (.int .i64 0) rfl) 1 (.slice Ax 0 cx) rfl)
          clear HX HVX CB13 HG13 HA13 HBx v130 v131 f130 f131
          generalize (w5.setCell ⟨g13, 0, none⟩ (.int .i64 0)).setCell ⟨g13, 1, none⟩ (.slice Ax 0 cx) = W5 at *
          have HX := HX_
          have HVX := HVX_
          have CB13 := CB13_
          clear HX_ HVX_ CB13_
          obtain ⟨v50, v51, v60, v61, f60, f61, v80, v81, f80, f81, v90, v91, f90, f91⟩ := HX.out.vis
          have v130 : W5.cell? ⟨g13, 0, none⟩ = some (.int .i64 0) := (blk_cell CB13.out 0).trans rfl
          have v131 : W5.cell? ⟨g13, 1, none⟩ = some (.slice Ax 0 cx) := (blk_cell CB13.out 1).trans rfl
          have HU := Aside0.mk (used_some (reach_of HI.out.1) HI.out.1)
          have hsub : wrap64 (4096 - totS L) = 4096 - totS L := wr64 (by have := tot_nonneg L; have := HI.out.1.2.2.2.2; omega)
          have hle : decide ((x.f1.length : Int) ≤ 4096 - totS L) = false := decide_eq_false (by omega)
          clear hsp HVX CB13 v130 v131
          have hx1 := (HX.out.B.cell (World.block_lt_of_cell? w _ HX1W.out)).trans HX1W.out
          go_upto_region 21 with (first
            | fail)
          have HX_ := Aside0.mk HX.out.drew
          have hx1_ : W5.drew.cell? ⟨(ad.add (i * 2)).block, (ad.add (i * 2)).off + 1, none⟩ = some (.slice A2 x.f1.length c2) := hx1
          have v60_ : W5.drew.cell? ⟨g6, 0, none⟩ = some (.int .i64 4096) := v60
          have v61_ : W5.drew.cell? ⟨g6, 1, none⟩ = some (.slice A L.length c) := v61
          clear HX hx1 v50 v51 v60 v61 f60 f61 v80 v81 f80 f81 v90 v91 f90 f91
          have HX := HX_
          have hx1 := hx1_
          have v60 := v60_
          have v61 := v61_
          clear HX_ hx1_ v60_ v61_
          refine start_ (n := 10) (S := fun w' => w'.cell? ⟨(ad.add (i * 2)).block, (ad.add (i * 2)).off + 1, none⟩ = some (.slice A2 x.f1.length c2) ∧ w'.cell? ⟨g6, 0, none⟩ = some (.int .i64 4096) ∧ w'.cell? ⟨g6, 1, none⟩ = some (.slice A L.length c)) (ds := []) #[false, false, false, false, false, false, false, false, false, false] (by kernel_rfl) rfl rfl ⟨hx1, v60, v61⟩ (fun hHeld => ?_)
          generalize W5.drew = W7 at *
          refine pure_ (i := 0) (N := some 77) (v := ?_) (a' := ?_) #[true, false, false, false, false, false, false, false, false, false] rfl rfl (by kernel_rfl) (fun _ _ _ h => h) (Or.inl ⟨by rfl, ?_⟩) ?_ ?_
          rotate_left
          · intro w'
            go_simp
            with_reducible rfl
          rotate_left
          · simp only [Act.put, List.setIfInBounds_toArray, List.set_cons_zero, List.set_cons_succ, i64_w, i32_w]
            rfl
          refine pure_ (i := 1) (N := some 78) (v := ?_) (a' := ?_) #[true, true, false, false, false, false, false, false, false, false] rfl rfl (by kernel_rfl) (fun _ _ _ h => h) (Or.inl ⟨by rfl, ?_⟩) ?_ ?_
          rotate_left
          · intro w'
            go_simp
            with_reducible rfl
          rotate_left
          · simp only [Act.put, List.setIfInBounds_toArray, List.set_cons_zero, List.set_cons_succ, i64_w, i32_w]
            rfl
          refine pure_ (i := 2) (N := some 79) (v := ?_) (a' := ?_) #[true, true, true, false, false, false, false, false, false, false] rfl rfl (by kernel_rfl) (fun _ _ _ h => h) (Or.inl ⟨by rfl, ?_⟩) ?_ ?_
          rotate_left
          · intro w'
            go_simp
            with_reducible rfl
          rotate_left
          · simp only [Act.put, List.setIfInBounds_toArray, List.set_cons_zero, List.set_cons_succ, i64_w, i32_w]
            rfl
          refine pure_ (i := 3) (N := some 80) (v := ?_) (a' := ?_) #[true, true, true, true, false, false, false, false, false, false] rfl rfl (by kernel_rfl) (fun _ _ _ h => h) (Or.inl ⟨by rfl, ?_⟩) ?_ ?_
          rotate_left
          · intro w'
            go_simp
            with_reducible rfl
          rotate_left
          · simp only [Act.put, List.setIfInBounds_toArray, List.set_cons_zero, List.set_cons_succ, i64_w, i32_w]
            rfl
          refine take_ (i := 4) (N := some 81) (v := ?_) (a' := ?_) #[true, true, true, true, true, false, false, false, false, false] rfl rfl (by kernel_rfl) (fun _ _ _ h => h) (Or.inl ⟨by rfl, ?_⟩) hHeld ?_ ?_
          rotate_left
          · rintro w' ⟨s0, s1, s2⟩
            go_simp
            with_reducible rfl
          rotate_left
          · simp only [Act.put, List.setIfInBounds_toArray, List.set_cons_zero, List.set_cons_succ, i64_w, i32_w]
            rfl
          refine pure_ (i := 5) (N := some 82) (v := ?_) (a' := ?_) #[true, true, true, true, true, true, false, false, false, false] rfl rfl (by kernel_rfl) (fun _ _ _ h => h) (Or.inl ⟨by rfl, ?_⟩) ?_ ?_
          rotate_left
          · intro w'
            go_simp
            with_reducible rfl
          rotate_left
          · simp only [Act.put, List.setIfInBounds_toArray, List.set_cons_zero, List.set_cons_succ, i64_w, i32_w]
            rfl
          refine take_ (i := 6) (N := some 83) (v := ?_) (a' := ?_) #[true, true, true, true, true, true, true, false, false, false] rfl rfl (by kernel_rfl) (fun _ _ _ h => h) (Or.inl ⟨by rfl, ?_⟩) hHeld ?_ ?_
          rotate_left
          · rintro w' ⟨s0, s1, s2⟩
            go_simp
            with_reducible rfl
          rotate_left
          · simp only [Act.put, List.setIfInBounds_toArray, List.set_cons_zero, List.set_cons_succ, i64_w, i32_w]
            rfl
          refine one_ (i := 7) (N := some 84) #[true, true, true, true, true, true, true, true, false, false] rfl rfl (by kernel_rfl) (by decide) (fun K hK => ?_)
          refine goes_ Try.func20 (by kernel_rfl) rfl #[.agg #[.int .i64 4096, .slice A L.length c]] (by rfl) rfl rfl (by simp only [List.map_toArray, List.map_cons, List.map_nil]; rfl) ?_
          with_reducible refine (store_Used.calls _ 4096 A c L (totS L) _ HX.out.reads HX.out.room HU.out).mono ?_
          rintro e w8 ⟨rfl, hb⟩
          refine ⟨_, rfl, ?_⟩
          have HB8 := Aside0.mk hb
          clear hb
          refine hK.out _ _ ⟨(pw_cell_below HB8.out hx1), (pw_cell_below HB8.out v60), (pw_cell_below HB8.out v61)⟩ (fun hHeld => ?_)
          clear hK K
          refine norm_ (a' := ?_) ?_ ?_
          rotate_left
          · show Act.put _ (some 84) _ = _
            simp only [Act.put, List.setIfInBounds_toArray, List.set_cons_zero, List.set_cons_succ, i64_w, i32_w]
            rfl
          refine pure_ (i := 8) (N := some 85) (v := ?_) (a' := ?_) #[true, true, true, true, true, true, true, true, true, false] rfl rfl (by kernel_rfl) (fun _ _ _ h => h) (Or.inl ⟨by rfl, ?_⟩) ?_ ?_
          rotate_left
          · intro w'
            go_simp
            with_reducible rfl
          rotate_left
          · simp only [Act.put, List.setIfInBounds_toArray, List.set_cons_zero, List.set_cons_succ, i64_w, i32_w]
            rfl
          refine pure_ (i := 9) (N := some 86) (v := ?_) (a' := ?_) #[true, true, true, true, true, true, true, true, true, true] rfl rfl (by kernel_rfl) (fun _ _ _ h => h) (Or.inl ⟨by rfl, ?_⟩) ?_ ?_
          rotate_left
          · intro w'
            go_simp
            with_reducible rfl
          rotate_left
          · simp only [Act.put, List.setIfInBounds_toArray, List.set_cons_zero, List.set_cons_succ, i64_w, i32_w]
            rfl
          refine done_ (by kernel_rfl) ?_

          have HX_ := Aside0.mk (HX.out.step HB8.out)
          clear HX HB8 hx1 v60 v61
          have HX := HX_
          clear HX_
          go_wp2
          go_roundw
          · exact ⟨i + 1, A, c, L, a0, a1, s0, s1, rfl, cs, HI, HX⟩
          · show l0.length - (((i + 1 : Nat) : Int)).toNat < l0.length - (i : Int).toNat
            omega
        · have HDO := Aside0.mk (show store_Do.f 4096 L 1 ⟨#[97]⟩ ⟨#[]⟩ x.f1 = some (4096, L2, 0) by unfold store_Do.f; rw [if_pos ⟨(reach_of HI.out.1).small, HXO.out.1⟩]; exact congrArg some hd)
          clear hd
          have hcat : (9223372036854775807 < a0.size + (strOfNums x.f1).size) = False := eq_false (by have := (si_size HI.out).1; have := HXO.out.1; rw [str_size]; omega)
          have HI2 := Aside0.mk hi2
          clear hi2
          go_upto_region 16 with (first
            | (go_at_call 12; (with_reducible refine (store_Do.calls 4096 A c L 1 ⟨#[97]⟩ ⟨#[]⟩ A2 c2 x.f1 4096 L2 0 _ HX.out.reads HX.out.room (Kd.C_below HC2W.out HX.out.B) HL2.out HDO.out).mono ?_); rintro e w4 ⟨v4, rfl, hV, hb⟩; obtain ⟨Ax, cx, rfl⟩ := Kd.V_slice hV; have G4 := Aside0.mk (blk_lt HX.out.c9); have HVX := Aside0.mk (Kd.V_lower (Kd.V_mono hV (ok' := fun k => g9 < k) (fun k hk => by have := G4.out; omega)) (Nat.zero_le _)); have HX_ := Aside0.mk (HX.out.step hb); clear HX hV hb G4 CB12 v50 v51 v60 v61 f60 f61 v80 v81 f80 f81 v90 v91 f90 f91 v120 v121 v122 v123 f120 f121 f122 f123; have HX := HX_; clear HX_)
            | ((with_reducible refine gate_dst (N := 13) rfl ?_); refine box_event ?hg (N := 13) ?hd (cs := #[.int .i64 0, .slice none 0 0]) (t := 24) ?hr ?_; (case hd => rfl); (case hg => rfl); (case hr => first | (go_simp; done) | (go_simp; rfl)); intro g13 hg13 w5 hbox hb; have CB13 := Aside0.mk hbox; have HG13 := Aside0.mk hg13; have HA13 := Aside0.mk hb; clear hbox hg13 hb; have v130 : w5.cell? ⟨g13, 0, none⟩ = some (.int .i64 0) := (blk_cell CB13.out 0).trans rfl; have v131 : w5.cell? ⟨g13, 1, none⟩ = some (.slice none 0 0) := (blk_cell CB13.out 1).trans rfl; have f130 := blk_frozen CB13.out 0; have f131 := blk_frozen CB13.out 1))
          have HBx := Aside0.mk (below_set (g := g13) (j := 1) (v := .slice Ax L2.length cx) (below_set (g := g13) (j := 0) (v := .int .i64 4096) HA13.out (Nat.le_of_eq HG13.out.symm)) (Nat.le_of_eq HG13.out.symm))
          have HX_ := Aside0.mk (HX.out.step HBx.out)
          have HVX_ := Aside0.mk (Kd.V_below HVX.out HBx.out)
          have CB13_ := Aside0.mk (blk_put (cs' := #[.int .i64 4096, .slice Ax L2.length cx]) (blk_put (cs' := #[.int .i64 4096, .slice none 0 0]) CB13.out 0 (.int .i64 4096) rfl) 1 (.slice Ax L2.length cx) rfl)
          clear HX HVX CB13 HG13 HA13 HBx v130 v131 f130 f131
          generalize (w5.setCell ⟨g13, 0, none⟩ (.int .i64 4096)).setCell ⟨g13, 1, none⟩ (.slice Ax L2.length cx) = W5 at *
          have HX := HX_
          have HVX := HVX_
          have CB13 := CB13_
          clear HX_ HVX_ CB13_
          obtain ⟨v50, v51, v60, v61, f60, f61, v80, v81, f80, f81, v90, v91, f90, f91⟩ := HX.out.vis
          have v130 : W5.cell? ⟨g13, 0, none⟩ = some (.int .i64 4096) := (blk_cell CB13.out 0).trans rfl
          have v131 : W5.cell? ⟨g13, 1, none⟩ = some (.slice Ax L2.length cx) := (blk_cell CB13.out 1).trans rfl
          go_upto_region 27 with (first
            | fail)
          have HX_ := Aside0.mk (HX.out.new HVX.out)
          clear HX HVX CB13 v130 v131 v50 v51 v60 v61 f60 f61 v80 v81 f80 f81 v90 v91 f90 f91
          generalize (W5.setCell ⟨g6, 0, none⟩ (.int .i64 4096)).setCell ⟨g6, 1, none⟩ (.slice Ax L2.length cx) = W6 at *
          have HX := HX_
          clear HX_
          obtain ⟨v50, v51, v60, v61, f60, f61, v80, v81, f80, f81, v90, v91, f90, f91⟩ := HX.out.vis
          have hx1 := (HX.out.B.cell (World.block_lt_of_cell? w _ HX1W.out)).trans HX1W.out
          have HX_ := Aside0.mk HX.out.drew
          have hx1_ : W6.drew.cell? ⟨(ad.add (i * 2)).block, (ad.add (i * 2)).off + 1, none⟩ = some (.slice A2 x.f1.length c2) := hx1
          have v8_ : W6.drew.cell? ⟨g8, 0, none⟩ = some (.string a0) := v80
          have f8_ : W6.drew.frozen? ⟨g8, 0, none⟩ = false := f80
          clear HX hx1 v50 v51 v60 v61 f60 f61 v80 v81 f80 f81 v90 v91 f90 f91
          have HX := HX_
          have hx1 := hx1_
          have v80 := v8_
          have f80 := f8_
          clear HX_ hx1_ v8_ f8_
          refine start_ (n := 13) (S := fun w' => w'.cell? ⟨g8, 0, none⟩ = some (.string a0) ∧ w'.cell? ⟨(ad.add (i * 2)).block, (ad.add (i * 2)).off + 1, none⟩ = some (.slice A2 x.f1.length c2)) (ds := [12]) #[false, false, false, false, false, false, false, false, false, false, false, false, false] (by kernel_rfl) rfl rfl ⟨v80, hx1⟩ (fun hHeld => ?_)
          generalize W6.drew = W7 at *
          have hcv := Kd.C_string (P := Try.prog) (src := 25) (dst := 9) (e := 5) (c := c2) Try.underlying25 Try.underlying5 Try.underlying9 (Kd.C_below HC2W.out HX.out.B)
          refine pure_ (i := 0) (N := some 100) (v := ?_) (a' := ?_) #[true, false, false, false, false, false, false, false, false, false, false, false, false] rfl rfl (by kernel_rfl) (fun _ _ _ h => h) (Or.inl ⟨by rfl, ?_⟩) ?_ ?_
          rotate_left
          · intro w'
            go_simp
            with_reducible rfl
          rotate_left
          · simp only [Act.put, List.setIfInBounds_toArray, List.set_cons_zero, List.set_cons_succ, i64_w, i32_w]
            rfl
          refine pure_ (i := 1) (N := some 101) (v := ?_) (a' := ?_) #[true, true, false, false, false, false, false, false, false, false, false, false, false] rfl rfl (by kernel_rfl) (fun _ _ _ h => h) (Or.inl ⟨by rfl, ?_⟩) ?_ ?_
          rotate_left
          · intro w'
            go_simp
            with_reducible rfl
          rotate_left
          · simp only [Act.put, List.setIfInBounds_toArray, List.set_cons_zero, List.set_cons_succ, i64_w, i32_w]
            rfl
          refine pure_ (i := 2) (N := some 102) (v := ?_) (a' := ?_) #[true, true, true, false, false, false, false, false, false, false, false, false, false] rfl rfl (by kernel_rfl) (fun _ _ _ h => h) (Or.inl ⟨by rfl, ?_⟩) ?_ ?_
          rotate_left
          · intro w'
            go_simp
            with_reducible rfl
          rotate_left
          · simp only [Act.put, List.setIfInBounds_toArray, List.set_cons_zero, List.set_cons_succ, i64_w, i32_w]
            rfl
          refine pure_ (i := 4) (N := some 104) (v := ?_) (a' := ?_) #[true, true, true, false, true, false, false, false, false, false, false, false, false] rfl rfl (by kernel_rfl) (fun _ _ _ h => h) (Or.inl ⟨by rfl, ?_⟩) ?_ ?_
          rotate_left
          · intro w'
            go_simp
            with_reducible rfl
          rotate_left
          · simp only [Act.put, List.setIfInBounds_toArray, List.set_cons_zero, List.set_cons_succ, i64_w, i32_w]
            rfl
          refine pure_ (i := 5) (N := some 105) (v := ?_) (a' := ?_) #[true, true, true, false, true, true, false, false, false, false, false, false, false] rfl rfl (by kernel_rfl) (fun _ _ _ h => h) (Or.inl ⟨by rfl, ?_⟩) ?_ ?_
          rotate_left
          · intro w'
            go_simp
            with_reducible rfl
          rotate_left
          · simp only [Act.put, List.setIfInBounds_toArray, List.set_cons_zero, List.set_cons_succ, i64_w, i32_w]
            rfl
          refine pure_ (i := 6) (N := some 106) (v := ?_) (a' := ?_) #[true, true, true, false, true, true, true, false, false, false, false, false, false] rfl rfl (by kernel_rfl) (fun _ _ _ h => h) (Or.inl ⟨by rfl, ?_⟩) ?_ ?_
          rotate_left
          · intro w'
            go_simp
            with_reducible rfl
          rotate_left
          · simp only [Act.put, List.setIfInBounds_toArray, List.set_cons_zero, List.set_cons_succ, i64_w, i32_w]
            rfl
          refine pure_ (i := 7) (N := some 107) (v := ?_) (a' := ?_) #[true, true, true, false, true, true, true, true, false, false, false, false, false] rfl rfl (by kernel_rfl) (fun _ _ _ h => h) (Or.inl ⟨by rfl, ?_⟩) ?_ ?_
          rotate_left
          · intro w'
            go_simp
            with_reducible rfl
          rotate_left
          · simp only [Act.put, List.setIfInBounds_toArray, List.set_cons_zero, List.set_cons_succ, i64_w, i32_w]
            rfl
          refine take_ (i := 3) (N := some 103) (v := ?_) (a' := ?_) #[true, true, true, true, true, true, true, true, false, false, false, false, false] rfl rfl (by kernel_rfl) (fun _ _ _ h => h) (Or.inl ⟨by rfl, ?_⟩) hHeld ?_ ?_
          rotate_left
          · rintro w' ⟨s0, s1⟩
            go_simp
            with_reducible rfl
          rotate_left
          · simp only [Act.put, List.setIfInBounds_toArray, List.set_cons_zero, List.set_cons_succ, i64_w, i32_w]
            rfl
          refine take_ (i := 8) (N := some 108) (v := ?_) (a' := ?_) #[true, true, true, true, true, true, true, true, true, false, false, false, false] rfl rfl (by kernel_rfl) (fun _ _ _ h => h) (Or.inl ⟨by rfl, ?_⟩) hHeld ?_ ?_
          rotate_left
          · rintro w' ⟨s0, s1⟩
            go_simp
            with_reducible rfl
          rotate_left
          · simp only [Act.put, List.setIfInBounds_toArray, List.set_cons_zero, List.set_cons_succ, i64_w, i32_w]
            rfl
          refine one_ (i := 9) (N := some 109) #[true, true, true, true, true, true, true, true, true, true, false, false, false] rfl rfl (by kernel_rfl) (by decide) (fun K hK => ?_)
          refine value_ (w1 := ?_) (v := ?_) (by rfl) rfl ?_ ?_
          rotate_left 2
          · go_simp
            constructor
            · rfl
            · rfl
          refine hK.out _ _ ⟨hHeld.1, hHeld.2⟩ (fun hHeld => ?_)
          clear hK K
          refine norm_ (a' := ?_) ?_ ?_
          rotate_left
          · show Act.put _ (some 109) _ = _
            simp only [Act.put, List.setIfInBounds_toArray, List.set_cons_zero, List.set_cons_succ, i64_w, i32_w]
            rfl
          refine pure_ (i := 10) (N := some 110) (v := ?_) (a' := ?_) #[true, true, true, true, true, true, true, true, true, true, true, false, false] rfl rfl (by kernel_rfl) (fun _ _ _ h => h) (Or.inl ⟨by rfl, ?_⟩) ?_ ?_
          rotate_left
          · intro w'
            go_simp
            with_reducible rfl
          rotate_left
          · simp only [Act.put, List.setIfInBounds_toArray, List.set_cons_zero, List.set_cons_succ, i64_w, i32_w]
            rfl
          refine pure_ (i := 11) (N := some 111) (v := ?_) (a' := ?_) #[true, true, true, true, true, true, true, true, true, true, true, true, false] rfl rfl (by kernel_rfl) (fun _ _ _ h => h) (Or.inl ⟨by rfl, ?_⟩) ?_ ?_
          rotate_left
          · intro w'
            go_simp
            with_reducible rfl
          rotate_left
          · simp only [Act.put, List.setIfInBounds_toArray, List.set_cons_zero, List.set_cons_succ, i64_w, i32_w]
            rfl
          refine last_ (i := 12) (N := none) #[true, true, true, true, true, true, true, true, true, true, true, true, true] rfl rfl (by kernel_rfl) (by decide) (fun K hK => ?_)
          refine skip_ (w1 := ?_) (by rfl) rfl ?_ ?_
          rotate_left
          · go_simp
            rfl
          refine hK.out _ _ ?_
          clear hK K
          refine done_ (by kernel_rfl) ?_

          have HX_ := Aside0.mk (HX.out.put8 0 (a0 ++ strOfNums x.f1) (a0 ++ strOfNums x.f1) a1 rfl)
          go_wp2
          go_roundw
          · exact ⟨i + 1, Ax, cx, L2, (a0 ++ strOfNums x.f1), a1, s0, s1, rfl, cs, HI2, HX_⟩
          · show l0.length - (((i + 1 : Nat) : Int)).toNat < l0.length - (i : Int).toNat
            omega
      · go_upto_region 12 with (first
          | fail)
        have HX_ := Aside0.mk HX.out.drew
        have hx1_ : wr.drew.cell? ⟨(ad.add (i * 2)).block, (ad.add (i * 2)).off + 1, none⟩ = some (.slice A2 x.f1.length c2) := hx1
        have v5_ : wr.drew.cell? ⟨g5, 1, none⟩ = some (.string ⟨#[98]⟩) := v51
        clear HX hx0 hx1 v50 v51 v60 v61 f60 f61 v80 v81 f80 f81 v90 v91 f90 f91
        have HX := HX_
        have hx1 := hx1_
        have v51 := v5_
        clear HX_ hx1_ v5_
        refine start_ (n := 12) (S := fun w' => w'.cell? ⟨g5, 1, none⟩ = some (.string ⟨#[98]⟩) ∧ w'.cell? ⟨(ad.add (i * 2)).block, (ad.add (i * 2)).off + 1, none⟩ = some (.slice A2 x.f1.length c2)) (ds := [11]) #[false, false, false, false, false, false, false, false, false, false, false, false] (by kernel_rfl) rfl rfl ⟨v51, hx1⟩ (fun hHeld => ?_)
        generalize wr.drew = W1 at *
        refine pure_ (i := 0) (N := some 48) (v := ?_) (a' := ?_) #[true, false, false, false, false, false, false, false, false, false, false, false] rfl rfl (by kernel_rfl) (fun _ _ _ h => h) (Or.inl ⟨by rfl, ?_⟩) ?_ ?_
        rotate_left
        · intro w'
          go_simp
          with_reducible rfl
        rotate_left
        · simp only [Act.put, List.setIfInBounds_toArray, List.set_cons_zero, List.set_cons_succ, i64_w, i32_w]
          rfl
        refine pure_ (i := 1) (N := some 49) (v := ?_) (a' := ?_) #[true, true, false, false, false, false, false, false, false, false, false, false] rfl rfl (by kernel_rfl) (fun _ _ _ h => h) (Or.inl ⟨by rfl, ?_⟩) ?_ ?_
        rotate_left
        · intro w'
          go_simp
          with_reducible rfl
        rotate_left
        · simp only [Act.put, List.setIfInBounds_toArray, List.set_cons_zero, List.set_cons_succ, i64_w, i32_w]
          rfl
        refine pure_ (i := 2) (N := some 50) (v := ?_) (a' := ?_) #[true, true, true, false, false, false, false, false, false, false, false, false] rfl rfl (by kernel_rfl) (fun _ _ _ h => h) (Or.inl ⟨by rfl, ?_⟩) ?_ ?_
        rotate_left
        · intro w'
          go_simp
          with_reducible rfl
        rotate_left
        · simp only [Act.put, List.setIfInBounds_toArray, List.set_cons_zero, List.set_cons_succ, i64_w, i32_w]
          rfl
        refine pure_ (i := 4) (N := some 52) (v := ?_) (a' := ?_) #[true, true, true, false, true, false, false, false, false, false, false, false] rfl rfl (by kernel_rfl) (fun _ _ _ h => h) (Or.inl ⟨by rfl, ?_⟩) ?_ ?_
        rotate_left
        · intro w'
          go_simp
          with_reducible rfl
        rotate_left
        · simp only [Act.put, List.setIfInBounds_toArray, List.set_cons_zero, List.set_cons_succ, i64_w, i32_w]
          rfl
        refine pure_ (i := 5) (N := some 53) (v := ?_) (a' := ?_) #[true, true, true, false, true, true, false, false, false, false, false, false] rfl rfl (by kernel_rfl) (fun _ _ _ h => h) (Or.inl ⟨by rfl, ?_⟩) ?_ ?_
        rotate_left
        · intro w'
          go_simp
          with_reducible rfl
        rotate_left
        · simp only [Act.put, List.setIfInBounds_toArray, List.set_cons_zero, List.set_cons_succ, i64_w, i32_w]
          rfl
        refine pure_ (i := 6) (N := some 54) (v := ?_) (a' := ?_) #[true, true, true, false, true, true, true, false, false, false, false, false] rfl rfl (by kernel_rfl) (fun _ _ _ h => h) (Or.inl ⟨by rfl, ?_⟩) ?_ ?_
        rotate_left
        · intro w'
          go_simp
          with_reducible rfl
        rotate_left
        · simp only [Act.put, List.setIfInBounds_toArray, List.set_cons_zero, List.set_cons_succ, i64_w, i32_w]
          rfl
        refine pure_ (i := 7) (N := some 55) (v := ?_) (a' := ?_) #[true, true, true, false, true, true, true, true, false, false, false, false] rfl rfl (by kernel_rfl) (fun _ _ _ h => h) (Or.inl ⟨by rfl, ?_⟩) ?_ ?_
        rotate_left
        · intro w'
          go_simp
          with_reducible rfl
        rotate_left
        · simp only [Act.put, List.setIfInBounds_toArray, List.set_cons_zero, List.set_cons_succ, i64_w, i32_w]
          rfl
        refine take_ (i := 3) (N := some 51) (v := ?_) (a' := ?_) #[true, true, true, true, true, true, true, true, false, false, false, false] rfl rfl (by kernel_rfl) (fun _ _ _ h => h) (Or.inl ⟨by rfl, ?_⟩) hHeld ?_ ?_
        rotate_left
        · rintro w' ⟨s0, s1⟩
          go_simp
          with_reducible rfl
        rotate_left
        · simp only [Act.put, List.setIfInBounds_toArray, List.set_cons_zero, List.set_cons_succ, i64_w, i32_w]
          rfl
        refine take_ (i := 8) (N := some 56) (v := ?_) (a' := ?_) #[true, true, true, true, true, true, true, true, true, false, false, false] rfl rfl (by kernel_rfl) (fun _ _ _ h => h) (Or.inl ⟨by rfl, ?_⟩) hHeld ?_ ?_
        rotate_left
        · rintro w' ⟨s0, s1⟩
          go_simp
          with_reducible rfl
        rotate_left
        · simp only [Act.put, List.setIfInBounds_toArray, List.set_cons_zero, List.set_cons_succ, i64_w, i32_w]
          rfl
        refine pure_ (i := 9) (N := some 57) (v := ?_) (a' := ?_) #[true, true, true, true, true, true, true, true, true, true, false, false] rfl rfl (by kernel_rfl) (fun _ _ _ h => h) (Or.inl ⟨by rfl, ?_⟩) ?_ ?_
        rotate_left
        · intro w'
          go_simp
          with_reducible rfl
        rotate_left
        · simp only [Act.put, List.setIfInBounds_toArray, List.set_cons_zero, List.set_cons_succ, i64_w, i32_w]
          rfl
        refine one_ (i := 10) (N := some 12) #[true, true, true, true, true, true, true, true, true, true, true, false] rfl rfl (by kernel_rfl) (by decide) (fun K hK => ?_)
        refine value_ (w1 := ?_) (v := ?_) (by rfl) rfl ?_ ?_
        rotate_left 2
        · go_simp
          constructor
          · rfl
          · rfl
        have HB12 := Aside0.mk (below_alloc (Below.refl W1.heap.size W1) (.cells #[.int .i64 0, .string ⟨#[]⟩, .string ⟨#[]⟩, .slice none 0 0] 27 (0, 0)))
        have CB12 := Aside0.mk (blk_new W1 (.cells #[.int .i64 0, .string ⟨#[]⟩, .string ⟨#[]⟩, .slice none 0 0] 27 (0, 0)))
        have G12 := Aside0.mk (blk_lt HX.out.c9)
        have v5_ := pw_cell_below HB12.out v51
        have hx1_ := pw_cell_below HB12.out hx1
        clear hHeld hx1 v51
        generalize W1.alloc (.cells #[.int .i64 0, .string ⟨#[]⟩, .string ⟨#[]⟩, .slice none 0 0] 27 (0, 0)) = W2 at *
        generalize hg12 : W1.heap.size = g12 at *
        have HG12 := Aside0.mk hg12
        clear hg12
        have v51 := v5_
        have hx1 := hx1_
        clear v5_ hx1_
        have v120 : W2.cell? ⟨g12, 0, none⟩ = some (.int .i64 0) := (blk_cell CB12.out 0).trans rfl
        have v121 : W2.cell? ⟨g12, 1, none⟩ = some (.string ⟨#[]⟩) := (blk_cell CB12.out 1).trans rfl
        have v122 : W2.cell? ⟨g12, 2, none⟩ = some (.string ⟨#[]⟩) := (blk_cell CB12.out 2).trans rfl
        have v123 : W2.cell? ⟨g12, 3, none⟩ = some (.slice none 0 0) := (blk_cell CB12.out 3).trans rfl
        have f120 := blk_frozen CB12.out 0
        have f121 := blk_frozen CB12.out 1
        have f122 := blk_frozen CB12.out 2
        have f123 := blk_frozen CB12.out 3
        refine hK.out _ _ ⟨v51, hx1⟩ (fun hHeld => ?_)
        clear hK K
        refine norm_ (a' := ?_) ?_ ?_
        rotate_left
        · show Act.put _ (some 12) _ = _
          simp only [Act.put, List.setIfInBounds_toArray, List.set_cons_zero, List.set_cons_succ, i64_w, i32_w]
          rfl
        refine last_ (i := 11) (N := none) #[true, true, true, true, true, true, true, true, true, true, true, true] rfl rfl (by kernel_rfl) (by decide) (fun K hK => ?_)
        refine skip_ (w1 := ?_) (by rfl) rfl ?_ ?_
        rotate_left
        · go_simp
          rfl
        refine hK.out _ _ ?_
        clear hK K
        refine done_ (by kernel_rfl) ?_

        have HBV : Aside0 (Below W1.heap.size W1 W2) := ⟨by rw [HG12.out]; exact HB12.out⟩
        have HBW : Aside0 (Below W1.heap.size W1 (((((W2).setCell ⟨g12, 0, none⟩ (.int .i64 1)).setCell ⟨g12, 1, none⟩ (.string ⟨#[98]⟩)).setCell ⟨g12, 2, none⟩ (.string ⟨#[]⟩)).setCell ⟨g12, 3, none⟩ (.slice A2 x.f1.length c2))) := ⟨below_set (below_set (below_set (below_set HBV.out (Nat.le_of_eq HG12.out)) (Nat.le_of_eq HG12.out)) (Nat.le_of_eq HG12.out)) (Nat.le_of_eq HG12.out)⟩
        have HX_ := Aside0.mk (HX.out.step HBW.out)
        have CB12_ := Aside0.mk (blk_put (cs' := #[.int .i64 1, .string ⟨#[98]⟩, .string ⟨#[]⟩, .slice A2 x.f1.length c2]) (blk_put (cs' := #[.int .i64 1, .string ⟨#[98]⟩, .string ⟨#[]⟩, .slice none 0 0]) (blk_put (cs' := #[.int .i64 1, .string ⟨#[98]⟩, .string ⟨#[]⟩, .slice none 0 0]) (blk_put (cs' := #[.int .i64 1, .string ⟨#[]⟩, .string ⟨#[]⟩, .slice none 0 0]) CB12.out 0 (.int .i64 1) rfl) 1 (.string ⟨#[98]⟩) rfl) 2 (.string ⟨#[]⟩) rfl) 3 (.slice A2 x.f1.length c2) rfl)
        have HV12_ := Aside0.mk (Kd.V_mono (Kd.V_bound HX.out.hV) (ok' := fun k => (k ≠ g6 ∧ k ≠ g8 ∧ k ≠ g9) ∧ k ≠ g12) (fun k hk => ⟨hk.1, by have := HG12.out; have := hk.2; omega⟩))
        have HV12 := Aside0.mk (Kd.V_below HV12_.out HBW.out)
        clear HV12_
        clear HX CB12 HB12 HBV HBW HG12 hHeld hx1 v51 v120 v121 v122 v123 f120 f121 f122 f123
        generalize ((((W2).setCell ⟨g12, 0, none⟩ (.int .i64 1)).setCell ⟨g12, 1, none⟩ (.string ⟨#[98]⟩)).setCell ⟨g12, 2, none⟩ (.string ⟨#[]⟩)).setCell ⟨g12, 3, none⟩ (.slice A2 x.f1.length c2) = W3 at *
        have HX := HX_
        have CB12 := CB12_
        clear HX_ CB12_
        obtain ⟨v50, v51, v60, v61, f60, f61, v80, v81, f80, f81, v90, v91, f90, f91⟩ := HX.out.vis
        have v120 : W3.cell? ⟨g12, 0, none⟩ = some (.int .i64 1) := (blk_cell CB12.out 0).trans rfl
        have v121 : W3.cell? ⟨g12, 1, none⟩ = some (.string ⟨#[98]⟩) := (blk_cell CB12.out 1).trans rfl
        have v122 : W3.cell? ⟨g12, 2, none⟩ = some (.string ⟨#[]⟩) := (blk_cell CB12.out 2).trans rfl
        have v123 : W3.cell? ⟨g12, 3, none⟩ = some (.slice A2 x.f1.length c2) := (blk_cell CB12.out 3).trans rfl
        have f120 := blk_frozen CB12.out 0
        have f121 := blk_frozen CB12.out 1
        have f122 := blk_frozen CB12.out 2
        have f123 := blk_frozen CB12.out 3
        rcases si_app HI.out true x.f1 with ⟨hsp, hd⟩ | ⟨L2, hd, hi2⟩
        · have HDO := Aside0.mk (show store_Do.f 4096 L 1 ⟨#[98]⟩ ⟨#[]⟩ x.f1 = some (0, [], 11) by unfold store_Do.f; rw [if_pos ⟨(reach_of HI.out.1).small, HXO.out.1⟩]; exact congrArg some hd)
          clear hd
          go_upto_region 16 with (first
            | (go_at_call 12; (with_reducible refine (store_Do.calls 4096 A c L 1 ⟨#[98]⟩ ⟨#[]⟩ A2 c2 x.f1 0 [] 11 _ HX.out.reads HX.out.room (Kd.C_below HC2W.out HX.out.B) HL2.out HDO.out).mono ?_); rintro e w4 ⟨v4, rfl, hV, hb⟩; obtain ⟨Ax, cx, rfl⟩ := Kd.V_slice hV; have G4 := Aside0.mk (blk_lt HX.out.c9); have HVX := Aside0.mk (Kd.V_lower (Kd.V_mono hV (ok' := fun k => g9 < k) (fun k hk => by have := G4.out; omega)) (Nat.zero_le _)); have HX_ := Aside0.mk (HX.out.step hb); clear HX hV hb G4 CB12 v50 v51 v60 v61 f60 f61 v80 v81 f80 f81 v90 v91 f90 f91 v120 v121 v122 v123 f120 f121 f122 f123; have HX := HX_; clear HX_)
            | ((with_reducible refine gate_dst (N := 13) rfl ?_); refine box_event ?hg (N := 13) ?hd (cs := #[.int .i64 0, .slice none 0 0]) (t := 24) ?hr ?_; (case hd => rfl); (case hg => rfl); (case hr => first | (go_simp; done) | (go_simp; rfl)); intro g13 hg13 w5 hbox hb; have CB13 := Aside0.mk hbox; have HG13 := Aside0.mk hg13; have HA13 := Aside0.mk hb; clear hbox hg13 hb; have v130 : w5.cell? ⟨g13, 0, none⟩ = some (.int .i64 0) := (blk_cell CB13.out 0).trans rfl; have v131 : w5.cell? ⟨g13, 1, none⟩ = some (.slice none 0 0) := (blk_cell CB13.out 1).trans rfl; have f130 := blk_frozen CB13.out 0; have f131 := blk_frozen CB13.out 1))
          have HBx := Aside0.mk (below_set (g := g13) (j := 1) (v := .slice Ax 0 cx) (below_set (g := g13) (j := 0) (v := .int .i64 0) HA13.out (Nat.le_of_eq HG13.out.symm)) (Nat.le_of_eq HG13.out.symm))
          have HX_ := Aside0.mk (HX.out.step HBx.out)
          have HVX_ := Aside0.mk (Kd.V_below HVX.out HBx.out)
          have CB13_ := Aside0.mk (blk_put (cs' := #[.int .i64 0, .slice Ax 0 cx]) (blk_put (cs' := #[.int .i64 0, .slice none 0 0]) CB13.out 0 (.int .i64 0) rfl) 1 (.slice Ax 0 cx) rfl)
          clear HX HVX CB13 HG13 HA13 HBx v130 v131 f130 f131
          generalize (w5.setCell ⟨g13, 0, none⟩ (.int .i64 0)).setCell ⟨g13, 1, none⟩ (.slice Ax 0 cx) = W5 at *
          have HX := HX_
          have HVX := HVX_
          have CB13 := CB13_
          clear HX_ HVX_ CB13_
          obtain ⟨v50, v51, v60, v61, f60, f61, v80, v81, f80, f81, v90, v91, f90, f91⟩ := HX.out.vis
          have v130 : W5.cell? ⟨g13, 0, none⟩ = some (.int .i64 0) := (blk_cell CB13.out 0).trans rfl
          have v131 : W5.cell? ⟨g13, 1, none⟩ = some (.slice Ax 0 cx) := (blk_cell CB13.out 1).trans rfl
          have HU := Aside0.mk (used_some (reach_of HI.out.1) HI.out.1)
          have hsub : wrap64 (4096 - totS L) = 4096 - totS L := wr64 (by have := tot_nonneg L; have := HI.out.1.2.2.2.2; omega)
          have hle : decide ((x.f1.length : Int) ≤ 4096 - totS L) = false := decide_eq_false (by omega)
          clear hsp HVX CB13 v130 v131
          have hx1 := (HX.out.B.cell (World.block_lt_of_cell? w _ HX1W.out)).trans HX1W.out
          go_upto_region 21 with (first
            | fail)
          have HX_ := Aside0.mk HX.out.drew
          have hx1_ : W5.drew.cell? ⟨(ad.add (i * 2)).block, (ad.add (i * 2)).off + 1, none⟩ = some (.slice A2 x.f1.length c2) := hx1
          have v60_ : W5.drew.cell? ⟨g6, 0, none⟩ = some (.int .i64 4096) := v60
          have v61_ : W5.drew.cell? ⟨g6, 1, none⟩ = some (.slice A L.length c) := v61
          clear HX hx1 v50 v51 v60 v61 f60 f61 v80 v81 f80 f81 v90 v91 f90 f91
          have HX := HX_
          have hx1 := hx1_
          have v60 := v60_
          have v61 := v61_
          clear HX_ hx1_ v60_ v61_
          refine start_ (n := 10) (S := fun w' => w'.cell? ⟨(ad.add (i * 2)).block, (ad.add (i * 2)).off + 1, none⟩ = some (.slice A2 x.f1.length c2) ∧ w'.cell? ⟨g6, 0, none⟩ = some (.int .i64 4096) ∧ w'.cell? ⟨g6, 1, none⟩ = some (.slice A L.length c)) (ds := []) #[false, false, false, false, false, false, false, false, false, false] (by kernel_rfl) rfl rfl ⟨hx1, v60, v61⟩ (fun hHeld => ?_)
          generalize W5.drew = W7 at *
          refine pure_ (i := 0) (N := some 77) (v := ?_) (a' := ?_) #[true, false, false, false, false, false, false, false, false, false] rfl rfl (by kernel_rfl) (fun _ _ _ h => h) (Or.inl ⟨by rfl, ?_⟩) ?_ ?_
          rotate_left
          · intro w'
            go_simp
            with_reducible rfl
          rotate_left
          · simp only [Act.put, List.setIfInBounds_toArray, List.set_cons_zero, List.set_cons_succ, i64_w, i32_w]
            rfl
          refine pure_ (i := 1) (N := some 78) (v := ?_) (a' := ?_) #[true, true, false, false, false, false, false, false, false, false] rfl rfl (by kernel_rfl) (fun _ _ _ h => h) (Or.inl ⟨by rfl, ?_⟩) ?_ ?_
          rotate_left
          · intro w'
            go_simp
            with_reducible rfl
          rotate_left
          · simp only [Act.put, List.setIfInBounds_toArray, List.set_cons_zero, List.set_cons_succ, i64_w, i32_w]
            rfl
          refine pure_ (i := 2) (N := some 79) (v := ?_) (a' := ?_) #[true, true, true, false, false, false, false, false, false, false] rfl rfl (by kernel_rfl) (fun _ _ _ h => h) (Or.inl ⟨by rfl, ?_⟩) ?_ ?_
          rotate_left
          · intro w'
            go_simp
            with_reducible rfl
          rotate_left
          · simp only [Act.put, List.setIfInBounds_toArray, List.set_cons_zero, List.set_cons_succ, i64_w, i32_w]
            rfl
          refine pure_ (i := 3) (N := some 80) (v := ?_) (a' := ?_) #[true, true, true, true, false, false, false, false, false, false] rfl rfl (by kernel_rfl) (fun _ _ _ h => h) (Or.inl ⟨by rfl, ?_⟩) ?_ ?_
          rotate_left
          · intro w'
            go_simp
            with_reducible rfl
          rotate_left
          · simp only [Act.put, List.setIfInBounds_toArray, List.set_cons_zero, List.set_cons_succ, i64_w, i32_w]
            rfl
          refine take_ (i := 4) (N := some 81) (v := ?_) (a' := ?_) #[true, true, true, true, true, false, false, false, false, false] rfl rfl (by kernel_rfl) (fun _ _ _ h => h) (Or.inl ⟨by rfl, ?_⟩) hHeld ?_ ?_
          rotate_left
          · rintro w' ⟨s0, s1, s2⟩
            go_simp
            with_reducible rfl
          rotate_left
          · simp only [Act.put, List.setIfInBounds_toArray, List.set_cons_zero, List.set_cons_succ, i64_w, i32_w]
            rfl
          refine pure_ (i := 5) (N := some 82) (v := ?_) (a' := ?_) #[true, true, true, true, true, true, false, false, false, false] rfl rfl (by kernel_rfl) (fun _ _ _ h => h) (Or.inl ⟨by rfl, ?_⟩) ?_ ?_
          rotate_left
          · intro w'
            go_simp
            with_reducible rfl
          rotate_left
          · simp only [Act.put, List.setIfInBounds_toArray, List.set_cons_zero, List.set_cons_succ, i64_w, i32_w]
            rfl
          refine take_ (i := 6) (N := some 83) (v := ?_) (a' := ?_) #[true, true, true, true, true, true, true, false, false, false] rfl rfl (by kernel_rfl) (fun _ _ _ h => h) (Or.inl ⟨by rfl, ?_⟩) hHeld ?_ ?_
          rotate_left
          · rintro w' ⟨s0, s1, s2⟩
            go_simp
            with_reducible rfl
          rotate_left
          · simp only [Act.put, List.setIfInBounds_toArray, List.set_cons_zero, List.set_cons_succ, i64_w, i32_w]
            rfl
          refine one_ (i := 7) (N := some 84) #[true, true, true, true, true, true, true, true, false, false] rfl rfl (by kernel_rfl) (by decide) (fun K hK => ?_)
          refine goes_ Try.func20 (by kernel_rfl) rfl #[.agg #[.int .i64 4096, .slice A L.length c]] (by rfl) rfl rfl (by simp only [List.map_toArray, List.map_cons, List.map_nil]; rfl) ?_
          with_reducible refine (store_Used.calls _ 4096 A c L (totS L) _ HX.out.reads HX.out.room HU.out).mono ?_
          rintro e w8 ⟨rfl, hb⟩
          refine ⟨_, rfl, ?_⟩
          have HB8 := Aside0.mk hb
          clear hb
          refine hK.out _ _ ⟨(pw_cell_below HB8.out hx1), (pw_cell_below HB8.out v60), (pw_cell_below HB8.out v61)⟩ (fun hHeld => ?_)
          clear hK K
          refine norm_ (a' := ?_) ?_ ?_
          rotate_left
          · show Act.put _ (some 84) _ = _
            simp only [Act.put, List.setIfInBounds_toArray, List.set_cons_zero, List.set_cons_succ, i64_w, i32_w]
            rfl
          refine pure_ (i := 8) (N := some 85) (v := ?_) (a' := ?_) #[true, true, true, true, true, true, true, true, true, false] rfl rfl (by kernel_rfl) (fun _ _ _ h => h) (Or.inl ⟨by rfl, ?_⟩) ?_ ?_
          rotate_left
          · intro w'
            go_simp
            with_reducible rfl
          rotate_left
          · simp only [Act.put, List.setIfInBounds_toArray, List.set_cons_zero, List.set_cons_succ, i64_w, i32_w]
            rfl
          refine pure_ (i := 9) (N := some 86) (v := ?_) (a' := ?_) #[true, true, true, true, true, true, true, true, true, true] rfl rfl (by kernel_rfl) (fun _ _ _ h => h) (Or.inl ⟨by rfl, ?_⟩) ?_ ?_
          rotate_left
          · intro w'
            go_simp
            with_reducible rfl
          rotate_left
          · simp only [Act.put, List.setIfInBounds_toArray, List.set_cons_zero, List.set_cons_succ, i64_w, i32_w]
            rfl
          refine done_ (by kernel_rfl) ?_

          have HX_ := Aside0.mk (HX.out.step HB8.out)
          clear HX HB8 hx1 v60 v61
          have HX := HX_
          clear HX_
          go_wp2
          go_roundw
          · exact ⟨i + 1, A, c, L, a0, a1, s0, s1, rfl, cs, HI, HX⟩
          · show l0.length - (((i + 1 : Nat) : Int)).toNat < l0.length - (i : Int).toNat
            omega
        · have HDO := Aside0.mk (show store_Do.f 4096 L 1 ⟨#[98]⟩ ⟨#[]⟩ x.f1 = some (4096, L2, 0) by unfold store_Do.f; rw [if_pos ⟨(reach_of HI.out.1).small, HXO.out.1⟩]; exact congrArg some hd)
          clear hd
          have hcat : (9223372036854775807 < a1.size + (strOfNums x.f1).size) = False := eq_false (by have := (si_size HI.out).2; have := HXO.out.1; rw [str_size]; omega)
          have HI2 := Aside0.mk hi2
          clear hi2
          go_upto_region 16 with (first
            | (go_at_call 12; (with_reducible refine (store_Do.calls 4096 A c L 1 ⟨#[98]⟩ ⟨#[]⟩ A2 c2 x.f1 4096 L2 0 _ HX.out.reads HX.out.room (Kd.C_below HC2W.out HX.out.B) HL2.out HDO.out).mono ?_); rintro e w4 ⟨v4, rfl, hV, hb⟩; obtain ⟨Ax, cx, rfl⟩ := Kd.V_slice hV; have G4 := Aside0.mk (blk_lt HX.out.c9); have HVX := Aside0.mk (Kd.V_lower (Kd.V_mono hV (ok' := fun k => g9 < k) (fun k hk => by have := G4.out; omega)) (Nat.zero_le _)); have HX_ := Aside0.mk (HX.out.step hb); clear HX hV hb G4 CB12 v50 v51 v60 v61 f60 f61 v80 v81 f80 f81 v90 v91 f90 f91 v120 v121 v122 v123 f120 f121 f122 f123; have HX := HX_; clear HX_)
            | ((with_reducible refine gate_dst (N := 13) rfl ?_); refine box_event ?hg (N := 13) ?hd (cs := #[.int .i64 0, .slice none 0 0]) (t := 24) ?hr ?_; (case hd => rfl); (case hg => rfl); (case hr => first | (go_simp; done) | (go_simp; rfl)); intro g13 hg13 w5 hbox hb; have CB13 := Aside0.mk hbox; have HG13 := Aside0.mk hg13; have HA13 := Aside0.mk hb; clear hbox hg13 hb; have v130 : w5.cell? ⟨g13, 0, none⟩ = some (.int .i64 0) := (blk_cell CB13.out 0).trans rfl; have v131 : w5.cell? ⟨g13, 1, none⟩ = some (.slice none 0 0) := (blk_cell CB13.out 1).trans rfl; have f130 := blk_frozen CB13.out 0; have f131 := blk_frozen CB13.out 1))
          have HBx := Aside0.mk (below_set (g := g13) (j := 1) (v := .slice Ax L2.length cx) (below_set (g := g13) (j := 0) (v := .int .i64 4096) HA13.out (Nat.le_of_eq HG13.out.symm)) (Nat.le_of_eq HG13.out.symm))
          have HX_ := Aside0.mk (HX.out.step HBx.out)
          have HVX_ := Aside0.mk (Kd.V_below HVX.out HBx.out)
          have CB13_ := Aside0.mk (blk_put (cs' := #[.int .i64 4096, .slice Ax L2.length cx]) (blk_put (cs' := #[.int .i64 4096, .slice none 0 0]) CB13.out 0 (.int .i64 4096) rfl) 1 (.slice Ax L2.length cx) rfl)
          clear HX HVX CB13 HG13 HA13 HBx v130 v131 f130 f131
          generalize (w5.setCell ⟨g13, 0, none⟩ (.int .i64 4096)).setCell ⟨g13, 1, none⟩ (.slice Ax L2.length cx) = W5 at *
          have HX := HX_
          have HVX := HVX_
          have CB13 := CB13_
          clear HX_ HVX_ CB13_
          obtain ⟨v50, v51, v60, v61, f60, f61, v80, v81, f80, f81, v90, v91, f90, f91⟩ := HX.out.vis
          have v130 : W5.cell? ⟨g13, 0, none⟩ = some (.int .i64 4096) := (blk_cell CB13.out 0).trans rfl
          have v131 : W5.cell? ⟨g13, 1, none⟩ = some (.slice Ax L2.length cx) := (blk_cell CB13.out 1).trans rfl
          go_upto_region 27 with (first
            | fail)
          have HX_ := Aside0.mk (HX.out.new HVX.out)
          clear HX HVX CB13 v130 v131 v50 v51 v60 v61 f60 f61 v80 v81 f80 f81 v90 v91 f90 f91
          generalize (W5.setCell ⟨g6, 0, none⟩ (.int .i64 4096)).setCell ⟨g6, 1, none⟩ (.slice Ax L2.length cx) = W6 at *
          have HX := HX_
          clear HX_
          obtain ⟨v50, v51, v60, v61, f60, f61, v80, v81, f80, f81, v90, v91, f90, f91⟩ := HX.out.vis
          have hx1 := (HX.out.B.cell (World.block_lt_of_cell? w _ HX1W.out)).trans HX1W.out
          have HX_ := Aside0.mk HX.out.drew
          have hx1_ : W6.drew.cell? ⟨(ad.add (i * 2)).block, (ad.add (i * 2)).off + 1, none⟩ = some (.slice A2 x.f1.length c2) := hx1
          have v8_ : W6.drew.cell? ⟨g8, 1, none⟩ = some (.string a1) := v81
          have f8_ : W6.drew.frozen? ⟨g8, 1, none⟩ = false := f81
          clear HX hx1 v50 v51 v60 v61 f60 f61 v80 v81 f80 f81 v90 v91 f90 f91
          have HX := HX_
          have hx1 := hx1_
          have v81 := v8_
          have f81 := f8_
          clear HX_ hx1_ v8_ f8_
          refine start_ (n := 13) (S := fun w' => w'.cell? ⟨g8, 1, none⟩ = some (.string a1) ∧ w'.cell? ⟨(ad.add (i * 2)).block, (ad.add (i * 2)).off + 1, none⟩ = some (.slice A2 x.f1.length c2)) (ds := [12]) #[false, false, false, false, false, false, false, false, false, false, false, false, false] (by kernel_rfl) rfl rfl ⟨v81, hx1⟩ (fun hHeld => ?_)
          generalize W6.drew = W7 at *
          have hcv := Kd.C_string (P := Try.prog) (src := 25) (dst := 9) (e := 5) (c := c2) Try.underlying25 Try.underlying5 Try.underlying9 (Kd.C_below HC2W.out HX.out.B)
          refine pure_ (i := 0) (N := some 100) (v := ?_) (a' := ?_) #[true, false, false, false, false, false, false, false, false, false, false, false, false] rfl rfl (by kernel_rfl) (fun _ _ _ h => h) (Or.inl ⟨by rfl, ?_⟩) ?_ ?_
          rotate_left
          · intro w'
            go_simp
            with_reducible rfl
          rotate_left
          · simp only [Act.put, List.setIfInBounds_toArray, List.set_cons_zero, List.set_cons_succ, i64_w, i32_w]
            rfl
          refine pure_ (i := 1) (N := some 101) (v := ?_) (a' := ?_) #[true, true, false, false, false, false, false, false, false, false, false, false, false] rfl rfl (by kernel_rfl) (fun _ _ _ h => h) (Or.inl ⟨by rfl, ?_⟩) ?_ ?_
          rotate_left
          · intro w'
            go_simp
            with_reducible rfl
          rotate_left
          · simp only [Act.put, List.setIfInBounds_toArray, List.set_cons_zero, List.set_cons_succ, i64_w, i32_w]
            rfl
          refine pure_ (i := 2) (N := some 102) (v := ?_) (a' := ?_) #[true, true, true, false, false, false, false, false, false, false, false, false, false] rfl rfl (by kernel_rfl) (fun _ _ _ h => h) (Or.inl ⟨by rfl, ?_⟩) ?_ ?_
          rotate_left
          · intro w'
            go_simp
            with_reducible rfl
          rotate_left
          · simp only [Act.put, List.setIfInBounds_toArray, List.set_cons_zero, List.set_cons_succ, i64_w, i32_w]
            rfl
          refine pure_ (i := 4) (N := some 104) (v := ?_) (a' := ?_) #[true, true, true, false, true, false, false, false, false, false, false, false, false] rfl rfl (by kernel_rfl) (fun _ _ _ h => h) (Or.inl ⟨by rfl, ?_⟩) ?_ ?_
          rotate_left
          · intro w'
            go_simp
            with_reducible rfl
          rotate_left
          · simp only [Act.put, List.setIfInBounds_toArray, List.set_cons_zero, List.set_cons_succ, i64_w, i32_w]
            rfl
          refine pure_ (i := 5) (N := some 105) (v := ?_) (a' := ?_) #[true, true, true, false, true, true, false, false, false, false, false, false, false] rfl rfl (by kernel_rfl) (fun _ _ _ h => h) (Or.inl ⟨by rfl, ?_⟩) ?_ ?_
          rotate_left
          · intro w'
            go_simp
            with_reducible rfl
          rotate_left
          · simp only [Act.put, List.setIfInBounds_toArray, List.set_cons_zero, List.set_cons_succ, i64_w, i32_w]
            rfl
          refine pure_ (i := 6) (N := some 106) (v := ?_) (a' := ?_) #[true, true, true, false, true, true, true, false, false, false, false, false, false] rfl rfl (by kernel_rfl) (fun _ _ _ h => h) (Or.inl ⟨by rfl, ?_⟩) ?_ ?_
          rotate_left
          · intro w'
            go_simp
            with_reducible rfl
          rotate_left
          · simp only [Act.put, List.setIfInBounds_toArray, List.set_cons_zero, List.set_cons_succ, i64_w, i32_w]
            rfl
          refine pure_ (i := 7) (N := some 107) (v := ?_) (a' := ?_) #[true, true, true, false, true, true, true, true, false, false, false, false, false] rfl rfl (by kernel_rfl) (fun _ _ _ h => h) (Or.inl ⟨by rfl, ?_⟩) ?_ ?_
          rotate_left
          · intro w'
            go_simp
            with_reducible rfl
          rotate_left
          · simp only [Act.put, List.setIfInBounds_toArray, List.set_cons_zero, List.set_cons_succ, i64_w, i32_w]
            rfl
          refine take_ (i := 3) (N := some 103) (v := ?_) (a' := ?_) #[true, true, true, true, true, true, true, true, false, false, false, false, false] rfl rfl (by kernel_rfl) (fun _ _ _ h => h) (Or.inl ⟨by rfl, ?_⟩) hHeld ?_ ?_
          rotate_left
          · rintro w' ⟨s0, s1⟩
            go_simp
            with_reducible rfl
          rotate_left
          · simp only [Act.put, List.setIfInBounds_toArray, List.set_cons_zero, List.set_cons_succ, i64_w, i32_w]
            rfl
          refine take_ (i := 8) (N := some 108) (v := ?_) (a' := ?_) #[true, true, true, true, true, true, true, true, true, false, false, false, false] rfl rfl (by kernel_rfl) (fun _ _ _ h => h) (Or.inl ⟨by rfl, ?_⟩) hHeld ?_ ?_
          rotate_left
          · rintro w' ⟨s0, s1⟩
            go_simp
            with_reducible rfl
          rotate_left
          · simp only [Act.put, List.setIfInBounds_toArray, List.set_cons_zero, List.set_cons_succ, i64_w, i32_w]
            rfl
          refine one_ (i := 9) (N := some 109) #[true, true, true, true, true, true, true, true, true, true, false, false, false] rfl rfl (by kernel_rfl) (by decide) (fun K hK => ?_)
          refine value_ (w1 := ?_) (v := ?_) (by rfl) rfl ?_ ?_
          rotate_left 2
          · go_simp
            constructor
            · rfl
            · rfl
          refine hK.out _ _ ⟨hHeld.1, hHeld.2⟩ (fun hHeld => ?_)
          clear hK K
          refine norm_ (a' := ?_) ?_ ?_
          rotate_left
          · show Act.put _ (some 109) _ = _
            simp only [Act.put, List.setIfInBounds_toArray, List.set_cons_zero, List.set_cons_succ, i64_w, i32_w]
            rfl
          refine pure_ (i := 10) (N := some 110) (v := ?_) (a' := ?_) #[true, true, true, true, true, true, true, true, true, true, true, false, false] rfl rfl (by kernel_rfl) (fun _ _ _ h => h) (Or.inl ⟨by rfl, ?_⟩) ?_ ?_
          rotate_left
          · intro w'
            go_simp
            with_reducible rfl
          rotate_left
          · simp only [Act.put, List.setIfInBounds_toArray, List.set_cons_zero, List.set_cons_succ, i64_w, i32_w]
            rfl
          refine pure_ (i := 11) (N := some 111) (v := ?_) (a' := ?_) #[true, true, true, true, true, true, true, true, true, true, true, true, false] rfl rfl (by kernel_rfl) (fun _ _ _ h => h) (Or.inl ⟨by rfl, ?_⟩) ?_ ?_
          rotate_left
          · intro w'
            go_simp
            with_reducible rfl
          rotate_left
          · simp only [Act.put, List.setIfInBounds_toArray, List.set_cons_zero, List.set_cons_succ, i64_w, i32_w]
            rfl
          refine last_ (i := 12) (N := none) #[true, true, true, true, true, true, true, true, true, true, true, true, true] rfl rfl (by kernel_rfl) (by decide) (fun K hK => ?_)
          refine skip_ (w1 := ?_) (by rfl) rfl ?_ ?_
          rotate_left
          · go_simp
            rfl
          refine hK.out _ _ ?_
          clear hK K
          refine done_ (by kernel_rfl) ?_

          have HX_ := Aside0.mk (HX.out.put8 1 (a1 ++ strOfNums x.f1) a0 (a1 ++ strOfNums x.f1) rfl)
          go_wp2
          go_roundw
          · exact ⟨i + 1, Ax, cx, L2, a0, (a1 ++ strOfNums x.f1), s0, s1, rfl, cs, HI2, HX_⟩
          · show l0.length - (((i + 1 : Nat) : Int)).toNat < l0.length - (i : Int).toNat
            omega
      · go_upto_region 12 with (first
          | fail)
        have HX_ := Aside0.mk HX.out.drew
        have hx1_ : wr.drew.cell? ⟨(ad.add (i * 2)).block, (ad.add (i * 2)).off + 1, none⟩ = some (.slice A2 x.f1.length c2) := hx1
        have v5_ : wr.drew.cell? ⟨g5, 0, none⟩ = some (.string ⟨#[97]⟩) := v50
        clear HX hx0 hx1 v50 v51 v60 v61 f60 f61 v80 v81 f80 f81 v90 v91 f90 f91
        have HX := HX_
        have hx1 := hx1_
        have v50 := v5_
        clear HX_ hx1_ v5_
        refine start_ (n := 12) (S := fun w' => w'.cell? ⟨g5, 0, none⟩ = some (.string ⟨#[97]⟩) ∧ w'.cell? ⟨(ad.add (i * 2)).block, (ad.add (i * 2)).off + 1, none⟩ = some (.slice A2 x.f1.length c2)) (ds := [11]) #[false, false, false, false, false, false, false, false, false, false, false, false] (by kernel_rfl) rfl rfl ⟨v50, hx1⟩ (fun hHeld => ?_)
        generalize wr.drew = W1 at *
        refine pure_ (i := 0) (N := some 48) (v := ?_) (a' := ?_) #[true, false, false, false, false, false, false, false, false, false, false, false] rfl rfl (by kernel_rfl) (fun _ _ _ h => h) (Or.inl ⟨by rfl, ?_⟩) ?_ ?_
        rotate_left
        · intro w'
          go_simp
          with_reducible rfl
        rotate_left
        · simp only [Act.put, List.setIfInBounds_toArray, List.set_cons_zero, List.set_cons_succ, i64_w, i32_w]
          rfl
        refine pure_ (i := 1) (N := some 49) (v := ?_) (a' := ?_) #[true, true, false, false, false, false, false, false, false, false, false, false] rfl rfl (by kernel_rfl) (fun _ _ _ h => h) (Or.inl ⟨by rfl, ?_⟩) ?_ ?_
        rotate_left
        · intro w'
          go_simp
          with_reducible rfl
        rotate_left
        · simp only [Act.put, List.setIfInBounds_toArray, List.set_cons_zero, List.set_cons_succ, i64_w, i32_w]
          rfl
        refine pure_ (i := 2) (N := some 50) (v := ?_) (a' := ?_) #[true, true, true, false, false, false, false, false, false, false, false, false] rfl rfl (by kernel_rfl) (fun _ _ _ h => h) (Or.inl ⟨by rfl, ?_⟩) ?_ ?_
        rotate_left
        · intro w'
          go_simp
          with_reducible rfl
        rotate_left
        · simp only [Act.put, List.setIfInBounds_toArray, List.set_cons_zero, List.set_cons_succ, i64_w, i32_w]
          rfl
        refine pure_ (i := 4) (N := some 52) (v := ?_) (a' := ?_) #[true, true, true, false, true, false, false, false, false, false, false, false] rfl rfl (by kernel_rfl) (fun _ _ _ h => h) (Or.inl ⟨by rfl, ?_⟩) ?_ ?_
        rotate_left
        · intro w'
          go_simp
          with_reducible rfl
        rotate_left
        · simp only [Act.put, List.setIfInBounds_toArray, List.set_cons_zero, List.set_cons_succ, i64_w, i32_w]
          rfl
        refine pure_ (i := 5) (N := some 53) (v := ?_) (a' := ?_) #[true, true, true, false, true, true, false, false, false, false, false, false] rfl rfl (by kernel_rfl) (fun _ _ _ h => h) (Or.inl ⟨by rfl, ?_⟩) ?_ ?_
        rotate_left
        · intro w'
          go_simp
          with_reducible rfl
        rotate_left
        · simp only [Act.put, List.setIfInBounds_toArray, List.set_cons_zero, List.set_cons_succ, i64_w, i32_w]
          rfl
        refine pure_ (i := 6) (N := some 54) (v := ?_) (a' := ?_) #[true, true, true, false, true, true, true, false, false, false, false, false] rfl rfl (by kernel_rfl) (fun _ _ _ h => h) (Or.inl ⟨by rfl, ?_⟩) ?_ ?_
        rotate_left
        · intro w'
          go_simp
          with_reducible rfl
        rotate_left
        · simp only [Act.put, List.setIfInBounds_toArray, List.set_cons_zero, List.set_cons_succ, i64_w, i32_w]
          rfl
        refine pure_ (i := 7) (N := some 55) (v := ?_) (a' := ?_) #[true, true, true, false, true, true, true, true, false, false, false, false] rfl rfl (by kernel_rfl) (fun _ _ _ h => h) (Or.inl ⟨by rfl, ?_⟩) ?_ ?_
        rotate_left
        · intro w'
          go_simp
          with_reducible rfl
        rotate_left
        · simp only [Act.put, List.setIfInBounds_toArray, List.set_cons_zero, List.set_cons_succ, i64_w, i32_w]
          rfl
        refine take_ (i := 3) (N := some 51) (v := ?_) (a' := ?_) #[true, true, true, true, true, true, true, true, false, false, false, false] rfl rfl (by kernel_rfl) (fun _ _ _ h => h) (Or.inl ⟨by rfl, ?_⟩) hHeld ?_ ?_
        rotate_left
        · rintro w' ⟨s0, s1⟩
          go_simp
          with_reducible rfl
        rotate_left
        · simp only [Act.put, List.setIfInBounds_toArray, List.set_cons_zero, List.set_cons_succ, i64_w, i32_w]
          rfl
        refine take_ (i := 8) (N := some 56) (v := ?_) (a' := ?_) #[true, true, true, true, true, true, true, true, true, false, false, false] rfl rfl (by kernel_rfl) (fun _ _ _ h => h) (Or.inl ⟨by rfl, ?_⟩) hHeld ?_ ?_
        rotate_left
        · rintro w' ⟨s0, s1⟩
          go_simp
          with_reducible rfl
        rotate_left
        · simp only [Act.put, List.setIfInBounds_toArray, List.set_cons_zero, List.set_cons_succ, i64_w, i32_w]
          rfl
        refine pure_ (i := 9) (N := some 57) (v := ?_) (a' := ?_) #[true, true, true, true, true, true, true, true, true, true, false, false] rfl rfl (by kernel_rfl) (fun _ _ _ h => h) (Or.inl ⟨by rfl, ?_⟩) ?_ ?_
        rotate_left
        · intro w'
          go_simp
          with_reducible rfl
        rotate_left
        · simp only [Act.put, List.setIfInBounds_toArray, List.set_cons_zero, List.set_cons_succ, i64_w, i32_w]
          rfl
        refine one_ (i := 10) (N := some 12) #[true, true, true, true, true, true, true, true, true, true, true, false] rfl rfl (by kernel_rfl) (by decide) (fun K hK => ?_)
        refine value_ (w1 := ?_) (v := ?_) (by rfl) rfl ?_ ?_
        rotate_left 2
        · go_simp
          constructor
          · rfl
          · rfl
        have HB12 := Aside0.mk (below_alloc (Below.refl W1.heap.size W1) (.cells #[.int .i64 0, .string ⟨#[]⟩, .string ⟨#[]⟩, .slice none 0 0] 27 (0, 0)))
        have CB12 := Aside0.mk (blk_new W1 (.cells #[.int .i64 0, .string ⟨#[]⟩, .string ⟨#[]⟩, .slice none 0 0] 27 (0, 0)))
        have G12 := Aside0.mk (blk_lt HX.out.c9)
        have v5_ := pw_cell_below HB12.out v50
        have hx1_ := pw_cell_below HB12.out hx1
        clear hHeld hx1 v50
        generalize W1.alloc (.cells #[.int .i64 0, .string ⟨#[]⟩, .string ⟨#[]⟩, .slice none 0 0] 27 (0, 0)) = W2 at *
        generalize hg12 : W1.heap.size = g12 at *
        have HG12 := Aside0.mk hg12
        clear hg12
        have v50 := v5_
        have hx1 := hx1_
        clear v5_ hx1_
        have v120 : W2.cell? ⟨g12, 0, none⟩ = some (.int .i64 0) := (blk_cell CB12.out 0).trans rfl
        have v121 : W2.cell? ⟨g12, 1, none⟩ = some (.string ⟨#[]⟩) := (blk_cell CB12.out 1).trans rfl
        have v122 : W2.cell? ⟨g12, 2, none⟩ = some (.string ⟨#[]⟩) := (blk_cell CB12.out 2).trans rfl
        have v123 : W2.cell? ⟨g12, 3, none⟩ = some (.slice none 0 0) := (blk_cell CB12.out 3).trans rfl
        have f120 := blk_frozen CB12.out 0
        have f121 := blk_frozen CB12.out 1
        have f122 := blk_frozen CB12.out 2
        have f123 := blk_frozen CB12.out 3
        refine hK.out _ _ ⟨v50, hx1⟩ (fun hHeld => ?_)
        clear hK K
        refine norm_ (a' := ?_) ?_ ?_
        rotate_left
        · show Act.put _ (some 12) _ = _
          simp only [Act.put, List.setIfInBounds_toArray, List.set_cons_zero, List.set_cons_succ, i64_w, i32_w]
          rfl
        refine last_ (i := 11) (N := none) #[true, true, true, true, true, true, true, true, true, true, true, true] rfl rfl (by kernel_rfl) (by decide) (fun K hK => ?_)
        refine skip_ (w1 := ?_) (by rfl) rfl ?_ ?_
        rotate_left
        · go_simp
          rfl
        refine hK.out _ _ ?_
        clear hK K
        refine done_ (by kernel_rfl) ?_

        have HBV : Aside0 (Below W1.heap.size W1 W2) := ⟨by rw [HG12.out]; exact HB12.out⟩
        have HBW : Aside0 (Below W1.heap.size W1 (((((W2).setCell ⟨g12, 0, none⟩ (.int .i64 1)).setCell ⟨g12, 1, none⟩ (.string ⟨#[97]⟩)).setCell ⟨g12, 2, none⟩ (.string ⟨#[]⟩)).setCell ⟨g12, 3, none⟩ (.slice A2 x.f1.length c2))) := ⟨below_set (below_set (below_set (below_set HBV.out (Nat.le_of_eq HG12.out)) (Nat.le_of_eq HG12.out)) (Nat.le_of_eq HG12.out)) (Nat.le_of_eq HG12.out)⟩
        have HX_ := Aside0.mk (HX.out.step HBW.out)
        have CB12_ := Aside0.mk (blk_put (cs' := #[.int .i64 1, .string ⟨#[97]⟩, .string ⟨#[]⟩, .slice A2 x.f1.length c2]) (blk_put (cs' := #[.int .i64 1, .string ⟨#[97]⟩, .string ⟨#[]⟩, .slice none 0 0]) (blk_put (cs' := #[.int .i64 1, .string ⟨#[97]⟩, .string ⟨#[]⟩, .slice none 0 0]) (blk_put (cs' := #[.int .i64 1, .string ⟨#[]⟩, .string ⟨#[]⟩, .slice none 0 0]) CB12.out 0 (.int .i64 1) rfl) 1 (.string ⟨#[97]⟩) rfl) 2 (.string ⟨#[]⟩) rfl) 3 (.slice A2 x.f1.length c2) rfl)
        have HV12_ := Aside0.mk (Kd.V_mono (Kd.V_bound HX.out.hV) (ok' := fun k => (k ≠ g6 ∧ k ≠ g8 ∧ k ≠ g9) ∧ k ≠ g12) (fun k hk => ⟨hk.1, by have := HG12.out; have := hk.2; omega⟩))
        have HV12 := Aside0.mk (Kd.V_below HV12_.out HBW.out)
        clear HV12_
        clear HX CB12 HB12 HBV HBW HG12 hHeld hx1 v50 v120 v121 v122 v123 f120 f121 f122 f123
        generalize ((((W2).setCell ⟨g12, 0, none⟩ (.int .i64 1)).setCell ⟨g12, 1, none⟩ (.string ⟨#[97]⟩)).setCell ⟨g12, 2, none⟩ (.string ⟨#[]⟩)).setCell ⟨g12, 3, none⟩ (.slice A2 x.f1.length c2) = W3 at *
        have HX := HX_
        have CB12 := CB12_
        clear HX_ CB12_
        obtain ⟨v50, v51, v60, v61, f60, f61, v80, v81, f80, f81, v90, v91, f90, f91⟩ := HX.out.vis
        have v120 : W3.cell? ⟨g12, 0, none⟩ = some (.int .i64 1) := (blk_cell CB12.out 0).trans rfl
        have v121 : W3.cell? ⟨g12, 1, none⟩ = some (.string ⟨#[97]⟩) := (blk_cell CB12.out 1).trans rfl
        have v122 : W3.cell? ⟨g12, 2, none⟩ = some (.string ⟨#[]⟩) := (blk_cell CB12.out 2).trans rfl
        have v123 : W3.cell? ⟨g12, 3, none⟩ = some (.slice A2 x.f1.length c2) := (blk_cell CB12.out 3).trans rfl
        have f120 := blk_frozen CB12.out 0
        have f121 := blk_frozen CB12.out 1
        have f122 := blk_frozen CB12.out 2
        have f123 := blk_frozen CB12.out 3
        go_upto_region 15 with (first
          | fail)
        have HX_ := Aside0.mk (HX.out.far HV12.out G12.out (.int .i64 2) (.string ⟨#[97]⟩) (.string ⟨#[]⟩) (.slice none 0 0))
        have CB12_ := Aside0.mk (blk_put (cs' := #[.int .i64 2, .string ⟨#[97]⟩, .string ⟨#[]⟩, .slice none 0 0]) (blk_put (cs' := #[.int .i64 2, .string ⟨#[97]⟩, .string ⟨#[]⟩, .slice A2 x.f1.length c2]) (blk_put (cs' := #[.int .i64 2, .string ⟨#[97]⟩, .string ⟨#[]⟩, .slice A2 x.f1.length c2]) (blk_put (cs' := #[.int .i64 2, .string ⟨#[97]⟩, .string ⟨#[]⟩, .slice A2 x.f1.length c2]) CB12.out 0 (.int .i64 2) rfl) 1 (.string ⟨#[97]⟩) rfl) 2 (.string ⟨#[]⟩) rfl) 3 (.slice none 0 0) rfl)
        clear HX CB12 HV12 v50 v51 v60 v61 f60 f61 v80 v81 f80 f81 v90 v91 f90 f91 v120 v121 v122 v123 f120 f121 f122 f123
        generalize ((((W3).setCell ⟨g12, 0, none⟩ (.int .i64 2)).setCell ⟨g12, 1, none⟩ (.string ⟨#[97]⟩)).setCell ⟨g12, 2, none⟩ (.string ⟨#[]⟩)).setCell ⟨g12, 3, none⟩ (.slice none 0 0) = W4 at *
        have HX := HX_
        have CB12 := CB12_
        clear HX_ CB12_
        obtain ⟨v50, v51, v60, v61, f60, f61, v80, v81, f80, f81, v90, v91, f90, f91⟩ := HX.out.vis
        have v120 : W4.cell? ⟨g12, 0, none⟩ = some (.int .i64 2) := (blk_cell CB12.out 0).trans rfl
        have v121 : W4.cell? ⟨g12, 1, none⟩ = some (.string ⟨#[97]⟩) := (blk_cell CB12.out 1).trans rfl
        have v122 : W4.cell? ⟨g12, 2, none⟩ = some (.string ⟨#[]⟩) := (blk_cell CB12.out 2).trans rfl
        have v123 : W4.cell? ⟨g12, 3, none⟩ = some (.slice none 0 0) := (blk_cell CB12.out 3).trans rfl
        have f120 := blk_frozen CB12.out 0
        have f121 := blk_frozen CB12.out 1
        have f122 := blk_frozen CB12.out 2
        have f123 := blk_frozen CB12.out 3
        rcases si_sync HI.out false with ⟨he, hd⟩ | ⟨L2, hd, hi2⟩
        · have hd : doR 4096 L 2 ⟨#[97]⟩ ⟨#[]⟩ [] = (0, [], 8) := hd
          obtain rfl : a0 = ⟨#[]⟩ := he
          have HDO := Aside0.mk (show store_Do.f 4096 L 2 ⟨#[97]⟩ ⟨#[]⟩ [] = some (0, [], 8) by unfold store_Do.f; rw [if_pos ⟨(reach_of HI.out.1).small, Nat.zero_le _⟩]; exact congrArg some hd)
          clear hd
          go_upto_region 16 with (first
            | (go_at_call 12; (with_reducible refine (do_none A c L 2 ⟨#[97]⟩ ⟨#[]⟩ 0 [] 8 _ HX.out.reads HX.out.room HDO.out).mono ?_); rintro e w4 ⟨v4, rfl, hV, hb⟩; obtain ⟨Ax, cx, rfl⟩ := Kd.V_slice hV; have G4 := Aside0.mk (blk_lt HX.out.c9); have HVX := Aside0.mk (Kd.V_lower (Kd.V_mono hV (ok' := fun k => g9 < k) (fun k hk => by have := G4.out; omega)) (Nat.zero_le _)); have HX_ := Aside0.mk (HX.out.step hb); clear HX hV hb G4 CB12 v50 v51 v60 v61 f60 f61 v80 v81 f80 f81 v90 v91 f90 f91 v120 v121 v122 v123 f120 f121 f122 f123; have HX := HX_; clear HX_)
            | ((with_reducible refine gate_dst (N := 13) rfl ?_); refine box_event ?hg (N := 13) ?hd (cs := #[.int .i64 0, .slice none 0 0]) (t := 24) ?hr ?_; (case hd => rfl); (case hg => rfl); (case hr => first | (go_simp; done) | (go_simp; rfl)); intro g13 hg13 w5 hbox hb; have CB13 := Aside0.mk hbox; have HG13 := Aside0.mk hg13; have HA13 := Aside0.mk hb; clear hbox hg13 hb; have v130 : w5.cell? ⟨g13, 0, none⟩ = some (.int .i64 0) := (blk_cell CB13.out 0).trans rfl; have v131 : w5.cell? ⟨g13, 1, none⟩ = some (.slice none 0 0) := (blk_cell CB13.out 1).trans rfl; have f130 := blk_frozen CB13.out 0; have f131 := blk_frozen CB13.out 1))
          have HBx := Aside0.mk (below_set (g := g13) (j := 1) (v := .slice Ax 0 cx) (below_set (g := g13) (j := 0) (v := .int .i64 0) HA13.out (Nat.le_of_eq HG13.out.symm)) (Nat.le_of_eq HG13.out.symm))
          have HX_ := Aside0.mk (HX.out.step HBx.out)
          have HVX_ := Aside0.mk (Kd.V_below HVX.out HBx.out)
          have CB13_ := Aside0.mk (blk_put (cs' := #[.int .i64 0, .slice Ax 0 cx]) (blk_put (cs' := #[.int .i64 0, .slice none 0 0]) CB13.out 0 (.int .i64 0) rfl) 1 (.slice Ax 0 cx) rfl)
          clear HX HVX CB13 HG13 HA13 HBx v130 v131 f130 f131
          generalize (w5.setCell ⟨g13, 0, none⟩ (.int .i64 0)).setCell ⟨g13, 1, none⟩ (.slice Ax 0 cx) = W5 at *
          have HX := HX_
          have HVX := HVX_
          have CB13 := CB13_
          clear HX_ HVX_ CB13_
          obtain ⟨v50, v51, v60, v61, f60, f61, v80, v81, f80, f81, v90, v91, f90, f91⟩ := HX.out.vis
          have v130 : W5.cell? ⟨g13, 0, none⟩ = some (.int .i64 0) := (blk_cell CB13.out 0).trans rfl
          have v131 : W5.cell? ⟨g13, 1, none⟩ = some (.slice Ax 0 cx) := (blk_cell CB13.out 1).trans rfl
          clear HVX CB13 v130 v131
          go_wp2
          go_roundw
          · exact ⟨i + 1, A, c, L, ⟨#[]⟩, a1, s0, s1, rfl, cs, HI, HX⟩
          · show l0.length - (((i + 1 : Nat) : Int)).toNat < l0.length - (i : Int).toNat
            omega
        · have HDO := Aside0.mk (show store_Do.f 4096 L 2 ⟨#[97]⟩ ⟨#[]⟩ [] = some (4096, L2, 0) by unfold store_Do.f; rw [if_pos ⟨(reach_of HI.out.1).small, Nat.zero_le _⟩]; exact congrArg some hd)
          clear hd
          have HI2 := Aside0.mk hi2
          clear hi2
          go_upto_region 16 with (first
            | (go_at_call 12; (with_reducible refine (do_none A c L 2 ⟨#[97]⟩ ⟨#[]⟩ 4096 L2 0 _ HX.out.reads HX.out.room HDO.out).mono ?_); rintro e w4 ⟨v4, rfl, hV, hb⟩; obtain ⟨Ax, cx, rfl⟩ := Kd.V_slice hV; have G4 := Aside0.mk (blk_lt HX.out.c9); have HVX := Aside0.mk (Kd.V_lower (Kd.V_mono hV (ok' := fun k => g9 < k) (fun k hk => by have := G4.out; omega)) (Nat.zero_le _)); have HX_ := Aside0.mk (HX.out.step hb); clear HX hV hb G4 CB12 v50 v51 v60 v61 f60 f61 v80 v81 f80 f81 v90 v91 f90 f91 v120 v121 v122 v123 f120 f121 f122 f123; have HX := HX_; clear HX_)
            | ((with_reducible refine gate_dst (N := 13) rfl ?_); refine box_event ?hg (N := 13) ?hd (cs := #[.int .i64 0, .slice none 0 0]) (t := 24) ?hr ?_; (case hd => rfl); (case hg => rfl); (case hr => first | (go_simp; done) | (go_simp; rfl)); intro g13 hg13 w5 hbox hb; have CB13 := Aside0.mk hbox; have HG13 := Aside0.mk hg13; have HA13 := Aside0.mk hb; clear hbox hg13 hb; have v130 : w5.cell? ⟨g13, 0, none⟩ = some (.int .i64 0) := (blk_cell CB13.out 0).trans rfl; have v131 : w5.cell? ⟨g13, 1, none⟩ = some (.slice none 0 0) := (blk_cell CB13.out 1).trans rfl; have f130 := blk_frozen CB13.out 0; have f131 := blk_frozen CB13.out 1))
          have HBx := Aside0.mk (below_set (g := g13) (j := 1) (v := .slice Ax L2.length cx) (below_set (g := g13) (j := 0) (v := .int .i64 4096) HA13.out (Nat.le_of_eq HG13.out.symm)) (Nat.le_of_eq HG13.out.symm))
          have HX_ := Aside0.mk (HX.out.step HBx.out)
          have HVX_ := Aside0.mk (Kd.V_below HVX.out HBx.out)
          have CB13_ := Aside0.mk (blk_put (cs' := #[.int .i64 4096, .slice Ax L2.length cx]) (blk_put (cs' := #[.int .i64 4096, .slice none 0 0]) CB13.out 0 (.int .i64 4096) rfl) 1 (.slice Ax L2.length cx) rfl)
          clear HX HVX CB13 HG13 HA13 HBx v130 v131 f130 f131
          generalize (w5.setCell ⟨g13, 0, none⟩ (.int .i64 4096)).setCell ⟨g13, 1, none⟩ (.slice Ax L2.length cx) = W5 at *
          have HX := HX_
          have HVX := HVX_
          have CB13 := CB13_
          clear HX_ HVX_ CB13_
          obtain ⟨v50, v51, v60, v61, f60, f61, v80, v81, f80, f81, v90, v91, f90, f91⟩ := HX.out.vis
          have v130 : W5.cell? ⟨g13, 0, none⟩ = some (.int .i64 4096) := (blk_cell CB13.out 0).trans rfl
          have v131 : W5.cell? ⟨g13, 1, none⟩ = some (.slice Ax L2.length cx) := (blk_cell CB13.out 1).trans rfl
          go_upto_region 28 with (first
            | fail)
          have HX_ := Aside0.mk (HX.out.new HVX.out)
          clear HX HVX CB13 v130 v131 v50 v51 v60 v61 f60 f61 v80 v81 f80 f81 v90 v91 f90 f91
          generalize (W5.setCell ⟨g6, 0, none⟩ (.int .i64 4096)).setCell ⟨g6, 1, none⟩ (.slice Ax L2.length cx) = W6 at *
          have HX := HX_
          clear HX_
          obtain ⟨v50, v51, v60, v61, f60, f61, v80, v81, f80, f81, v90, v91, f90, f91⟩ := HX.out.vis
          have hx1 := (HX.out.B.cell (World.block_lt_of_cell? w _ HX1W.out)).trans HX1W.out
          go_wp2
          have HX_ := Aside0.mk (HX.out.put9 0 a0 a0 s1 rfl)
          go_roundw
          · exact ⟨i + 1, Ax, cx, L2, a0, a1, a0, s1, rfl, cs, HI2, HX_⟩
          · show l0.length - (((i + 1 : Nat) : Int)).toNat < l0.length - (i : Int).toNat
            omega
      · go_upto_region 12 with (first
          | fail)
        have HX_ := Aside0.mk HX.out.drew
        have hx1_ : wr.drew.cell? ⟨(ad.add (i * 2)).block, (ad.add (i * 2)).off + 1, none⟩ = some (.slice A2 x.f1.length c2) := hx1
        have v5_ : wr.drew.cell? ⟨g5, 1, none⟩ = some (.string ⟨#[98]⟩) := v51
        clear HX hx0 hx1 v50 v51 v60 v61 f60 f61 v80 v81 f80 f81 v90 v91 f90 f91
        have HX := HX_
        have hx1 := hx1_
        have v51 := v5_
        clear HX_ hx1_ v5_
        refine start_ (n := 12) (S := fun w' => w'.cell? ⟨g5, 1, none⟩ = some (.string ⟨#[98]⟩) ∧ w'.cell? ⟨(ad.add (i * 2)).block, (ad.add (i * 2)).off + 1, none⟩ = some (.slice A2 x.f1.length c2)) (ds := [11]) #[false, false, false, false, false, false, false, false, false, false, false, false] (by kernel_rfl) rfl rfl ⟨v51, hx1⟩ (fun hHeld => ?_)
        generalize wr.drew = W1 at *
        refine pure_ (i := 0) (N := some 48) (v := ?_) (a' := ?_) #[true, false, false, false, false, false, false, false, false, false, false, false] rfl rfl (by kernel_rfl) (fun _ _ _ h => h) (Or.inl ⟨by rfl, ?_⟩) ?_ ?_
        rotate_left
        · intro w'
          go_simp
          with_reducible rfl
        rotate_left
        · simp only [Act.put, List.setIfInBounds_toArray, List.set_cons_zero, List.set_cons_succ, i64_w, i32_w]
          rfl
        refine pure_ (i := 1) (N := some 49) (v := ?_) (a' := ?_) #[true, true, false, false, false, false, false, false, false, false, false, false] rfl rfl (by kernel_rfl) (fun _ _ _ h => h) (Or.inl ⟨by rfl, ?_⟩) ?_ ?_
        rotate_left
        · intro w'
          go_simp
          with_reducible rfl
        rotate_left
        · simp only [Act.put, List.setIfInBounds_toArray, List.set_cons_zero, List.set_cons_succ, i64_w, i32_w]
          rfl
        refine pure_ (i := 2) (N := some 50) (v := ?_) (a' := ?_) #[true, true, true, false, false, false, false, false, false, false, false, false] rfl rfl (by kernel_rfl) (fun _ _ _ h => h) (Or.inl ⟨by rfl, ?_⟩) ?_ ?_
        rotate_left
        · intro w'
          go_simp
          with_reducible rfl
        rotate_left
        · simp only [Act.put, List.setIfInBounds_toArray, List.set_cons_zero, List.set_cons_succ, i64_w, i32_w]
          rfl
        refine pure_ (i := 4) (N := some 52) (v := ?_) (a' := ?_) #[true, true, true, false, true, false, false, false, false, false, false, false] rfl rfl (by kernel_rfl) (fun _ _ _ h => h) (Or.inl ⟨by rfl, ?_⟩) ?_ ?_
        rotate_left
        · intro w'
          go_simp
          with_reducible rfl
        rotate_left
        · simp only [Act.put, List.setIfInBounds_toArray, List.set_cons_zero, List.set_cons_succ, i64_w, i32_w]
          rfl
        refine pure_ (i := 5) (N := some 53) (v := ?_) (a' := ?_) #[true, true, true, false, true, true, false, false, false, false, false, false] rfl rfl (by kernel_rfl) (fun _ _ _ h => h) (Or.inl ⟨by rfl, ?_⟩) ?_ ?_
        rotate_left
        · intro w'
          go_simp
          with_reducible rfl
        rotate_left
        · simp only [Act.put, List.setIfInBounds_toArray, List.set_cons_zero, List.set_cons_succ, i64_w, i32_w]
          rfl
        refine pure_ (i := 6) (N := some 54) (v := ?_) (a' := ?_) #[true, true, true, false, true, true, true, false, false, false, false, false] rfl rfl (by kernel_rfl) (fun _ _ _ h => h) (Or.inl ⟨by rfl, ?_⟩) ?_ ?_
        rotate_left
        · intro w'
          go_simp
          with_reducible rfl
        rotate_left
        · simp only [Act.put, List.setIfInBounds_toArray, List.set_cons_zero, List.set_cons_succ, i64_w, i32_w]
          rfl
        refine pure_ (i := 7) (N := some 55) (v := ?_) (a' := ?_) #[true, true, true, false, true, true, true, true, false, false, false, false] rfl rfl (by kernel_rfl) (fun _ _ _ h => h) (Or.inl ⟨by rfl, ?_⟩) ?_ ?_
        rotate_left
        · intro w'
          go_simp
          with_reducible rfl
        rotate_left
        · simp only [Act.put, List.setIfInBounds_toArray, List.set_cons_zero, List.set_cons_succ, i64_w, i32_w]
          rfl
        refine take_ (i := 3) (N := some 51) (v := ?_) (a' := ?_) #[true, true, true, true, true, true, true, true, false, false, false, false] rfl rfl (by kernel_rfl) (fun _ _ _ h => h) (Or.inl ⟨by rfl, ?_⟩) hHeld ?_ ?_
        rotate_left
        · rintro w' ⟨s0, s1⟩
          go_simp
          with_reducible rfl
        rotate_left
        · simp only [Act.put, List.setIfInBounds_toArray, List.set_cons_zero, List.set_cons_succ, i64_w, i32_w]
          rfl
        refine take_ (i := 8) (N := some 56) (v := ?_) (a' := ?_) #[true, true, true, true, true, true, true, true, true, false, false, false] rfl rfl (by kernel_rfl) (fun _ _ _ h => h) (Or.inl ⟨by rfl, ?_⟩) hHeld ?_ ?_
        rotate_left
        · rintro w' ⟨s0, s1⟩
          go_simp
          with_reducible rfl
        rotate_left
        · simp only [Act.put, List.setIfInBounds_toArray, List.set_cons_zero, List.set_cons_succ, i64_w, i32_w]
          rfl
        refine pure_ (i := 9) (N := some 57) (v := ?_) (a' := ?_) #[true, true, true, true, true, true, true, true, true, true, false, false] rfl rfl (by kernel_rfl) (fun _ _ _ h => h) (Or.inl ⟨by rfl, ?_⟩) ?_ ?_
        rotate_left
        · intro w'
          go_simp
          with_reducible rfl
        rotate_left
        · simp only [Act.put, List.setIfInBounds_toArray, List.set_cons_zero, List.set_cons_succ, i64_w, i32_w]
          rfl
        refine one_ (i := 10) (N := some 12) #[true, true, true, true, true, true, true, true, true, true, true, false] rfl rfl (by kernel_rfl) (by decide) (fun K hK => ?_)
        refine value_ (w1 := ?_) (v := ?_) (by rfl) rfl ?_ ?_
        rotate_left 2
        · go_simp
          constructor
          · rfl
          · rfl
        have HB12 := Aside0.mk (below_alloc (Below.refl W1.heap.size W1) (.cells #[.int .i64 0, .string ⟨#[]⟩, .string ⟨#[]⟩, .slice none 0 0] 27 (0, 0)))
        have CB12 := Aside0.mk (blk_new W1 (.cells #[.int .i64 0, .string ⟨#[]⟩, .string ⟨#[]⟩, .slice none 0 0] 27 (0, 0)))
        have G12 := Aside0.mk (blk_lt HX.out.c9)
        have v5_ := pw_cell_below HB12.out v51
        have hx1_ := pw_cell_below HB12.out hx1
        clear hHeld hx1 v51
        generalize W1.alloc (.cells #[.int .i64 0, .string ⟨#[]⟩, .string ⟨#[]⟩, .slice none 0 0] 27 (0, 0)) = W2 at *
        generalize hg12 : W1.heap.size = g12 at *
        have HG12 := Aside0.mk hg12
        clear hg12
        have v51 := v5_
        have hx1 := hx1_
        clear v5_ hx1_
        have v120 : W2.cell? ⟨g12, 0, none⟩ = some (.int .i64 0) := (blk_cell CB12.out 0).trans rfl
        have v121 : W2.cell? ⟨g12, 1, none⟩ = some (.string ⟨#[]⟩) := (blk_cell CB12.out 1).trans rfl
        have v122 : W2.cell? ⟨g12, 2, none⟩ = some (.string ⟨#[]⟩) := (blk_cell CB12.out 2).trans rfl
        have v123 : W2.cell? ⟨g12, 3, none⟩ = some (.slice none 0 0) := (blk_cell CB12.out 3).trans rfl
        have f120 := blk_frozen CB12.out 0
        have f121 := blk_frozen CB12.out 1
        have f122 := blk_frozen CB12.out 2
        have f123 := blk_frozen CB12.out 3
        refine hK.out _ _ ⟨v51, hx1⟩ (fun hHeld => ?_)
        clear hK K
        refine norm_ (a' := ?_) ?_ ?_
        rotate_left
        · show Act.put _ (some 12) _ = _
          simp only [Act.put, List.setIfInBounds_toArray, List.set_cons_zero, List.set_cons_succ, i64_w, i32_w]
          rfl
        refine last_ (i := 11) (N := none) #[true, true, true, true, true, true, true, true, true, true, true, true] rfl rfl (by kernel_rfl) (by decide) (fun K hK => ?_)
        refine skip_ (w1 := ?_) (by rfl) rfl ?_ ?_
        rotate_left
        · go_simp
          rfl
        refine hK.out _ _ ?_
        clear hK K
        refine done_ (by kernel_rfl) ?_

        have HBV : Aside0 (Below W1.heap.size W1 W2) := ⟨by rw [HG12.out]; exact HB12.out⟩
        have HBW : Aside0 (Below W1.heap.size W1 (((((W2).setCell ⟨g12, 0, none⟩ (.int .i64 1)).setCell ⟨g12, 1, none⟩ (.string ⟨#[98]⟩)).setCell ⟨g12, 2, none⟩ (.string ⟨#[]⟩)).setCell ⟨g12, 3, none⟩ (.slice A2 x.f1.length c2))) := ⟨below_set (below_set (below_set (below_set HBV.out (Nat.le_of_eq HG12.out)) (Nat.le_of_eq HG12.out)) (Nat.le_of_eq HG12.out)) (Nat.le_of_eq HG12.out)⟩
        have HX_ := Aside0.mk (HX.out.step HBW.out)
        have CB12_ := Aside0.mk (blk_put (cs' := #[.int .i64 1, .string ⟨#[98]⟩, .string ⟨#[]⟩, .slice A2 x.f1.length c2]) (blk_put (cs' := #[.int .i64 1, .string ⟨#[98]⟩, .string ⟨#[]⟩, .slice none 0 0]) (blk_put (cs' := #[.int .i64 1, .string ⟨#[98]⟩, .string ⟨#[]⟩, .slice none 0 0]) (blk_put (cs' := #[.int .i64 1, .string ⟨#[]⟩, .string ⟨#[]⟩, .slice none 0 0]) CB12.out 0 (.int .i64 1) rfl) 1 (.string ⟨#[98]⟩) rfl) 2 (.string ⟨#[]⟩) rfl) 3 (.slice A2 x.f1.length c2) rfl)
        have HV12_ := Aside0.mk (Kd.V_mono (Kd.V_bound HX.out.hV) (ok' := fun k => (k ≠ g6 ∧ k ≠ g8 ∧ k ≠ g9) ∧ k ≠ g12) (fun k hk => ⟨hk.1, by have := HG12.out; have := hk.2; omega⟩))
        have HV12 := Aside0.mk (Kd.V_below HV12_.out HBW.out)
        clear HV12_
        clear HX CB12 HB12 HBV HBW HG12 hHeld hx1 v51 v120 v121 v122 v123 f120 f121 f122 f123
        generalize ((((W2).setCell ⟨g12, 0, none⟩ (.int .i64 1)).setCell ⟨g12, 1, none⟩ (.string ⟨#[98]⟩)).setCell ⟨g12, 2, none⟩ (.string ⟨#[]⟩)).setCell ⟨g12, 3, none⟩ (.slice A2 x.f1.length c2) = W3 at *
        have HX := HX_
        have CB12 := CB12_
        clear HX_ CB12_
        obtain ⟨v50, v51, v60, v61, f60, f61, v80, v81, f80, f81, v90, v91, f90, f91⟩ := HX.out.vis
        have v120 : W3.cell? ⟨g12, 0, none⟩ = some (.int .i64 1) := (blk_cell CB12.out 0).trans rfl
        have v121 : W3.cell? ⟨g12, 1, none⟩ = some (.string ⟨#[98]⟩) := (blk_cell CB12.out 1).trans rfl
        have v122 : W3.cell? ⟨g12, 2, none⟩ = some (.string ⟨#[]⟩) := (blk_cell CB12.out 2).trans rfl
        have v123 : W3.cell? ⟨g12, 3, none⟩ = some (.slice A2 x.f1.length c2) := (blk_cell CB12.out 3).trans rfl
        have f120 := blk_frozen CB12.out 0
        have f121 := blk_frozen CB12.out 1
        have f122 := blk_frozen CB12.out 2
        have f123 := blk_frozen CB12.out 3
        go_upto_region 15 with (first
          | fail)
        have HX_ := Aside0.mk (HX.out.far HV12.out G12.out (.int .i64 2) (.string ⟨#[98]⟩) (.string ⟨#[]⟩) (.slice none 0 0))
        have CB12_ := Aside0.mk (blk_put (cs' := #[.int .i64 2, .string ⟨#[98]⟩, .string ⟨#[]⟩, .slice none 0 0]) (blk_put (cs' := #[.int .i64 2, .string ⟨#[98]⟩, .string ⟨#[]⟩, .slice A2 x.f1.length c2]) (blk_put (cs' := #[.int .i64 2, .string ⟨#[98]⟩, .string ⟨#[]⟩, .slice A2 x.f1.length c2]) (blk_put (cs' := #[.int .i64 2, .string ⟨#[98]⟩, .string ⟨#[]⟩, .slice A2 x.f1.length c2]) CB12.out 0 (.int .i64 2) rfl) 1 (.string ⟨#[98]⟩) rfl) 2 (.string ⟨#[]⟩) rfl) 3 (.slice none 0 0) rfl)
        clear HX CB12 HV12 v50 v51 v60 v61 f60 f61 v80 v81 f80 f81 v90 v91 f90 f91 v120 v121 v122 v123 f120 f121 f122 f123
        generalize ((((W3).setCell ⟨g12, 0, none⟩ (.int .i64 2)).setCell ⟨g12, 1, none⟩ (.string ⟨#[98]⟩)).setCell ⟨g12, 2, none⟩ (.string ⟨#[]⟩)).setCell ⟨g12, 3, none⟩ (.slice none 0 0) = W4 at *
        have HX := HX_
        have CB12 := CB12_
        clear HX_ CB12_
        obtain ⟨v50, v51, v60, v61, f60, f61, v80, v81, f80, f81, v90, v91, f90, f91⟩ := HX.out.vis
        have v120 : W4.cell? ⟨g12, 0, none⟩ = some (.int .i64 2) := (blk_cell CB12.out 0).trans rfl
        have v121 : W4.cell? ⟨g12, 1, none⟩ = some (.string ⟨#[98]⟩) := (blk_cell CB12.out 1).trans rfl
        have v122 : W4.cell? ⟨g12, 2, none⟩ = some (.string ⟨#[]⟩) := (blk_cell CB12.out 2).trans rfl
        have v123 : W4.cell? ⟨g12, 3, none⟩ = some (.slice none 0 0) := (blk_cell CB12.out 3).trans rfl
        have f120 := blk_frozen CB12.out 0
        have f121 := blk_frozen CB12.out 1
        have f122 := blk_frozen CB12.out 2
        have f123 := blk_frozen CB12.out 3
        rcases si_sync HI.out true with ⟨he, hd⟩ | ⟨L2, hd, hi2⟩
        · have hd : doR 4096 L 2 ⟨#[98]⟩ ⟨#[]⟩ [] = (0, [], 8) := hd
          obtain rfl : a1 = ⟨#[]⟩ := he
          have HDO := Aside0.mk (show store_Do.f 4096 L 2 ⟨#[98]⟩ ⟨#[]⟩ [] = some (0, [], 8) by unfold store_Do.f; rw [if_pos ⟨(reach_of HI.out.1).small, Nat.zero_le _⟩]; exact congrArg some hd)
          clear hd
          go_upto_region 16 with (first
            | (go_at_call 12; (with_reducible refine (do_none A c L 2 ⟨#[98]⟩ ⟨#[]⟩ 0 [] 8 _ HX.out.reads HX.out.room HDO.out).mono ?_); rintro e w4 ⟨v4, rfl, hV, hb⟩; obtain ⟨Ax, cx, rfl⟩ := Kd.V_slice hV; have G4 := Aside0.mk (blk_lt HX.out.c9); have HVX := Aside0.mk (Kd.V_lower (Kd.V_mono hV (ok' := fun k => g9 < k) (fun k hk => by have := G4.out; omega)) (Nat.zero_le _)); have HX_ := Aside0.mk (HX.out.step hb); clear HX hV hb G4 CB12 v50 v51 v60 v61 f60 f61 v80 v81 f80 f81 v90 v91 f90 f91 v120 v121 v122 v123 f120 f121 f122 f123; have HX := HX_; clear HX_)
            | ((with_reducible refine gate_dst (N := 13) rfl ?_); refine box_event ?hg (N := 13) ?hd (cs := #[.int .i64 0, .slice none 0 0]) (t := 24) ?hr ?_; (case hd => rfl); (case hg => rfl); (case hr => first | (go_simp; done) | (go_simp; rfl)); intro g13 hg13 w5 hbox hb; have CB13 := Aside0.mk hbox; have HG13 := Aside0.mk hg13; have HA13 := Aside0.mk hb; clear hbox hg13 hb; have v130 : w5.cell? ⟨g13, 0, none⟩ = some (.int .i64 0) := (blk_cell CB13.out 0).trans rfl; have v131 : w5.cell? ⟨g13, 1, none⟩ = some (.slice none 0 0) := (blk_cell CB13.out 1).trans rfl; have f130 := blk_frozen CB13.out 0; have f131 := blk_frozen CB13.out 1))
          have HBx := Aside0.mk (below_set (g := g13) (j := 1) (v := .slice Ax 0 cx) (below_set (g := g13) (j := 0) (v := .int .i64 0) HA13.out (Nat.le_of_eq HG13.out.symm)) (Nat.le_of_eq HG13.out.symm))
          have HX_ := Aside0.mk (HX.out.step HBx.out)
          have HVX_ := Aside0.mk (Kd.V_below HVX.out HBx.out)
          have CB13_ := Aside0.mk (blk_put (cs' := #[.int .i64 0, .slice Ax 0 cx]) (blk_put (cs' := #[.int .i64 0, .slice none 0 0]) CB13.out 0 (.int .i64 0) rfl) 1 (.slice Ax 0 cx) rfl)
          clear HX HVX CB13 HG13 HA13 HBx v130 v131 f130 f131
          generalize (w5.setCell ⟨g13, 0, none⟩ (.int .i64 0)).setCell ⟨g13, 1, none⟩ (.slice Ax 0 cx) = W5 at *
          have HX := HX_
          have HVX := HVX_
          have CB13 := CB13_
          clear HX_ HVX_ CB13_
          obtain ⟨v50, v51, v60, v61, f60, f61, v80, v81, f80, f81, v90, v91, f90, f91⟩ := HX.out.vis
          have v130 : W5.cell? ⟨g13, 0, none⟩ = some (.int .i64 0) := (blk_cell CB13.out 0).trans rfl
          have v131 : W5.cell? ⟨g13, 1, none⟩ = some (.slice Ax 0 cx) := (blk_cell CB13.out 1).trans rfl
          clear HVX CB13 v130 v131
          go_wp2
          go_roundw
          · exact ⟨i + 1, A, c, L, a0, ⟨#[]⟩, s0, s1, rfl, cs, HI, HX⟩
          · show l0.length - (((i + 1 : Nat) : Int)).toNat < l0.length - (i : Int).toNat
            omega
        · have HDO := Aside0.mk (show store_Do.f 4096 L 2 ⟨#[98]⟩ ⟨#[]⟩ [] = some (4096, L2, 0) by unfold store_Do.f; rw [if_pos ⟨(reach_of HI.out.1).small, Nat.zero_le _⟩]; exact congrArg some hd)
          clear hd
          have HI2 := Aside0.mk hi2
          clear hi2
          go_upto_region 16 with (first
            | (go_at_call 12; (with_reducible refine (do_none A c L 2 ⟨#[98]⟩ ⟨#[]⟩ 4096 L2 0 _ HX.out.reads HX.out.room HDO.out).mono ?_); rintro e w4 ⟨v4, rfl, hV, hb⟩; obtain ⟨Ax, cx, rfl⟩ := Kd.V_slice hV; have G4 := Aside0.mk (blk_lt HX.out.c9); have HVX := Aside0.mk (Kd.V_lower (Kd.V_mono hV (ok' := fun k => g9 < k) (fun k hk => by have := G4.out; omega)) (Nat.zero_le _)); have HX_ := Aside0.mk (HX.out.step hb); clear HX hV hb G4 CB12 v50 v51 v60 v61 f60 f61 v80 v81 f80 f81 v90 v91 f90 f91 v120 v121 v122 v123 f120 f121 f122 f123; have HX := HX_; clear HX_)
            | ((with_reducible refine gate_dst (N := 13) rfl ?_); refine box_event ?hg (N := 13) ?hd (cs := #[.int .i64 0, .slice none 0 0]) (t := 24) ?hr ?_; (case hd => rfl); (case hg => rfl); (case hr => first | (go_simp; done) | (go_simp; rfl)); intro g13 hg13 w5 hbox hb; have CB13 := Aside0.mk hbox; have HG13 := Aside0.mk hg13; have HA13 := Aside0.mk hb; clear hbox hg13 hb; have v130 : w5.cell? ⟨g13, 0, none⟩ = some (.int .i64 0) := (blk_cell CB13.out 0).trans rfl; have v131 : w5.cell? ⟨g13, 1, none⟩ = some (.slice none 0 0) := (blk_cell CB13.out 1).trans rfl; have f130 := blk_frozen CB13.out 0; have f131 := blk_frozen CB13.out 1))
          have HBx := Aside0.mk (below_set (g := g13) (j := 1) (v := .slice Ax L2.length cx) (below_set (g := g13) (j := 0) (v := .int .i64 4096) HA13.out (Nat.le_of_eq HG13.out.symm)) (Nat.le_of_eq HG13.out.symm))
          have HX_ := Aside0.mk (HX.out.step HBx.out)
          have HVX_ := Aside0.mk (Kd.V_below HVX.out HBx.out)
          have CB13_ := Aside0.mk (blk_put (cs' := #[.int .i64 4096, .slice Ax L2.length cx]) (blk_put (cs' := #[.int .i64 4096, .slice none 0 0]) CB13.out 0 (.int .i64 4096) rfl) 1 (.slice Ax L2.length cx) rfl)
          clear HX HVX CB13 HG13 HA13 HBx v130 v131 f130 f131
          generalize (w5.setCell ⟨g13, 0, none⟩ (.int .i64 4096)).setCell ⟨g13, 1, none⟩ (.slice Ax L2.length cx) = W5 at *
          have HX := HX_
          have HVX := HVX_
          have CB13 := CB13_
          clear HX_ HVX_ CB13_
          obtain ⟨v50, v51, v60, v61, f60, f61, v80, v81, f80, f81, v90, v91, f90, f91⟩ := HX.out.vis
          have v130 : W5.cell? ⟨g13, 0, none⟩ = some (.int .i64 4096) := (blk_cell CB13.out 0).trans rfl
          have v131 : W5.cell? ⟨g13, 1, none⟩ = some (.slice Ax L2.length cx) := (blk_cell CB13.out 1).trans rfl
          go_upto_region 28 with (first
            | fail)
          have HX_ := Aside0.mk (HX.out.new HVX.out)
          clear HX HVX CB13 v130 v131 v50 v51 v60 v61 f60 f61 v80 v81 f80 f81 v90 v91 f90 f91
          generalize (W5.setCell ⟨g6, 0, none⟩ (.int .i64 4096)).setCell ⟨g6, 1, none⟩ (.slice Ax L2.length cx) = W6 at *
          have HX := HX_
          clear HX_
          obtain ⟨v50, v51, v60, v61, f60, f61, v80, v81, f80, f81, v90, v91, f90, f91⟩ := HX.out.vis
          have hx1 := (HX.out.B.cell (World.block_lt_of_cell? w _ HX1W.out)).trans HX1W.out
          go_wp2
          have HX_ := Aside0.mk (HX.out.put9 1 a1 s0 a1 rfl)
          go_roundw
          · exact ⟨i + 1, Ax, cx, L2, a0, a1, s0, a1, rfl, cs, HI2, HX_⟩
          · show l0.length - (((i + 1 : Nat) : Int)).toNat < l0.length - (i : Int).toNat
            omega
    · obtain rfl : i = l0.length := by omega
      have csd : decide ((l0.length : Int) < (l0.length : Int)) = false := decide_eq_false (Int.lt_irrefl _)
      obtain ⟨v50, v51, v60, v61, f60, f61, v80, v81, f80, f81, v90, v91, f90, f91⟩ := HX.out.vis
      obtain ⟨M, hM⟩ : ∃ M, M = L.map (crashF l1) := ⟨_, rfl⟩
      have HCR := Aside0.mk (show store_Crash.f 4096 L l1 = some (4096, M, 0) by unfold store_Crash.f; rw [if_pos ⟨(reach_of HI.out.1).small, HS.out.2⟩, if_pos HI.out.1, hM])
      have HRM := Aside0.mk (show ∀ (n : ByteArray) (b : List Int) (e : Int), RR 4096 (L.map (crashF l1)) n = (b, e) → store_Read.f (3 * M.length + 3) 4096 M n = some (b, e) by intro n b e h; rw [hM, own_read _ _ _ (reach_of (crash_formed l1 HI.out.1)), h])
      clear hM
      go_upto_region 30 with (first
        | (go_at_call 17; (with_reducible refine (store_Crash.calls 4096 A c L A1 c1 l1 4096 M 0 _ HX.out.reads HX.out.room (Kd.C_below HR1.out HX.out.B) HC1.out HCR.out).mono ?_); rintro e w4 ⟨v4, rfl, hV, hb⟩; obtain ⟨Ay, cy, rfl⟩ := Kd.V_slice hV; have HCM := Aside0.mk (Kd.V_reads' hV).2.2; have HLM := Aside0.mk (Kd.V_reads' hV).2.1; have HX_ := Aside0.mk (HX.out.step hb); clear HX hV hb v50 v51 v60 v61 f60 f61 v80 v81 f80 f81 v90 v91 f90 f91; have HX := HX_; clear HX_)
        | ((with_reducible refine gate_dst (N := 15) rfl ?_); refine box_event ?hg (N := 15) ?hd (cs := #[.int .i64 0, .slice none 0 0]) (t := 24) ?hr ?_; (case hd => rfl); (case hg => rfl); (case hr => first | (go_simp; done) | (go_simp; rfl)); intro g15 hg15 w5 hbox hb; have CB15 := Aside0.mk hbox; have HG15 := Aside0.mk hg15; have HA15 := Aside0.mk hb; clear hbox hg15 hb; have v150 : w5.cell? ⟨g15, 0, none⟩ = some (.int .i64 0) := (blk_cell CB15.out 0).trans rfl; have v151 : w5.cell? ⟨g15, 1, none⟩ = some (.slice none 0 0) := (blk_cell CB15.out 1).trans rfl; have f150 := blk_frozen CB15.out 0; have f151 := blk_frozen CB15.out 1))
      have HBx := Aside0.mk (below_set (g := g15) (j := 1) (v := .slice Ay M.length cy) (below_set (g := g15) (j := 0) (v := .int .i64 4096) HA15.out (Nat.le_of_eq HG15.out.symm)) (Nat.le_of_eq HG15.out.symm))
      have HX_ := Aside0.mk (HX.out.step HBx.out)
      have HCM_ := Aside0.mk (Kd.C_below HCM.out HBx.out)
      have CB15_ := Aside0.mk (blk_put (cs' := #[.int .i64 4096, .slice Ay M.length cy]) (blk_put (cs' := #[.int .i64 4096, .slice none 0 0]) CB15.out 0 (.int .i64 4096) rfl) 1 (.slice Ay M.length cy) rfl)
      clear HX HCM CB15 HG15 HA15 HBx v150 v151 f150 f151
      generalize (w5.setCell ⟨g15, 0, none⟩ (.int .i64 4096)).setCell ⟨g15, 1, none⟩ (.slice Ay M.length cy) = W5 at *
      have HX := HX_
      have HCM := HCM_
      have CB15 := CB15_
      clear HX_ HCM_ CB15_
      go_wp2
      go_loopw [17] (fun v17 w' => ∃ j : Nat, v17 = .int .i64 j ∧ j ≤ 2 ∧ Aside0 (QX w w' g5 g6 g8 g9 A c L a0 a1 s0 s1) ∧ Aside0 (w'.heap[g15]? = some (.cells #[.int .i64 4096, .slice Ay M.length cy] 24 (0, 0))) ∧ Aside0 (Kd.C k61 w' Ay M.length M)) (fun v17 _ => 2 - (intOf v17).toNat)
      case atStart => exact ⟨0, rfl, Nat.zero_le _, HX, CB15, HCM⟩
      case round =>
        clear HX CB15 HCM csd
        obtain ⟨j, rfl, hj, HX, CB15, HCM⟩ := hrel
        obtain ⟨v50, v51, v60, v61, f60, f61, v80, v81, f80, f81, v90, v91, f90, f91⟩ := HX.out.vis
        have v150 : wr.cell? ⟨g15, 0, none⟩ = some (.int .i64 4096) := (blk_cell CB15.out 0).trans rfl
        have v151 : wr.cell? ⟨g15, 1, none⟩ = some (.slice Ay M.length cy) := (blk_cell CB15.out 1).trans rfl
        rcases (show j = 0 ∨ j = 1 ∨ j = 2 by omega) with rfl | rfl | rfl
        · go_upto_region 35 with (first
            | fail)
          rcases fi_end HI.out.1 nmA l1 HI.out.2.2.1 with ⟨b, hrr, h1, h2, h3⟩ | ⟨hrr, he⟩
          · have HRD := Aside0.mk (show store_Read.f (3 * M.length + 3) 4096 M ⟨#[97]⟩ = some (b, 0) from HRM.out _ _ _ hrr)
            clear hrr
            have hsz : (strOfNums b).size = b.length := str_size b
            have hd1 : decide ((b.length : Int) < (s0.size : Int)) = false := decide_eq_false (by omega)
            have hd2 : decide ((a0.size : Int) < (b.length : Int)) = false := decide_eq_false (by omega)
            have hb0 : ((b.length : Int) ≤ (a0.size : Int)) = True := eq_true (by omega)
            have hb1 : (b.length ≤ a0.size) = True := eq_true h2
            have hn1 : (s0.size ≤ b.length) = True := eq_true h1
            have hn2 : (b.length < s0.size) = False := eq_false (by omega)
            have hn3 : (a0.size < b.length) = False := eq_false (by omega)
            clear h1 h2
            have HX_ := Aside0.mk HX.out.drew
            have CB15_ := Aside0.mk (blk_drew CB15.out)
            have HCM_ := Aside0.mk (Kd.C_drew HCM.out)
            have v150_ : wr.drew.cell? ⟨g15, 0, none⟩ = some (.int .i64 4096) := v150
            have v151_ : wr.drew.cell? ⟨g15, 1, none⟩ = some (.slice Ay M.length cy) := v151
            have v5_ : wr.drew.cell? ⟨g5, 0, none⟩ = some (.string ⟨#[97]⟩) := v50
            clear HX CB15 HCM v150 v151 v50 v51 v60 v61 f60 f61 v80 v81 f80 f81 v90 v91 f90 f91
            have HX := HX_
            have CB15 := CB15_
            have HCM := HCM_
            have v150 := v150_
            have v151 := v151_
            have v50 := v5_
            clear HX_ CB15_ HCM_ v150_ v151_ v5_
            refine start_ (n := 10) (S := fun w' => w'.cell? ⟨g15, 0, none⟩ = some (.int .i64 4096) ∧ w'.cell? ⟨g15, 1, none⟩ = some (.slice Ay M.length cy) ∧ w'.cell? ⟨g5, 0, none⟩ = some (.string ⟨#[97]⟩)) (ds := []) #[false, false, false, false, false, false, false, false, false, false] (by kernel_rfl) rfl rfl ⟨v150, v151, v50⟩ (fun hHeld => ?_)
            generalize wr.drew = W7 at *
            refine pure_ (i := 1) (N := some 137) (v := ?_) (a' := ?_) #[false, true, false, false, false, false, false, false, false, false] rfl rfl (by kernel_rfl) (fun _ _ _ h => h) (Or.inl ⟨by rfl, ?_⟩) ?_ ?_
            rotate_left
            · intro w'
              go_simp
              with_reducible rfl
            rotate_left
            · simp only [Act.put, List.setIfInBounds_toArray, List.set_cons_zero, List.set_cons_succ, i64_w, i32_w]
              rfl
            refine pure_ (i := 2) (N := some 138) (v := ?_) (a' := ?_) #[false, true, true, false, false, false, false, false, false, false] rfl rfl (by kernel_rfl) (fun _ _ _ h => h) (Or.inl ⟨by rfl, ?_⟩) ?_ ?_
            rotate_left
            · intro w'
              go_simp
              with_reducible rfl
            rotate_left
            · simp only [Act.put, List.setIfInBounds_toArray, List.set_cons_zero, List.set_cons_succ, i64_w, i32_w]
              rfl
            refine take_ (i := 0) (N := some 136) (v := ?_) (a' := ?_) #[true, true, true, false, false, false, false, false, false, false] rfl rfl (by kernel_rfl) (fun _ _ _ h => h) (Or.inl ⟨by rfl, ?_⟩) hHeld ?_ ?_
            rotate_left
            · rintro w' ⟨s0, s1, s2⟩
              go_simp
              with_reducible rfl
            rotate_left
            · simp only [Act.put, List.setIfInBounds_toArray, List.set_cons_zero, List.set_cons_succ, i64_w, i32_w]
              rfl
            refine take_ (i := 3) (N := some 139) (v := ?_) (a' := ?_) #[true, true, true, true, false, false, false, false, false, false] rfl rfl (by kernel_rfl) (fun _ _ _ h => h) (Or.inl ⟨by rfl, ?_⟩) hHeld ?_ ?_
            rotate_left
            · rintro w' ⟨s0, s1, s2⟩
              go_simp
              with_reducible rfl
            rotate_left
            · simp only [Act.put, List.setIfInBounds_toArray, List.set_cons_zero, List.set_cons_succ, i64_w, i32_w]
              rfl
            refine one_ (i := 4) (N := some 140) #[true, true, true, true, true, false, false, false, false, false] rfl rfl (by kernel_rfl) (by decide) (fun K hK => ?_)
            refine goes_ Try.func21 (by kernel_rfl) rfl #[.agg #[.int .i64 4096, .slice Ay M.length cy], .string ⟨#[97]⟩] (by rfl) rfl rfl (by simp only [List.map_toArray, List.map_cons, List.map_nil]; rfl) ?_
            with_reducible refine (store_Read.calls _ 4096 Ay cy M ⟨#[97]⟩ b 0 _ HCM.out HLM.out HRD.out).mono ?_
            rintro e w8 ⟨v8_, rfl, hR, hb⟩
            refine ⟨_, rfl, ?_⟩
            obtain ⟨Ab, cb, rfl⟩ := Kd.R_slice hR
            have HRB := Aside0.mk (Kd.R_reads' hR)
            have HB8 := Aside0.mk hb
            clear hb hR
            refine hK.out _ _ ⟨(pw_cell_below HB8.out v150), (pw_cell_below HB8.out v151), (pw_cell_below HB8.out v50)⟩ (fun hHeld => ?_)
            clear hK K
            refine norm_ (a' := ?_) ?_ ?_
            rotate_left
            · show Act.put _ (some 140) _ = _
              simp only [Act.put, List.setIfInBounds_toArray, List.set_cons_zero, List.set_cons_succ, i64_w, i32_w]
              rfl
            refine pure_ (i := 5) (N := some 135) (v := ?_) (a' := ?_) #[true, true, true, true, true, true, false, false, false, false] rfl rfl (by kernel_rfl) (fun _ _ _ h => h) (Or.inl ⟨by rfl, ?_⟩) ?_ ?_
            rotate_left
            · intro w'
              go_simp
              with_reducible rfl
            rotate_left
            · simp only [Act.put, List.setIfInBounds_toArray, List.set_cons_zero, List.set_cons_succ, i64_w, i32_w]
              rfl
            refine pure_ (i := 6) (N := some 141) (v := ?_) (a' := ?_) #[true, true, true, true, true, true, true, false, false, false] rfl rfl (by kernel_rfl) (fun _ _ _ h => h) (Or.inl ⟨by rfl, ?_⟩) ?_ ?_
            rotate_left
            · intro w'
              go_simp
              with_reducible rfl
            rotate_left
            · simp only [Act.put, List.setIfInBounds_toArray, List.set_cons_zero, List.set_cons_succ, i64_w, i32_w]
              rfl
            refine pure_ (i := 7) (N := some 142) (v := ?_) (a' := ?_) #[true, true, true, true, true, true, true, true, false, false] rfl rfl (by kernel_rfl) (fun _ _ _ h => h) (Or.inl ⟨by rfl, ?_⟩) ?_ ?_
            rotate_left
            · intro w'
              go_simp
              with_reducible rfl
            rotate_left
            · simp only [Act.put, List.setIfInBounds_toArray, List.set_cons_zero, List.set_cons_succ, i64_w, i32_w]
              rfl
            refine pure_ (i := 8) (N := some 18) (v := ?_) (a' := ?_) #[true, true, true, true, true, true, true, true, true, false] rfl rfl (by kernel_rfl) (fun _ _ _ h => h) (Or.inl ⟨by rfl, ?_⟩) ?_ ?_
            rotate_left
            · intro w'
              go_simp
              with_reducible rfl
            rotate_left
            · simp only [Act.put, List.setIfInBounds_toArray, List.set_cons_zero, List.set_cons_succ, i64_w, i32_w]
              rfl
            refine pure_ (i := 9) (N := some 19) (v := ?_) (a' := ?_) #[true, true, true, true, true, true, true, true, true, true] rfl rfl (by kernel_rfl) (fun _ _ _ h => h) (Or.inl ⟨by rfl, ?_⟩) ?_ ?_
            rotate_left
            · intro w'
              go_simp
              with_reducible rfl
            rotate_left
            · simp only [Act.put, List.setIfInBounds_toArray, List.set_cons_zero, List.set_cons_succ, i64_w, i32_w]
              rfl
            refine done_ (by kernel_rfl) ?_

            have HX_ := Aside0.mk (HX.out.step HB8.out)
            have CB15_ := Aside0.mk (blk_below CB15.out HB8.out)
            have HCM_ := Aside0.mk (Kd.C_below HCM.out HB8.out)
            clear HX CB15 HCM HB8 v150 v151 v50 hHeld
            have HX := HX_
            have CB15 := CB15_
            have HCM := HCM_
            clear HX_ CB15_ HCM_
            obtain ⟨v50, v51, v60, v61, f60, f61, v80, v81, f80, f81, v90, v91, f90, f91⟩ := HX.out.vis
            have hcv := Kd.C_string (P := Try.prog) (src := 25) (dst := 9) (e := 5) (c := cb) Try.underlying25 Try.underlying5 Try.underlying9 HRB.out.2.2
            go_wp2
            go_roundw
            · exact ⟨1, rfl, by decide, HX, CB15, HCM⟩
            · decide
          · have HRD := Aside0.mk (show store_Read.f (3 * M.length + 3) 4096 M ⟨#[97]⟩ = some ([], 8) from HRM.out _ _ _ hrr)
            clear hrr
            obtain rfl : a0 = ⟨#[]⟩ := he
            have HX_ := Aside0.mk HX.out.drew
            have CB15_ := Aside0.mk (blk_drew CB15.out)
            have HCM_ := Aside0.mk (Kd.C_drew HCM.out)
            have v150_ : wr.drew.cell? ⟨g15, 0, none⟩ = some (.int .i64 4096) := v150
            have v151_ : wr.drew.cell? ⟨g15, 1, none⟩ = some (.slice Ay M.length cy) := v151
            have v5_ : wr.drew.cell? ⟨g5, 0, none⟩ = some (.string ⟨#[97]⟩) := v50
            clear HX CB15 HCM v150 v151 v50 v51 v60 v61 f60 f61 v80 v81 f80 f81 v90 v91 f90 f91
            have HX := HX_
            have CB15 := CB15_
            have HCM := HCM_
            have v150 := v150_
            have v151 := v151_
            have v50 := v5_
            clear HX_ CB15_ HCM_ v150_ v151_ v5_
            refine start_ (n := 10) (S := fun w' => w'.cell? ⟨g15, 0, none⟩ = some (.int .i64 4096) ∧ w'.cell? ⟨g15, 1, none⟩ = some (.slice Ay M.length cy) ∧ w'.cell? ⟨g5, 0, none⟩ = some (.string ⟨#[97]⟩)) (ds := []) #[false, false, false, false, false, false, false, false, false, false] (by kernel_rfl) rfl rfl ⟨v150, v151, v50⟩ (fun hHeld => ?_)
            generalize wr.drew = W7 at *
            refine pure_ (i := 1) (N := some 137) (v := ?_) (a' := ?_) #[false, true, false, false, false, false, false, false, false, false] rfl rfl (by kernel_rfl) (fun _ _ _ h => h) (Or.inl ⟨by rfl, ?_⟩) ?_ ?_
            rotate_left
            · intro w'
              go_simp
              with_reducible rfl
            rotate_left
            · simp only [Act.put, List.setIfInBounds_toArray, List.set_cons_zero, List.set_cons_succ, i64_w, i32_w]
              rfl
            refine pure_ (i := 2) (N := some 138) (v := ?_) (a' := ?_) #[false, true, true, false, false, false, false, false, false, false] rfl rfl (by kernel_rfl) (fun _ _ _ h => h) (Or.inl ⟨by rfl, ?_⟩) ?_ ?_
            rotate_left
            · intro w'
              go_simp
              with_reducible rfl
            rotate_left
            · simp only [Act.put, List.setIfInBounds_toArray, List.set_cons_zero, List.set_cons_succ, i64_w, i32_w]
              rfl
            refine take_ (i := 0) (N := some 136) (v := ?_) (a' := ?_) #[true, true, true, false, false, false, false, false, false, false] rfl rfl (by kernel_rfl) (fun _ _ _ h => h) (Or.inl ⟨by rfl, ?_⟩) hHeld ?_ ?_
            rotate_left
            · rintro w' ⟨s0, s1, s2⟩
              go_simp
              with_reducible rfl
            rotate_left
            · simp only [Act.put, List.setIfInBounds_toArray, List.set_cons_zero, List.set_cons_succ, i64_w, i32_w]
              rfl
            refine take_ (i := 3) (N := some 139) (v := ?_) (a' := ?_) #[true, true, true, true, false, false, false, false, false, false] rfl rfl (by kernel_rfl) (fun _ _ _ h => h) (Or.inl ⟨by rfl, ?_⟩) hHeld ?_ ?_
            rotate_left
            · rintro w' ⟨s0, s1, s2⟩
              go_simp
              with_reducible rfl
            rotate_left
            · simp only [Act.put, List.setIfInBounds_toArray, List.set_cons_zero, List.set_cons_succ, i64_w, i32_w]
              rfl
            refine one_ (i := 4) (N := some 140) #[true, true, true, true, true, false, false, false, false, false] rfl rfl (by kernel_rfl) (by decide) (fun K hK => ?_)
            refine goes_ Try.func21 (by kernel_rfl) rfl #[.agg #[.int .i64 4096, .slice Ay M.length cy], .string ⟨#[97]⟩] (by rfl) rfl rfl (by simp only [List.map_toArray, List.map_cons, List.map_nil]; rfl) ?_
            with_reducible refine (store_Read.calls _ 4096 Ay cy M ⟨#[97]⟩ [] 8 _ HCM.out HLM.out HRD.out).mono ?_
            rintro e w8 ⟨v8_, rfl, hR, hb⟩
            refine ⟨_, rfl, ?_⟩
            obtain ⟨Ab, cb, rfl⟩ := Kd.R_slice hR
            have HRB := Aside0.mk (Kd.R_reads' hR)
            have HB8 := Aside0.mk hb
            clear hb hR
            refine hK.out _ _ ⟨(pw_cell_below HB8.out v150), (pw_cell_below HB8.out v151), (pw_cell_below HB8.out v50)⟩ (fun hHeld => ?_)
            clear hK K
            refine norm_ (a' := ?_) ?_ ?_
            rotate_left
            · show Act.put _ (some 140) _ = _
              simp only [Act.put, List.setIfInBounds_toArray, List.set_cons_zero, List.set_cons_succ, i64_w, i32_w]
              rfl
            refine pure_ (i := 5) (N := some 135) (v := ?_) (a' := ?_) #[true, true, true, true, true, true, false, false, false, false] rfl rfl (by kernel_rfl) (fun _ _ _ h => h) (Or.inl ⟨by rfl, ?_⟩) ?_ ?_
            rotate_left
            · intro w'
              go_simp
              with_reducible rfl
            rotate_left
            · simp only [Act.put, List.setIfInBounds_toArray, List.set_cons_zero, List.set_cons_succ, i64_w, i32_w]
              rfl
            refine pure_ (i := 6) (N := some 141) (v := ?_) (a' := ?_) #[true, true, true, true, true, true, true, false, false, false] rfl rfl (by kernel_rfl) (fun _ _ _ h => h) (Or.inl ⟨by rfl, ?_⟩) ?_ ?_
            rotate_left
            · intro w'
              go_simp
              with_reducible rfl
            rotate_left
            · simp only [Act.put, List.setIfInBounds_toArray, List.set_cons_zero, List.set_cons_succ, i64_w, i32_w]
              rfl
            refine pure_ (i := 7) (N := some 142) (v := ?_) (a' := ?_) #[true, true, true, true, true, true, true, true, false, false] rfl rfl (by kernel_rfl) (fun _ _ _ h => h) (Or.inl ⟨by rfl, ?_⟩) ?_ ?_
            rotate_left
            · intro w'
              go_simp
              with_reducible rfl
            rotate_left
            · simp only [Act.put, List.setIfInBounds_toArray, List.set_cons_zero, List.set_cons_succ, i64_w, i32_w]
              rfl
            refine pure_ (i := 8) (N := some 18) (v := ?_) (a' := ?_) #[true, true, true, true, true, true, true, true, true, false] rfl rfl (by kernel_rfl) (fun _ _ _ h => h) (Or.inl ⟨by rfl, ?_⟩) ?_ ?_
            rotate_left
            · intro w'
              go_simp
              with_reducible rfl
            rotate_left
            · simp only [Act.put, List.setIfInBounds_toArray, List.set_cons_zero, List.set_cons_succ, i64_w, i32_w]
              rfl
            refine pure_ (i := 9) (N := some 19) (v := ?_) (a' := ?_) #[true, true, true, true, true, true, true, true, true, true] rfl rfl (by kernel_rfl) (fun _ _ _ h => h) (Or.inl ⟨by rfl, ?_⟩) ?_ ?_
            rotate_left
            · intro w'
              go_simp
              with_reducible rfl
            rotate_left
            · simp only [Act.put, List.setIfInBounds_toArray, List.set_cons_zero, List.set_cons_succ, i64_w, i32_w]
              rfl
            refine done_ (by kernel_rfl) ?_

            have HX_ := Aside0.mk (HX.out.step HB8.out)
            have CB15_ := Aside0.mk (blk_below CB15.out HB8.out)
            have HCM_ := Aside0.mk (Kd.C_below HCM.out HB8.out)
            clear HX CB15 HCM HB8 v150 v151 v50 hHeld
            have HX := HX_
            have CB15 := CB15_
            have HCM := HCM_
            clear HX_ CB15_ HCM_
            obtain ⟨v50, v51, v60, v61, f60, f61, v80, v81, f80, f81, v90, v91, f90, f91⟩ := HX.out.vis
            go_wp2
            go_roundw
            · exact ⟨1, rfl, by decide, HX, CB15, HCM⟩
            · decide
        · go_upto_region 35 with (first
            | fail)
          rcases fi_end HI.out.1 nmB l1 HI.out.2.2.2 with ⟨b, hrr, h1, h2, h3⟩ | ⟨hrr, he⟩
          · have HRD := Aside0.mk (show store_Read.f (3 * M.length + 3) 4096 M ⟨#[98]⟩ = some (b, 0) from HRM.out _ _ _ hrr)
            clear hrr
            have hsz : (strOfNums b).size = b.length := str_size b
            have hd1 : decide ((b.length : Int) < (s1.size : Int)) = false := decide_eq_false (by omega)
            have hd2 : decide ((a1.size : Int) < (b.length : Int)) = false := decide_eq_false (by omega)
            have hb0 : ((b.length : Int) ≤ (a1.size : Int)) = True := eq_true (by omega)
            have hb1 : (b.length ≤ a1.size) = True := eq_true h2
            have hn1 : (s1.size ≤ b.length) = True := eq_true h1
            have hn2 : (b.length < s1.size) = False := eq_false (by omega)
            have hn3 : (a1.size < b.length) = False := eq_false (by omega)
            clear h1 h2
            have HX_ := Aside0.mk HX.out.drew
            have CB15_ := Aside0.mk (blk_drew CB15.out)
            have HCM_ := Aside0.mk (Kd.C_drew HCM.out)
            have v150_ : wr.drew.cell? ⟨g15, 0, none⟩ = some (.int .i64 4096) := v150
            have v151_ : wr.drew.cell? ⟨g15, 1, none⟩ = some (.slice Ay M.length cy) := v151
            have v5_ : wr.drew.cell? ⟨g5, 1, none⟩ = some (.string ⟨#[98]⟩) := v51
            clear HX CB15 HCM v150 v151 v50 v51 v60 v61 f60 f61 v80 v81 f80 f81 v90 v91 f90 f91
            have HX := HX_
            have CB15 := CB15_
            have HCM := HCM_
            have v150 := v150_
            have v151 := v151_
            have v51 := v5_
            clear HX_ CB15_ HCM_ v150_ v151_ v5_
            refine start_ (n := 10) (S := fun w' => w'.cell? ⟨g15, 0, none⟩ = some (.int .i64 4096) ∧ w'.cell? ⟨g15, 1, none⟩ = some (.slice Ay M.length cy) ∧ w'.cell? ⟨g5, 1, none⟩ = some (.string ⟨#[98]⟩)) (ds := []) #[false, false, false, false, false, false, false, false, false, false] (by kernel_rfl) rfl rfl ⟨v150, v151, v51⟩ (fun hHeld => ?_)
            generalize wr.drew = W7 at *
            refine pure_ (i := 1) (N := some 137) (v := ?_) (a' := ?_) #[false, true, false, false, false, false, false, false, false, false] rfl rfl (by kernel_rfl) (fun _ _ _ h => h) (Or.inl ⟨by rfl, ?_⟩) ?_ ?_
            rotate_left
            · intro w'
              go_simp
              with_reducible rfl
            rotate_left
            · simp only [Act.put, List.setIfInBounds_toArray, List.set_cons_zero, List.set_cons_succ, i64_w, i32_w]
              rfl
            refine pure_ (i := 2) (N := some 138) (v := ?_) (a' := ?_) #[false, true, true, false, false, false, false, false, false, false] rfl rfl (by kernel_rfl) (fun _ _ _ h => h) (Or.inl ⟨by rfl, ?_⟩) ?_ ?_
            rotate_left
            · intro w'
              go_simp
              with_reducible rfl
            rotate_left
            · simp only [Act.put, List.setIfInBounds_toArray, List.set_cons_zero, List.set_cons_succ, i64_w, i32_w]
              rfl
            refine take_ (i := 0) (N := some 136) (v := ?_) (a' := ?_) #[true, true, true, false, false, false, false, false, false, false] rfl rfl (by kernel_rfl) (fun _ _ _ h => h) (Or.inl ⟨by rfl, ?_⟩) hHeld ?_ ?_
            rotate_left
            · rintro w' ⟨s0, s1, s2⟩
              go_simp
              with_reducible rfl
            rotate_left
            · simp only [Act.put, List.setIfInBounds_toArray, List.set_cons_zero, List.set_cons_succ, i64_w, i32_w]
              rfl
            refine take_ (i := 3) (N := some 139) (v := ?_) (a' := ?_) #[true, true, true, true, false, false, false, false, false, false] rfl rfl (by kernel_rfl) (fun _ _ _ h => h) (Or.inl ⟨by rfl, ?_⟩) hHeld ?_ ?_
            rotate_left
            · rintro w' ⟨s0, s1, s2⟩
              go_simp
              with_reducible rfl
            rotate_left
            · simp only [Act.put, List.setIfInBounds_toArray, List.set_cons_zero, List.set_cons_succ, i64_w, i32_w]
              rfl
            refine one_ (i := 4) (N := some 140) #[true, true, true, true, true, false, false, false, false, false] rfl rfl (by kernel_rfl) (by decide) (fun K hK => ?_)
            refine goes_ Try.func21 (by kernel_rfl) rfl #[.agg #[.int .i64 4096, .slice Ay M.length cy], .string ⟨#[98]⟩] (by rfl) rfl rfl (by simp only [List.map_toArray, List.map_cons, List.map_nil]; rfl) ?_
            with_reducible refine (store_Read.calls _ 4096 Ay cy M ⟨#[98]⟩ b 0 _ HCM.out HLM.out HRD.out).mono ?_
            rintro e w8 ⟨v8_, rfl, hR, hb⟩
            refine ⟨_, rfl, ?_⟩
            obtain ⟨Ab, cb, rfl⟩ := Kd.R_slice hR
            have HRB := Aside0.mk (Kd.R_reads' hR)
            have HB8 := Aside0.mk hb
            clear hb hR
            refine hK.out _ _ ⟨(pw_cell_below HB8.out v150), (pw_cell_below HB8.out v151), (pw_cell_below HB8.out v51)⟩ (fun hHeld => ?_)
            clear hK K
            refine norm_ (a' := ?_) ?_ ?_
            rotate_left
            · show Act.put _ (some 140) _ = _
              simp only [Act.put, List.setIfInBounds_toArray, List.set_cons_zero, List.set_cons_succ, i64_w, i32_w]
              rfl
            refine pure_ (i := 5) (N := some 135) (v := ?_) (a' := ?_) #[true, true, true, true, true, true, false, false, false, false] rfl rfl (by kernel_rfl) (fun _ _ _ h => h) (Or.inl ⟨by rfl, ?_⟩) ?_ ?_
            rotate_left
            · intro w'
              go_simp
              with_reducible rfl
            rotate_left
            · simp only [Act.put, List.setIfInBounds_toArray, List.set_cons_zero, List.set_cons_succ, i64_w, i32_w]
              rfl
            refine pure_ (i := 6) (N := some 141) (v := ?_) (a' := ?_) #[true, true, true, true, true, true, true, false, false, false] rfl rfl (by kernel_rfl) (fun _ _ _ h => h) (Or.inl ⟨by rfl, ?_⟩) ?_ ?_
            rotate_left
            · intro w'
              go_simp
              with_reducible rfl
            rotate_left
            · simp only [Act.put, List.setIfInBounds_toArray, List.set_cons_zero, List.set_cons_succ, i64_w, i32_w]
              rfl
            refine pure_ (i := 7) (N := some 142) (v := ?_) (a' := ?_) #[true, true, true, true, true, true, true, true, false, false] rfl rfl (by kernel_rfl) (fun _ _ _ h => h) (Or.inl ⟨by rfl, ?_⟩) ?_ ?_
            rotate_left
            · intro w'
              go_simp
              with_reducible rfl
            rotate_left
            · simp only [Act.put, List.setIfInBounds_toArray, List.set_cons_zero, List.set_cons_succ, i64_w, i32_w]
              rfl
            refine pure_ (i := 8) (N := some 18) (v := ?_) (a' := ?_) #[true, true, true, true, true, true, true, true, true, false] rfl rfl (by kernel_rfl) (fun _ _ _ h => h) (Or.inl ⟨by rfl, ?_⟩) ?_ ?_
            rotate_left
            · intro w'
              go_simp
              with_reducible rfl
            rotate_left
            · simp only [Act.put, List.setIfInBounds_toArray, List.set_cons_zero, List.set_cons_succ, i64_w, i32_w]
              rfl
            refine pure_ (i := 9) (N := some 19) (v := ?_) (a' := ?_) #[true, true, true, true, true, true, true, true, true, true] rfl rfl (by kernel_rfl) (fun _ _ _ h => h) (Or.inl ⟨by rfl, ?_⟩) ?_ ?_
            rotate_left
            · intro w'
              go_simp
              with_reducible rfl
            rotate_left
            · simp only [Act.put, List.setIfInBounds_toArray, List.set_cons_zero, List.set_cons_succ, i64_w, i32_w]
              rfl
            refine done_ (by kernel_rfl) ?_

            have HX_ := Aside0.mk (HX.out.step HB8.out)
            have CB15_ := Aside0.mk (blk_below CB15.out HB8.out)
            have HCM_ := Aside0.mk (Kd.C_below HCM.out HB8.out)
            clear HX CB15 HCM HB8 v150 v151 v51 hHeld
            have HX := HX_
            have CB15 := CB15_
            have HCM := HCM_
            clear HX_ CB15_ HCM_
            obtain ⟨v50, v51, v60, v61, f60, f61, v80, v81, f80, f81, v90, v91, f90, f91⟩ := HX.out.vis
            have hcv := Kd.C_string (P := Try.prog) (src := 25) (dst := 9) (e := 5) (c := cb) Try.underlying25 Try.underlying5 Try.underlying9 HRB.out.2.2
            go_wp2
            go_roundw
            · exact ⟨2, rfl, by decide, HX, CB15, HCM⟩
            · decide
          · have HRD := Aside0.mk (show store_Read.f (3 * M.length + 3) 4096 M ⟨#[98]⟩ = some ([], 8) from HRM.out _ _ _ hrr)
            clear hrr
            obtain rfl : a1 = ⟨#[]⟩ := he
            have HX_ := Aside0.mk HX.out.drew
            have CB15_ := Aside0.mk (blk_drew CB15.out)
            have HCM_ := Aside0.mk (Kd.C_drew HCM.out)
            have v150_ : wr.drew.cell? ⟨g15, 0, none⟩ = some (.int .i64 4096) := v150
            have v151_ : wr.drew.cell? ⟨g15, 1, none⟩ = some (.slice Ay M.length cy) := v151
            have v5_ : wr.drew.cell? ⟨g5, 1, none⟩ = some (.string ⟨#[98]⟩) := v51
            clear HX CB15 HCM v150 v151 v50 v51 v60 v61 f60 f61 v80 v81 f80 f81 v90 v91 f90 f91
            have HX := HX_
            have CB15 := CB15_
            have HCM := HCM_
            have v150 := v150_
            have v151 := v151_
            have v51 := v5_
            clear HX_ CB15_ HCM_ v150_ v151_ v5_
            refine start_ (n := 10) (S := fun w' => w'.cell? ⟨g15, 0, none⟩ = some (.int .i64 4096) ∧ w'.cell? ⟨g15, 1, none⟩ = some (.slice Ay M.length cy) ∧ w'.cell? ⟨g5, 1, none⟩ = some (.string ⟨#[98]⟩)) (ds := []) #[false, false, false, false, false, false, false, false, false, false] (by kernel_rfl) rfl rfl ⟨v150, v151, v51⟩ (fun hHeld => ?_)
            generalize wr.drew = W7 at *
            refine pure_ (i := 1) (N := some 137) (v := ?_) (a' := ?_) #[false, true, false, false, false, false, false, false, false, false] rfl rfl (by kernel_rfl) (fun _ _ _ h => h) (Or.inl ⟨by rfl, ?_⟩) ?_ ?_
            rotate_left
            · intro w'
              go_simp
              with_reducible rfl
            rotate_left
            · simp only [Act.put, List.setIfInBounds_toArray, List.set_cons_zero, List.set_cons_succ, i64_w, i32_w]
              rfl
            refine pure_ (i := 2) (N := some 138) (v := ?_) (a' := ?_) #[false, true, true, false, false, false, false, false, false, false] rfl rfl (by kernel_rfl) (fun _ _ _ h => h) (Or.inl ⟨by rfl, ?_⟩) ?_ ?_
            rotate_left
            · intro w'
              go_simp
              with_reducible rfl
            rotate_left
            · simp only [Act.put, List.setIfInBounds_toArray, List.set_cons_zero, List.set_cons_succ, i64_w, i32_w]
              rfl
            refine take_ (i := 0) (N := some 136) (v := ?_) (a' := ?_) #[true, true, true, false, false, false, false, false, false, false] rfl rfl (by kernel_rfl) (fun _ _ _ h => h) (Or.inl ⟨by rfl, ?_⟩) hHeld ?_ ?_
            rotate_left
            · rintro w' ⟨s0, s1, s2⟩
              go_simp
              with_reducible rfl
            rotate_left
            · simp only [Act.put, List.setIfInBounds_toArray, List.set_cons_zero, List.set_cons_succ, i64_w, i32_w]
              rfl
            refine take_ (i := 3) (N := some 139) (v := ?_) (a' := ?_) #[true, true, true, true, false, false, false, false, false, false] rfl rfl (by kernel_rfl) (fun _ _ _ h => h) (Or.inl ⟨by rfl, ?_⟩) hHeld ?_ ?_
            rotate_left
            · rintro w' ⟨s0, s1, s2⟩
              go_simp
              with_reducible rfl
            rotate_left
            · simp only [Act.put, List.setIfInBounds_toArray, List.set_cons_zero, List.set_cons_succ, i64_w, i32_w]
              rfl
            refine one_ (i := 4) (N := some 140) #[true, true, true, true, true, false, false, false, false, false] rfl rfl (by kernel_rfl) (by decide) (fun K hK => ?_)
            refine goes_ Try.func21 (by kernel_rfl) rfl #[.agg #[.int .i64 4096, .slice Ay M.length cy], .string ⟨#[98]⟩] (by rfl) rfl rfl (by simp only [List.map_toArray, List.map_cons, List.map_nil]; rfl) ?_
            with_reducible refine (store_Read.calls _ 4096 Ay cy M ⟨#[98]⟩ [] 8 _ HCM.out HLM.out HRD.out).mono ?_
            rintro e w8 ⟨v8_, rfl, hR, hb⟩
            refine ⟨_, rfl, ?_⟩
            obtain ⟨Ab, cb, rfl⟩ := Kd.R_slice hR
            have HRB := Aside0.mk (Kd.R_reads' hR)
            have HB8 := Aside0.mk hb
            clear hb hR
            refine hK.out _ _ ⟨(pw_cell_below HB8.out v150), (pw_cell_below HB8.out v151), (pw_cell_below HB8.out v51)⟩ (fun hHeld => ?_)
            clear hK K
            refine norm_ (a' := ?_) ?_ ?_
            rotate_left
            · show Act.put _ (some 140) _ = _
              simp only [Act.put, List.setIfInBounds_toArray, List.set_cons_zero, List.set_cons_succ, i64_w, i32_w]
              rfl
            refine pure_ (i := 5) (N := some 135) (v := ?_) (a' := ?_) #[true, true, true, true, true, true, false, false, false, false] rfl rfl (by kernel_rfl) (fun _ _ _ h => h) (Or.inl ⟨by rfl, ?_⟩) ?_ ?_
            rotate_left
            · intro w'
              go_simp
              with_reducible rfl
            rotate_left
            · simp only [Act.put, List.setIfInBounds_toArray, List.set_cons_zero, List.set_cons_succ, i64_w, i32_w]
              rfl
            refine pure_ (i := 6) (N := some 141) (v := ?_) (a' := ?_) #[true, true, true, true, true, true, true, false, false, false] rfl rfl (by kernel_rfl) (fun _ _ _ h => h) (Or.inl ⟨by rfl, ?_⟩) ?_ ?_
            rotate_left
            · intro w'
              go_simp
              with_reducible rfl
            rotate_left
            · simp only [Act.put, List.setIfInBounds_toArray, List.set_cons_zero, List.set_cons_succ, i64_w, i32_w]
              rfl
            refine pure_ (i := 7) (N := some 142) (v := ?_) (a' := ?_) #[true, true, true, true, true, true, true, true, false, false] rfl rfl (by kernel_rfl) (fun _ _ _ h => h) (Or.inl ⟨by rfl, ?_⟩) ?_ ?_
            rotate_left
            · intro w'
              go_simp
              with_reducible rfl
            rotate_left
            · simp only [Act.put, List.setIfInBounds_toArray, List.set_cons_zero, List.set_cons_succ, i64_w, i32_w]
              rfl
            refine pure_ (i := 8) (N := some 18) (v := ?_) (a' := ?_) #[true, true, true, true, true, true, true, true, true, false] rfl rfl (by kernel_rfl) (fun _ _ _ h => h) (Or.inl ⟨by rfl, ?_⟩) ?_ ?_
            rotate_left
            · intro w'
              go_simp
              with_reducible rfl
            rotate_left
            · simp only [Act.put, List.setIfInBounds_toArray, List.set_cons_zero, List.set_cons_succ, i64_w, i32_w]
              rfl
            refine pure_ (i := 9) (N := some 19) (v := ?_) (a' := ?_) #[true, true, true, true, true, true, true, true, true, true] rfl rfl (by kernel_rfl) (fun _ _ _ h => h) (Or.inl ⟨by rfl, ?_⟩) ?_ ?_
            rotate_left
            · intro w'
              go_simp
              with_reducible rfl
            rotate_left
            · simp only [Act.put, List.setIfInBounds_toArray, List.set_cons_zero, List.set_cons_succ, i64_w, i32_w]
              rfl
            refine done_ (by kernel_rfl) ?_

            have HX_ := Aside0.mk (HX.out.step HB8.out)
            have CB15_ := Aside0.mk (blk_below CB15.out HB8.out)
            have HCM_ := Aside0.mk (Kd.C_below HCM.out HB8.out)
            clear HX CB15 HCM HB8 v150 v151 v51 hHeld
            have HX := HX_
            have CB15 := CB15_
            have HCM := HCM_
            clear HX_ CB15_ HCM_
            obtain ⟨v50, v51, v60, v61, f60, f61, v80, v81, f80, f81, v90, v91, f90, f91⟩ := HX.out.vis
            go_wp2
            go_roundw
            · exact ⟨2, rfl, by decide, HX, CB15, HCM⟩
            · decide
        · clear v150 v151 v50 v51 v60 v61 f60 f61 v80 v81 f80 f81 v90 v91 f90 f91
          go_wp2
          go_ret
          exact ⟨rfl, HX.out.B⟩
theorem dragnetlaw16_StoreSure.calls (A0 : Option Addr) (c0 : Nat) (l0 : List S46) (A1 : Option Addr) (c1 : Nat) (l1 : List S59) (r : Bool) (w : World) (hr0 : Kd.C k46 w A0 l0.length l0) (hc0 : l0.length ≤ c0) (hr1 : Kd.C k59 w A1 l1.length l1) (hc1 : l1.length ≤ c1) (h : dragnetlaw16_StoreSure.f l0 l1 = some r) :
    Calls Try.prog 5 #[.slice A0 l0.length c0, .slice A1 l1.length c1] w fun e w' => e = .returned (.bool r) ∧ Below w.heap.size w w' := by
  unfold dragnetlaw16_StoreSure.f at h
  by_cases hs : SureOK l0 l1
  case neg => rw [if_neg hs] at h; cases h
  rw [if_pos hs] at h
  obtain rfl := Option.some.inj h
  by_cases hl : 60 < l0.length
  · exact sure_long A0 c0 l0 A1 c1 l1 w hr0 hc0 hr1 hc1 hs hl
  · exact sure_short A0 c0 l0 A1 c1 l1 w hr0 hc0 hr1 hc1 hs (by omega)
end Go.Proofs.Ytopjdjljpkcdlaa.U
