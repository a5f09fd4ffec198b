/- Walks: each Go function told here comes to what the plain function beside it says, wherever that one answers. -/
import Derived.Test.YtdcifmonhaklcaaDoorTaAx0
import Derived.Test.YtdcifmonhaklcaaDoorTaAx2
namespace Go.Proofs.YtdcifmonhaklcaaDoor.A
open Go.RowKit YtdcifmonhaklcaaDoorW.PrintWords YtdcifmonhaklcaaDoorW.PrintLast YtdcifmonhaklcaaDoorW.PrintMore
attribute [local go_sem] max2_int min2_int max_two min_two
set_option linter.unusedVariables false
set_option linter.unusedSimpArgs false
set_option maxHeartbeats 800000 in
set_option maxRecDepth 100000 in
theorem clone_files (A0 : Option Addr) (c0 : Nat) (l0 : List S84) (w0 w : World) (hb0 : Below w0.heap.size w0 w) (hr0 : Kd.C k84 w0 A0 l0.length l0) (hc0 : l0.length ≤ c0) (hl : l0.length < 1048576) :
  Calls Tryd.prog 75 #[.slice A0 l0.length c0] w fun e w' => ∃ v0_ : Value, e = .returned (v0_) ∧ Kd.R (Kd.fixed k84 w0) 84 w' w.heap.size (fun _ => True) v0_ l0 ∧ Below w.heap.size w w' := by
 have HR0 := Aside0.mk hr0
 clear hr0
 have LM := Aside0.mk hl
 have HB0 := Aside0.mk hb0
 clear hb0
 clear hl
 have hnil := fun W => Lib.run_eql_slice_nil (P := Tryd.prog) W 48 84 A0 l0.length c0 0 0 Tryd.underlying48
 cases A0 with
 | none =>
  obtain rfl := C_none HR0.out
  simp only [Option.isNone_none, List.length_nil] at hnil
  simp only [List.length_nil]
  go_enter Tryd.func75, Tryd.ntmps75
  go_wp2
  go_ret
  exact ⟨_, rfl, Kd.R_nil _ _ _ _ _, Below.refl _ _⟩
 | some ad =>
  simp only [Option.isNone_some] at hnil
  have HB := Aside0.mk (Below.refl w.heap.size w)
  go_enter Tryd.func75, Tryd.ntmps75
  go_wp2_with (first | ((with_reducible refine gate_dst (N := 5) rfl ?_); refine Kd.R_lit (Kd.fixed k84 w0) _ 84 ?hg (N := 5) ?hd (xs := ([] : List S84)) (inner := []) (ok := fun _ => True) (okp := fun _ => True) ?hr ?hp (fun _ hk => hk) trivial (Below.refl _ _) (Nat.le_refl _) (by simp) ?_; (case hd => rfl); (case hg => rfl); (case hr => first | (go_simp; done) | (go_simp; rfl)); (case hp => exact (Reps.none _ _)); intro v108 w3 ho4 hb hg_ hnew_; clear hg_ hnew_; have HO109 := Aside0.mk ho4; have HB3 := Aside0.mk hb; clear ho4 hb) | ((with_reducible refine gate_builtin (b := .append) (xs := #[.tmp 5, .tmp 6]) rfl ?_); at_builtin; refine Kd.R_append_rows (Kd.fixed k84 w0) (Rr := k84.K w0) (w0 := w) w.heap.size rfl (.tmp 5) (.tmp 6) 48 84 (.agg #[(.string ⟨#[]⟩), (.slice none 0 0), (.int .i64 0)]) 48 rfl Tryd.underlying48 info84 rfl (Nat.succ_pos 2) (by omega) v108 [] l0 _ _ _ (fun _ => True) (fun _ => False) rfl rfl ?aO ?aR (fun _ _ h => h) (fun _ h => h.elim) ?aF ?aB ?aS ?aL ?_; (case aR => exact ReadsRow.imp_ HR0.out (below_step HB0.out HB3.out) (fun _ _ h => h)); (case aB => exact HB3.out); (case aF => exact (fun _ _ => trivial)); (case aO => exact HO109.out); (case aS => exact HB3.out.size); (case aL => have := LM.out; simp; omega); intro v111 w5 ho hb hg hat; rw [List.nil_append] at ho; have HOA := Aside0.mk ho; have HBA := Aside0.mk hb; clear ho hb hg hat))
  go_ret
  exact ⟨_, rfl, HOA.out, HBA.out⟩
def halfKd {α : Type} (d : Kd α) (w0 : World) : Kd (α × Bool) where
 sz := d.sz
 E := d.E
 K := fun w x cs => (x.2 = true → d.K w x.1 cs) ∧ (x.2 = false → d.K w0 x.1 cs)
 M := fun w base ok x cs => (x.2 = true → d.M w base ok x.1 cs) ∧ (x.2 = false → d.K w0 x.1 cs)
 K_len := fun {w x cs} h => by
  cases hx : x.2 with
  | true => exact d.K_len (h.1 hx)
  | false => exact d.K_len (h.2 hx)
 K_one := fun {w x cs} h => by
  cases hx : x.2 with
  | true => exact d.K_one (h.1 hx)
  | false => exact d.K_one (h.2 hx)
 K_below := fun hb h => ⟨fun hx => d.K_below hb (h.1 hx), h.2⟩
 K_of_M := fun h => ⟨fun hx => d.K_of_M (h.1 hx), h.2⟩
 M_mono := fun hok h => ⟨fun hx => d.M_mono hok (h.1 hx), h.2⟩
 M_bound := fun h => ⟨fun hx => d.M_bound (h.1 hx), h.2⟩
 M_move := fun hm h => ⟨fun hx => d.M_move hm (h.1 hx), h.2⟩
 M_lower := fun hb h => ⟨fun hx => d.M_lower hb (h.1 hx), h.2⟩
theorem reps_to {α β : Type} {R : α → List Value → Prop} {R' : β → List Value → Prop} {size : Nat} {ps : List α} {qs : List β} {cs : List Value} (h : Reps R size ps cs) (hl : qs.length = ps.length)
  (hR : ∀ (j : Nat) p q c, ps[j]? = some p → qs[j]? = some q → R p c → R' q c) : Reps R' size qs cs := by
 refine ⟨by rw [h.1, hl], fun j q hj => ?_⟩
 have hj' : j < ps.length := by rw [← hl]; exact (List.getElem?_eq_some_iff.1 hj).1
 exact hR j _ q _ (List.getElem?_eq_getElem hj') hj (h.2 j _ (List.getElem?_eq_getElem hj'))
theorem half_none {α : Type} {d : Kd α} {w0 w : World} {e base : Nat} {ok : Nat → Prop} {v : Value} {xs : List α} (h : (Kd.fixed d w0).R e w base ok v xs) : Kd.S (halfKd d w0) e w base ok v (xs.map fun x => (x, false)) := by
 obtain ⟨h0, inner, ho, hr⟩ := h
 refine ⟨fun _ => 0, h0, inner, by rw [List.length_zipIdx, List.length_map]; exact ho, reps_to hr (by simp) ?_⟩
 intro j p q c hp hq hK
 rw [List.getElem?_zipIdx, List.getElem?_map, hp] at hq
 obtain rfl := (Option.some.inj hq).symm
 refine And.intro (fun hx => ?_) (fun _ => hK)
 cases hx
theorem half_all {α : Type} {d : Kd α} {w0 w : World} {e base : Nat} {ok : Nat → Prop} {v : Value} {xs : List α} (h : Kd.S (halfKd d w0) e w base ok v (xs.map fun x => (x, true))) : Kd.S d e w base ok v xs := by
 obtain ⟨f, h0, inner, ho, hr⟩ := h
 refine ⟨f, h0, inner, by rw [List.length_zipIdx, List.length_map] at ho; rw [List.length_zipIdx]; exact ho, reps_to hr (by simp) ?_⟩
 intro j p q c hp hq hK
 rw [List.getElem?_zipIdx] at hq
 obtain ⟨x, hx, rfl⟩ := Option.map_eq_some_iff.1 hq
 rw [List.getElem?_zipIdx, List.getElem?_map, hx] at hp
 obtain rfl := (Option.some.inj hp).symm
 exact hK.1 rfl
def halfL {α : Type} (l : List α) (i : Nat) : List (α × Bool) := l.zipIdx.map fun p => (p.1, decide (p.2 < i))
theorem halfL_zero {α : Type} (l : List α) : halfL l 0 = l.map fun x => (x, false) := by
 refine List.ext_getElem? fun j => ?_
 unfold halfL
 rw [List.getElem?_map, List.getElem?_zipIdx, List.getElem?_map]
 cases l[j]? <;> simp
theorem halfL_all {α : Type} (l : List α) : halfL l l.length = l.map fun x => (x, true) := by
 refine List.ext_getElem? fun j => ?_
 unfold halfL
 rw [List.getElem?_map, List.getElem?_zipIdx, List.getElem?_map]
 by_cases hj : j < l.length
 ·simp [hj]
 ·simp [List.getElem?_eq_none (Nat.le_of_not_lt hj)]
theorem halfL_length {α : Type} (l : List α) (i : Nat) : (halfL l i).length = l.length := by simp [halfL]
theorem halfL_at {α : Type} (l : List α) (i : Nat) (j : Nat) (z : α) (hj : j < l.length) : (halfL l i).getD j (z, false) = (l.getD j z, decide (j < i)) := by
 unfold halfL
 rw [List.getD_eq_getElem?_getD, List.getElem?_map, List.getElem?_zipIdx, List.getD_eq_getElem?_getD]
 simp [hj]
theorem halfL_set {α : Type} (l : List α) (i : Nat) (z : α) (hi : i < l.length) : (halfL l i).set i (l.getD i z, true) = halfL l (i + 1) := by
 refine List.ext_getElem? fun j => ?_
 rw [List.getElem?_set]
 unfold halfL
 by_cases hj : i = j
 ·subst hj
  simp [hi, List.getD_eq_getElem?_getD]
 ·rw [if_neg hj, List.getElem?_map, List.getElem?_map, List.getElem?_zipIdx]
  cases l[j]? with
  | none => rfl
  | some x =>
   simp
   omega
def store_twin.f (a0_0 : Int) (l0_1 : List S84) : Option (Int × List S84) := if l0_1.length < 1048576 ∧ (∀ x ∈ l0_1, x.f1.length < 140737488355328) then some (a0_0, l0_1) else none
set_option maxHeartbeats 1600000 in
set_option maxRecDepth 100000 in
theorem store_twin.calls (a0_0 : Int) (A0_1 : Option Addr) (c0_1 : Nat) (l0_1 : List S84) (r1 : Int) (r2 : List S84) (w : World) (hr0_1 : Kd.C k84 w A0_1 l0_1.length l0_1) (hc0_1 : l0_1.length ≤ c0_1) (h : store_twin.f a0_0 l0_1 = some (r1, r2)) :
  Calls Tryd.prog 52 #[.agg #[.int .i64 a0_0, .slice A0_1 l0_1.length c0_1]] w fun e w' => ∃ v1_ : Value, e = .returned (.agg #[.int .i64 r1, v1_]) ∧ Kd.S k84 84 w' w.heap.size (fun _ => True) v1_ r2 ∧ Below w.heap.size w w' := by
 unfold store_twin.f at h
 by_cases hg : l0_1.length < 1048576 ∧ (∀ x ∈ l0_1, x.f1.length < 140737488355328)
 case neg =>
  rw [if_neg hg] at h
  cases h
 rw [if_pos hg] at h
 injection h with h
 injection h with h1 h2
 subst h1
 subst h2
 have HR := Aside0.mk hr0_1
 have HC := Aside0.mk hc0_1
 have HG := Aside0.mk hg
 clear hr0_1 hg hc0_1
 have HB := Aside0.mk (Below.refl w.heap.size w)
 have hu24 := Tryd.underlying50
 have hu61 := Tryd.underlying84
 go_enter Tryd.func52, Tryd.ntmps52
 go_wp2_with (first
  | ((with_reducible refine gate_dst (N := 1) rfl ?_); refine box_event ?hg (N := 1) ?hd (cs := #[.int .i64 a0_0, .slice A0_1 l0_1.length c0_1]) (t := 50) ?hr ?_; (case hd => rfl); (case hg => rfl); (case hr => first | (go_simp; done) | (go_simp; rfl)); intro g1 hg1 w1 hbox hb; have HB1 := Aside0.mk (below_step HB.out hb); have BK1 := Aside0.mk hbox; have G1 := Aside0.mk (show w.heap.size ≤ g1 by rw [hg1]; exact below_size HB.out); clear hb hbox hg1)
  | ((with_reducible refine gate_dst (N := 2) rfl ?_); refine box_event ?hg (N := 2) ?hd (cs := #[.int .i64 0, .slice none 0 0]) (t := 50) ?hr ?_; (case hd => rfl); (case hg => rfl); (case hr => first | (go_simp; done) | (go_simp; rfl)); intro g2 hg2 w2 hbox hb; have HB2 := Aside0.mk (below_step HB1.out hb); have BK2 := Aside0.mk hbox; have G2 := Aside0.mk (show w.heap.size ≤ g2 by rw [hg2]; exact below_size HB1.out); have G12 := Aside0.mk (show g1 ≠ g2 by rw [hg2]; exact Nat.ne_of_lt (blk_lt BK1.out)); have BK12 := Aside0.mk (blk_below BK1.out hb); clear hb hbox hg2; have hz10 : w2.cell? ⟨g1, 0, none⟩ = some (.int .i64 a0_0) := (blk_cell BK12.out 0).trans rfl; have hz11 : w2.cell? ⟨g1, 1, none⟩ = some (.slice A0_1 l0_1.length c0_1) := (blk_cell BK12.out 1).trans rfl)
  | (go_at_call 75; refine (clone_files A0_1 c0_1 l0_1 w w2 HB2.out HR.out HC.out HG.out.1).mono ?_; rintro e w4 ⟨v4, rfl, hv4, hb4⟩; obtain ⟨A4, c4, rfl⟩ := Kd.R_slice hv4; have HV4 := Aside0.mk (half_none hv4); have HB24 := Aside0.mk hb4; have HB4 := Aside0.mk (below_step HB2.out hb4); have BK14 := Aside0.mk (blk_below BK12.out hb4); have BK24 := Aside0.mk (blk_below BK2.out hb4); clear hv4 hb4; have hz40 : w4.cell? ⟨g1, 0, none⟩ = some (.int .i64 a0_0) := (blk_cell BK14.out 0).trans rfl; have hz41 : w4.cell? ⟨g1, 1, none⟩ = some (.slice A0_1 l0_1.length c0_1) := (blk_cell BK14.out 1).trans rfl; have hf40 := blk_frozen BK14.out 0; have hf41 := blk_frozen BK14.out 1))
 have WC := Aside0.mk (show World.heap (w4.setCell ⟨g1, 1, none⟩ (.slice A4 l0_1.length c4)) = World.heap (w4.setCell ⟨g1, 1, none⟩ (.slice A4 l0_1.length c4)) from rfl)
 have BK15 := Aside0.mk (blk_put (cs' := #[.int .i64 a0_0, .slice A4 l0_1.length c4]) BK14.out 1 (.slice A4 l0_1.length c4) rfl)
 have BK25 := Aside0.mk (blk_far BK24.out (p := ⟨g1, 1, none⟩) (Ne.symm G12.out) (.slice A4 l0_1.length c4))
 have HB5 := Aside0.mk (below_set (j := 1) (v := .slice A4 l0_1.length c4) HB4.out G1.out)
 have HS5 := Aside0.mk (Kd.S_set (Kd.S_lower HV4.out HB2.out.size) BK14.out (show ∀ q, q ∈ 84 :: k84.E → q ≠ 50 from by decide) 1 (.slice A4 l0_1.length c4))
 go_loopw [12] (fun v12 w' => ∃ i : Nat, v12 = .int .i64 i ∧ i ≤ l0_1.length ∧ Aside0 (Kd.S (halfKd k84 w) 84 w' w.heap.size (fun _ => True) (.slice A4 l0_1.length c4) (halfL l0_1 i)) ∧ Aside0 (w'.heap[g1]? = some (.cells #[.int .i64 a0_0, .slice A4 l0_1.length c4] 50 (0, 0))) ∧ Aside0 (w'.heap[g2]? = some (.cells #[.int .i64 0, .slice none 0 0] 50 (0, 0))) ∧ Aside0 (Below w.heap.size w w')) (fun v12 _ => l0_1.length - (intOf v12).toNat)
 case atStart => exact ⟨0, rfl, Nat.zero_le _, by rw [halfL_zero]; exact HS5, BK15, BK25, HB5⟩
 case round =>
  clear WC BK15 BK25 HB5 HS5 hz40 hz41 hf40 hf41 hz10 hz11
  obtain ⟨i, rfl, hi, HS, BK1r, BK2r, HBr⟩ := hrel
  have hk0 : wr.cell? ⟨g1, 0, none⟩ = some (.int .i64 a0_0) := (blk_cell BK1r.out 0).trans rfl
  have hk1 : wr.cell? ⟨g1, 1, none⟩ = some (.slice A4 l0_1.length c4) := (blk_cell BK1r.out 1).trans rfl
  by_cases c1 : i < l0_1.length
  ·have c1i : (i : Int) < l0_1.length := by omega
   have c1d := decide_eq_true c1i
   obtain ⟨go, cap, hv, GO⟩ := Kd.S_form HS.out (by rw [halfL_length]; omega)
   injection hv with e1 e2 e3
   subst e1
   subst e3
   clear e2
   have HSn := Aside0.mk (Kd.S_mono (Kd.S_bound HS.out) (ok' := fun k => True ∧ ¬ (wr.heap.size ≤ k)) (fun k hk => ⟨trivial, by have := hk.2.2.1; omega⟩))
   obtain ⟨oki, c, hcl, hM, hcc, hfr, hoki, hH⟩ := Kd.S_elem HSn.out (z84, false) (i : Int) (by omega) (by omega)
   rw [Int.toNat_natCast, halfL_at _ _ _ _ c1] at hM
   obtain ⟨x, hx⟩ : ∃ x, x = l0_1.getD i z84 := ⟨_, rfl⟩
   rw [← hx] at hM
   have HX := Aside0.mk hx
   clear hx
   obtain ⟨A1, cx, rfl, hl1, hC1⟩ := k84_open (hM.2 (decide_eq_false (Nat.lt_irrefl _)))
   have hz0 : wr.cell? ⟨go, i * 3, none⟩ = some (.string x.f0) := hcc 0 _ rfl
   have hz1 : wr.cell? ⟨go, i * 3 + 1, none⟩ = some (.slice A1 x.f1.length cx) := hcc 1 _ rfl
   have hz2 : wr.cell? ⟨go, i * 3 + 2, none⟩ = some (.int .i64 x.f2) := hcc 2 _ rfl
   have hfz : wr.frozen? ⟨go, i * 3 + 1, none⟩ = false := hfr 1
   have HH := Aside0.mk hH
   have HX2 := Aside0.mk hl1
   have HX1 := Aside0.mk hC1
   have HX3 := Aside0.mk (show slices_Clone_byte_byte.f x.f1 = some x.f1 by
    unfold slices_Clone_byte_byte.f
    rw [if_pos (HG.out.2 x (by rw [HX.out, List.getD_eq_getElem?_getD, List.getElem?_eq_getElem c1]; exact List.getElem_mem c1))])
   have HGO := Aside0.mk GO.2.1
   have HGO2 := Aside0.mk GO.1
   clear hcl hM hcc hfr hoki hH hl1 hC1 GO
   have i0 := eq_true (show (0 : Int) ≤ (i : Int) by omega)
   have i1 := eq_true c1i
   go_wp2
   have BX := Aside0.mk (blk_new wr (.cells #[.string x.f0, .slice A1 x.f1.length cx, .int .i64 x.f2] 84 (0, 0)))
   have BK15 := Aside0.mk (blk_alloc BK1r.out (.cells #[.string x.f0, .slice A1 x.f1.length cx, .int .i64 x.f2] 84 (0, 0)))
   have BK25 := Aside0.mk (blk_alloc BK2r.out (.cells #[.string x.f0, .slice A1 x.f1.length cx, .int .i64 x.f2] 84 (0, 0)))
   have HB5 := Aside0.mk (below_alloc HBr.out (.cells #[.string x.f0, .slice A1 x.f1.length cx, .int .i64 x.f2] 84 (0, 0)))
   have HBw := Aside0.mk (below_alloc (Below.refl wr.heap.size wr) (.cells #[.string x.f0, .slice A1 x.f1.length cx, .int .i64 x.f2] 84 (0, 0)))
   clear hk0 hk1
   generalize wr.alloc (.cells #[.string x.f0, .slice A1 x.f1.length cx, .int .i64 x.f2] 84 (0, 0)) = W5 at *
   have hy1 : W5.cell? ⟨wr.heap.size, 1, none⟩ = some (.slice A1 x.f1.length cx) := (blk_cell BX.out 1).trans rfl
   have hk1 : W5.cell? ⟨g1, 1, none⟩ = some (.slice (some ⟨go, 0, none⟩) l0_1.length c4) := (blk_cell BK15.out 1).trans rfl
   replace hz1 := pw_cell_below HBw.out hz1
   replace hfz := (HBw.out.frozen (p := ⟨go, i * 3 + 1, none⟩) HGO.out).trans hfz
   clear hz0 hz2
   have HB5 := Aside0.mk (below_drew1 HB5.out)
   have HBw := Aside0.mk (below_drew1 HBw.out)
   have HX1b := Aside0.mk (Kd.C_below HX1.out HB5.out)
   refine start_ (n := 9) (S := fun w' => w'.cell? ⟨g1, 1, none⟩ = some (.slice (some ⟨go, 0, none⟩) l0_1.length c4) ∧ w'.cell? ⟨wr.heap.size, 1, none⟩ = some (.slice A1 x.f1.length cx)) (ds := [8]) #[false, false, false, false, false, false, false, false, false] (by kernel_rfl) rfl rfl ⟨hk1, hy1⟩ (fun hHeld => ?_)
   refine pure_ (i := 0) (N := some 17) (v := ?_) (a' := ?_) #[true, false, false, false, false, false, false, false, false] rfl rfl (by kernel_rfl) (fun _ _ _ h => h) (Or.inl ⟨by rfl, ?_⟩) ?_ ?_
   rotate_left
   ·intro w'
    go_simp
    with_reducible rfl
   rotate_left
   ·simp only [Act.put, List.setIfInBounds_toArray, List.set_cons_zero, List.set_cons_succ, i64_w, i32_w]
    rfl
   refine pure_ (i := 2) (N := some 19) (v := ?_) (a' := ?_) #[true, false, true, false, false, false, false, false, false] rfl rfl (by kernel_rfl) (fun _ _ _ h => h) (Or.inl ⟨by rfl, ?_⟩) ?_ ?_
   rotate_left
   ·intro w'
    go_simp
    with_reducible rfl
   rotate_left
   ·simp only [Act.put, List.setIfInBounds_toArray, List.set_cons_zero, List.set_cons_succ, i64_w, i32_w]
    rfl
   refine pure_ (i := 3) (N := some 20) (v := ?_) (a' := ?_) #[true, false, true, true, false, false, false, false, false] rfl rfl (by kernel_rfl) (fun _ _ _ h => h) (Or.inl ⟨by rfl, ?_⟩) ?_ ?_
   rotate_left
   ·intro w'
    go_simp
    with_reducible rfl
   rotate_left
   ·simp only [Act.put, List.setIfInBounds_toArray, List.set_cons_zero, List.set_cons_succ, i64_w, i32_w]
    rfl
   refine take_ (i := 1) (N := some 18) (v := ?_) (a' := ?_) #[true, true, true, true, false, false, false, false, false] rfl rfl (by kernel_rfl) (fun _ _ _ h => h) (Or.inl ⟨by rfl, ?_⟩) hHeld ?_ ?_
   rotate_left
   ·rintro w' ⟨s0, s1⟩
    go_simp
    with_reducible rfl
   rotate_left
   ·simp only [Act.put, List.setIfInBounds_toArray, List.set_cons_zero, List.set_cons_succ, i64_w, i32_w]
    rfl
   refine take_ (i := 4) (N := some 21) (v := ?_) (a' := ?_) #[true, true, true, true, true, false, false, false, false] rfl rfl (by kernel_rfl) (fun _ _ _ h => h) (Or.inl ⟨by rfl, ?_⟩) hHeld ?_ ?_
   rotate_left
   ·rintro w' ⟨s0, s1⟩
    go_simp
    with_reducible rfl
   rotate_left
   ·simp only [Act.put, List.setIfInBounds_toArray, List.set_cons_zero, List.set_cons_succ, i64_w, i32_w]
    rfl
   refine one_ (i := 5) (N := some 22) #[true, true, true, true, true, true, false, false, false] rfl rfl (by kernel_rfl) (by decide) (fun K hK => ?_)
   refine goes_ Tryd.func55 (by kernel_rfl) rfl #[.slice A1 x.f1.length cx] (by rfl) rfl rfl (by simp only [List.map_toArray, List.map_cons, List.map_nil]; rfl) ?_
   with_reducible refine (slices_Clone_byte_byte.calls A1 cx x.f1 x.f1 _ HX1b.out HX2.out HX3.out).mono ?_
   rintro e w6 ⟨v22, rfl, hv22, hb22⟩
   refine ⟨_, rfl, ?_⟩
   obtain ⟨A22, c22, rfl⟩ := Kd.R_slice hv22
   have HV22 := Aside0.mk hv22
   have HB22 := Aside0.mk hb22
   clear hv22 hb22
   refine hK.out _ _ ⟨(pw_cell_below HB22.out hk1), (pw_cell_below HB22.out hy1)⟩ (fun hHeld => ?_)
   clear hK K
   refine norm_ (a' := ?_) ?_ ?_
   rotate_left
   ·show Act.put _ (some 22) _ = _
    simp only [Act.put, List.setIfInBounds_toArray, List.set_cons_zero, List.set_cons_succ, i64_w, i32_w]
    rfl
   refine pure_ (i := 6) (N := some 23) (v := ?_) (a' := ?_) #[true, true, true, true, true, true, true, false, false] rfl rfl (by kernel_rfl) (fun _ _ _ h => h) (Or.inl ⟨by rfl, ?_⟩) ?_ ?_
   rotate_left
   ·intro w'
    go_simp
    with_reducible rfl
   rotate_left
   ·simp only [Act.put, List.setIfInBounds_toArray, List.set_cons_zero, List.set_cons_succ, i64_w, i32_w]
    rfl
   refine pure_ (i := 7) (N := some 24) (v := ?_) (a' := ?_) #[true, true, true, true, true, true, true, true, false] rfl rfl (by kernel_rfl) (fun _ _ _ h => h) (Or.inl ⟨by rfl, ?_⟩) ?_ ?_
   rotate_left
   ·intro w'
    go_simp
    with_reducible rfl
   rotate_left
   ·simp only [Act.put, List.setIfInBounds_toArray, List.set_cons_zero, List.set_cons_succ, i64_w, i32_w]
    rfl
   refine last_ (i := 8) (N := none) #[true, true, true, true, true, true, true, true, true] rfl rfl (by kernel_rfl) (by decide) (fun K hK => ?_)
   have hcell6 := pw_cell_below HB22.out hz1
   have hfro6 : w6.frozen? ⟨go, i * 3 + 1, none⟩ = false := (HB22.out.frozen (World.block_lt_of_cell? _ _ hz1)).trans hfz
   refine skip_ (w1 := ?_) (by rfl) rfl ?_ ?_
   rotate_left
   ·go_simp
    rfl
   refine hK.out _ _ ?_
   clear hK K
   refine done_ (by kernel_rfl) ?_
   have HBK16 := Aside0.mk (blk_below (w := W5.drew) BK15.out HB22.out)
   have HBK26 := Aside0.mk (blk_below (w := W5.drew) BK25.out HB22.out)
   have HB6 := Aside0.mk (below_step HB5.out HB22.out)
   have HBw6 := Aside0.mk (below_step HBw.out HB22.out)
   have hM6 : (halfKd k84 w).M w6 w.heap.size (fun k => wr.heap.size ≤ k) (x, true) [.string x.f0, .slice A22 x.f1.length c22, .int .i64 x.f2] := by
    refine And.intro (fun _ => k84_mkM _ _ _ x ?_) (fun hx => by cases hx)
    exact Kd.R_lower (Kd.R_mono (Kd.R_bound HV22.out) (fun k hk => Nat.le_trans HBw.out.size hk.2.1)) (Nat.le_trans HBr.out.size HBw.out.size)
   have hS := Kd.S_seg (okg := fun k => wr.heap.size ≤ k) (seg := [.slice A22 x.f1.length c22]) (j := 1) (x' := (x, true)) (okp := fun k => wr.heap.size ≤ k) (Kd.H_below HH.out HBw6.out) (by omega) (by omega) (show 2 ≤ 3 by decide) hM6 (fun k hk => .inr hk) (fun k hk => ⟨trivial, by have := HGO.out; omega⟩)
   have hwr2 : IntKind.i64.wrap ((i : Int) + 1) = (i : Int) + 1 := by have := HG.out.1; rw [IntKind.wrap_i64]; omega
   go_wp2
   go_roundw
   ·refine ⟨i + 1, rfl, by omega, ⟨?_⟩, ⟨?_⟩, ⟨?_⟩, ⟨?_⟩⟩
    ·have h7 := hS.1
     rw [HX.out, Int.toNat_natCast, halfL_set _ _ _ c1] at h7
     rw [← HX.out] at h7
     exact h7
    ·exact blk_far HBK16.out (fun e => Kd.S_ne HS.out BK1r.out (by decide) (by simp [Value.ownBlock, e])) _
    ·exact blk_far HBK26.out (fun e => Kd.S_ne HS.out BK2r.out (by decide) (by simp [Value.ownBlock, e])) _
    ·exact below_set HB6.out HGO2.out
   ·show l0_1.length - ((i : Int) + 1).toNat < l0_1.length - (i : Int).toNat
    omega
  ·obtain rfl : i = l0_1.length := by omega
   have hj0 : wr.cell? ⟨g2, 0, none⟩ = some (.int .i64 0) := (blk_cell BK2r.out 0).trans rfl
   have hj1 : wr.cell? ⟨g2, 1, none⟩ = some (.slice none 0 0) := (blk_cell BK2r.out 1).trans rfl
   have hjf0 := blk_frozen BK2r.out 0
   have hjf1 := blk_frozen BK2r.out 1
   have c1d : decide ((l0_1.length : Int) < (l0_1.length : Int)) = false := decide_eq_false (Int.lt_irrefl _)
   go_wp2
   refine bodyPost_ret (results_cell_row rfl _ _ g2 50 #[.int .i64 a0_0, .slice A4 l0_1.length c4] (0, 0) _ rfl (blk_put (cs := #[.int .i64 a0_0, .slice none 0 0]) (blk_put (cs := #[.int .i64 0, .slice none 0 0]) BK2r.out 0 _ rfl) 1 _ rfl) Tryd.underlying50 rfl (by kernel_rfl)) rfl ?_
   refine ⟨_, rfl, ?_, below_set (below_set HBr.out G2.out) G2.out⟩
   have hS := half_all (by have h7 := HS.out; rw [halfL_all] at h7; exact h7)
   exact Kd.S_set (Kd.S_set hS BK2r.out (by decide) 0 _) (blk_set BK2r.out 0 _) (by decide) 1 _
theorem run_copyK {P : Program} (w : World) (dT sT ty elem : TypeId) (K b o dLen dCap : Nat) (a : Addr) (sLen sCap : Nat) (cs : List Value)
  (hu : P.underlying dT = some (.slice elem)) (hs : (P.info? elem).map (·.size) = some K) (hn : cs.length = Nat.min sLen dLen * K)
  (hsrc : ∀ j v, cs[j]? = some v → w.cell? (a.add j) = some v) (hc : ∀ j, j < cs.length → (w.cell? ⟨b, o + j, none⟩).isSome = true) (hf : ∀ j, j < cs.length → w.frozen? ⟨b, o + j, none⟩ = false) (h1 : ∀ v ∈ cs, v.oneCell' = true) :
  (Builtin.copy_ #[dT, sT] ty #[.slice (some ⟨b, o, none⟩) dLen dCap, .slice (some a) sLen sCap]).run P w = .ok (goInt (Nat.min sLen dLen)) (w.setCells b o cs) := by
 have hl := run_loadCells_list (P := P) w a cs hsrc
 have hst := run_storeCells_cells (P := P) b o cs 0 w (by simpa using hc) (by simpa using hf) h1
 cases hq : P.info? elem with
 | none => simp [hq] at hs
 | some i =>
  have hi : i.size = K := by simpa [hq] using hs
  rw [hn] at hl
  simp [Builtin.copy_, run_underlying hu, Builtin.lenOf, Builtin.firstCells, sizeOf, typeInfo, hq, hi, hl, hst]
theorem splice_eq {cur : Array Value} {o : Nat} {v : Value} {r : List Value} (h : o + (r.length + 1) ≤ cur.size) :
  (cur.setIfInBounds o v).toList.take (o + 1) ++ r ++ (cur.setIfInBounds o v).toList.drop (o + 1 + r.length) = cur.toList.take o ++ v :: r ++ cur.toList.drop (o + (r.length + 1)) := by
 have hs : (cur.setIfInBounds o v).toList = cur.toList.set o v := by simp
 rw [hs, List.set_eq_take_append_cons_drop, if_pos (by rw [Array.length_toList]; omega)]
 have hl : (cur.toList.take o).length = o := by rw [List.length_take, Array.length_toList]; omega
 have hT : List.take (o + 1) (List.take o cur.toList) = List.take o cur.toList := List.take_of_length_le (by omega)
 have hD : List.drop (o + 1 + r.length) (List.take o cur.toList) = [] := List.drop_eq_nil_of_le (by omega)
 rw [List.take_append, List.drop_append, hT, hD, hl, show o + 1 - o = 1 by omega, show o + 1 + r.length - o = r.length + 1 by omega]
 simp [show o + 1 + r.length = o + (r.length + 1) by omega]
theorem setCells_splice {g : Nat} {t : TypeId} : ∀ (vs : List Value) (o : Nat) (w : World) (cur : Array Value), w.heap[g]? = some (.cells cur t (0, 0)) → o + vs.length ≤ cur.size →
  (w.setCells g o vs).heap[g]? = some (.cells (cur.toList.take o ++ vs ++ cur.toList.drop (o + vs.length)).toArray t (0, 0))
 | [], o, w, cur, h, _ => by
  simp only [List.length_nil, Nat.add_zero, List.append_nil, List.take_append_drop]
  exact h
 | v :: r, o, w, cur, h, hl => by
  have ih := setCells_splice r (o + 1) (w.setCell ⟨g, o, none⟩ v) _ (blk_set h o v) (by simp at hl ⊢; omega)
  rw [splice_eq (by simpa using hl)] at ih
  exact ih
theorem grown_setCells {W : World} {g o : Nat} {vs : List Value} : W.grownBy (W.setCells g o vs) (some g) := by
 obtain ⟨s1, s2, s3, s4⟩ := setCells_same g vs o W
 exact ⟨s1, s2, s3, by rw [s4]; exact Nat.le_refl _, fun k _ hk => setCells_far vs _ k (fun he => hk (by rw [he]))⟩
theorem cells_at {W : World} {g : Nat} {t : TypeId} {cur : Array Value} (h : W.heap[g]? = some (.cells cur t (0, 0))) (o : Nat) (cs : List Value) (hcs : ∀ j, j < cs.length → cur.toList[o + j]? = cs[j]?) :
  ∀ j v, cs[j]? = some v → W.cell? ((⟨g, o, none⟩ : Addr).add j) = some v := by
 intro j v hj
 have hlt := (List.getElem?_eq_some_iff.1 hj).1
 rw [Addr.add_lit, blk_cell h, ← Array.getElem?_toList, hcs j hlt, hj]
abbrev Raw3 (w : World) (base : Nat) (v : Value) (rows : List (List Value)) : Prop := (Kd.raw 3).R 84 w base (fun _ => True) v rows
theorem raw_open {w : World} {base : Nat} {v : Value} {rows : List (List Value)} (h : Raw3 w base v rows) : ∃ inner, w.ownsRow base 84 3 v rows.length inner ∧ Reps (fun x cs => cs = x ∧ cs.length = 3 ∧ ∀ u ∈ cs, u.oneCell' = true) 3 rows inner := by
 obtain ⟨_, inner, ho, hr⟩ := h
 exact ⟨inner, ho, hr⟩
theorem raw_make {w : World} {base g cap : Nat} {cur : Array Value} {rows : List (List Value)} {inner : List Value} (hb : base ≤ g) (hh : w.heap[g]? = some (.cells cur 84 (0, 0))) (hnc : rows.length ≤ cap) (hcm : cap ≤ maxLen) (hcs : cur.size = cap * 3)
  (ht : cur.toList.take (rows.length * 3) = inner) (hr : Reps (fun x cs => cs = x ∧ cs.length = 3 ∧ ∀ u ∈ cs, u.oneCell' = true) 3 rows inner) : Raw3 w base (.slice (some ⟨g, 0, none⟩) rows.length cap) rows :=
 ⟨fun _ _ => trivial, inner, ⟨hr.1, .inr ⟨g, cap, cur, rfl, hb, hh, hnc, hcm, hcs, ht⟩⟩, hr⟩
theorem raw_ones {rows : List (List Value)} {inner : List Value} (hr : Reps (fun x cs => cs = x ∧ cs.length = 3 ∧ ∀ u ∈ cs, u.oneCell' = true) 3 rows inner) : ∀ u ∈ inner, u.oneCell' = true := by
 intro u hu
 obtain ⟨q, hq, rfl⟩ := List.mem_iff_getElem.1 hu
 have hql : q / 3 < rows.length := by
  rw [Nat.div_lt_iff_lt_mul (by decide), ← hr.1]
  exact hq
 refine (hr.2 (q / 3) _ (List.getElem?_eq_getElem hql)).2.2 _ ?_
 rw [List.mem_iff_getElem?]
 refine ⟨q % 3, ?_⟩
 rw [List.getElem?_take, if_pos (Nat.mod_lt _ (by decide)), List.getElem?_drop, Nat.mul_comm, Nat.div_add_mod, List.getElem?_eq_getElem hq]
theorem raw_one {c : List Value} (h : c.length = 3) (h1 : ∀ u ∈ c, u.oneCell' = true) : Reps (fun x cs => cs = x ∧ cs.length = 3 ∧ ∀ u ∈ cs, u.oneCell' = true) 3 [c] c := by
 refine ⟨by rw [h]; rfl, fun j p hj => ?_⟩
 cases j with
 | zero =>
  simp at hj
  subst hj
  simp only [Nat.zero_mul, List.drop_zero]
  rw [List.take_of_length_le (by omega)]
  exact ⟨rfl, h, h1⟩
 | succ j => simp at hj
section
variable {P : Program} {ops : Array Oper} {rest : List Oper} {o : Oper} {a : Act} {Q : Exit → Act → World → Prop}
theorem copy_event (w : World) (hgd : o.guard = none) (d s : Operand) (t t' : TypeId) (ho : o.op = .call { callee := .builtin .copy, args := #[d, s], argTypes := #[t, t'] }) (v u : Value) (hd : a.eval d = v) (hs : a.eval s = u) {v' : Value} {w' : World}
  (hr : (Builtin.copy_ #[t, t'] o.type #[v, u]).run P w = .ok v' w') (h : wpList P ops Q rest (a.put o.dst v') w') : wpList P ops Q (o :: rest) a w := by
 refine wpList_plain hgd fun K hK => ?_
 unfold Oper.wp execOp
 simp only [ho, resolve, invoke, builtin, Sem.run_bind, Sem.run_pure, Result.andThen_ok, List.map_toArray, List.map_cons, List.map_nil, hd, hs, hr]
 exact hK _ _ h
theorem copy_step {K : Act → World → Prop} {E : Prop} (w : World) (hg : o.guard = none) (d s : Operand) (t t' : TypeId) (ho : o.op = .call { callee := .builtin .copy, args := #[d, s], argTypes := #[t, t'] }) (v u : Value) (hd : a.eval d = v) (hs : a.eval s = u) {v' : Value} {w' : World}
  (hr : (Builtin.copy_ #[t, t'] o.type #[v, u]).run P w = .ok v' w') (h : K (a.put o.dst v') w') : if Region.wanted o (yielded ops a.tmps) = true then Oper.wp P o a w K Q else E := by
 have hw : Region.wanted o (yielded ops a.tmps) = true := by simp [Region.wanted, hg]
 rw [if_pos hw]
 unfold Oper.wp execOp
 simp only [ho, resolve, invoke, builtin, Sem.run_bind, Sem.run_pure, Result.andThen_ok, List.map_toArray, List.map_cons, List.map_nil, hd, hs, hr]
 exact h
end
theorem zeros_new (w : World) (g n cap i : Nat) (cur : Array Value) (hh : w.heap[g]? = some (.cells cur 84 (0, 0))) (hc : cur.size = cap * 3) (hi : i < n) (hn : n < 1048576) (hnc : n ≤ cap) (hroom : cap < n + 1) :
  ∃ W1 C cur0, (∀ ty, (Builtin.append_ #[48, 3] ty #[.slice (some ⟨g, 0, none⟩) i cap, .int .i64 ((n + 1 - i : Nat) : Int)]).run Tryd.prog w = .ok (.slice (some ⟨w.heap.size, 0, none⟩) (n + 1) C) W1) ∧ W1.heap[w.heap.size]? = some (.cells cur0 84 (0, 0)) ∧ cur0.size = C * 3 ∧ n + 1 ≤ C ∧ C ≤ maxLen ∧ cur0.toList.take (i * 3) = cur.toList.take (i * 3) ∧ Below w.heap.size w W1 := by
 obtain ⟨i0, hi0, hz0⟩ := Option.map_eq_some_iff.1 info84
 injection hz0 with hz1 hz2
 injection hz2 with hz2 hz3
 have hlen : (cur.toList.take (i * 3)).length = i * 3 := by rw [List.length_take, Array.length_toList]; omega
 have hold : (Builtin.firstCells i0.size i (.slice (some ⟨g, 0, none⟩) i cap)).run Tryd.prog w.drew = .ok (cur.toList.take (i * 3)).toArray w.drew := by
  rw [hz2]
  refine run_firstCells_some w.drew 3 i _ _ _ _ hlen ?_
  exact cells_at (W := w.drew) hh 0 _ (fun j hj => by
   rw [hlen] at hj
   rw [Nat.zero_add, List.getElem?_take, if_pos hj])
 have hrun := fun ty => Lib.run_append_grow_zeros (P := Tryd.prog) (ty := ty) w 48 3 84 i0 _ .i64 .i64 Tryd.underlying48 Tryd.underlying3 hi0 hz1 (some ⟨g, 0, none⟩) i cap (cur.toList.take (i * 3)) hold (n + 1 - i) (by omega) (by omega) (by omega) (by omega) (by rw [hz3]; omega) (by rw [hz3]; exact growslice_fits (by omega) (by omega))
 rw [show i + (n + 1 - i) = n + 1 by omega] at hrun
 have hge := grownCap_ge w (n + 1) cap 84
 refine ⟨_, _, _, hrun, heap_alloc_new w.drew _, ?_, hge, grownCap_le_maxLen w (n + 1) cap 84 (by unfold maxLen; omega), ?_, below_alloc (below_drew1 (Below.refl _ _)) _⟩
 ·simp [Builtin.zeroCells, Value.cells]
  omega
 ·simp only [Array.toList_append]
  rw [List.append_assoc, List.take_append_of_le_length (by rw [hlen]; exact Nat.le_refl _), List.take_take, Nat.min_self]
theorem info84s : (Tryd.prog.info? 84).map (·.size) = some 3 := by kernel_rfl
theorem below_setCells {w W : World} {g o : Nat} {vs : List Value} (h : Below w.heap.size w W) (hg : w.heap.size ≤ g) : Below w.heap.size w (W.setCells g o vs) := by
 obtain ⟨s1, s2, s3, s4⟩ := setCells_same g vs o W
 exact h.trans ⟨s1, s2, s3, by rw [s4]; exact Nat.le_refl _, fun k hk => setCells_far vs _ k (by omega)⟩
theorem ins_grow (L0 inner x T : List Value) (i n : Nat) (hx : x.length = 3) (hl : inner.length = n * 3) (hi : i < n) (hL : (n + 1) * 3 ≤ L0.length) (ht : L0.take (i * 3) = inner.take (i * 3)) :
  ((L0.take (i * 3) ++ x ++ L0.drop (i * 3 + x.length)).take ((i + 1) * 3) ++ inner.drop (i * 3) ++ T).take ((n + 1) * 3) = inner.take (i * 3) ++ x ++ inner.drop (i * 3) := by
 have h1 : (inner.take (i * 3) ++ x).length = (i + 1) * 3 := by rw [List.length_append, List.length_take, hx]; omega
 rw [ht, List.take_left' h1]
 exact List.take_left' (by rw [List.length_append, h1, List.length_drop]; omega)
theorem ins_room (L inner x T : List Value) (i n : Nat) (hx : x.length = 3) (hl : inner.length = n * 3) (hi : i < n) (hL : (n + 1) * 3 ≤ L.length) (ht : L.take (n * 3) = inner) :
  ((L.take ((i + 1) * 3) ++ inner.drop (i * 3) ++ T).take (i * 3) ++ x ++ (L.take ((i + 1) * 3) ++ inner.drop (i * 3) ++ T).drop (i * 3 + x.length)).take ((n + 1) * 3) = inner.take (i * 3) ++ x ++ inner.drop (i * 3) := by
 have h0 : (L.take ((i + 1) * 3)).length = (i + 1) * 3 := by rw [List.length_take]; omega
 have h1 : (L.take ((i + 1) * 3) ++ inner.drop (i * 3) ++ T).take (i * 3) = inner.take (i * 3) := by
  rw [List.append_assoc, List.take_append_of_le_length (by omega), List.take_take, Nat.min_eq_left (by omega), ← ht, List.take_take, Nat.min_eq_left (by omega)]
 have h2 : (L.take ((i + 1) * 3) ++ inner.drop (i * 3) ++ T).drop (i * 3 + x.length) = inner.drop (i * 3) ++ T := by
  rw [List.append_assoc]
  exact List.drop_left' (by omega)
 rw [h1, h2, ← List.append_assoc]
 exact List.take_left' (by rw [List.length_append, List.length_append, List.length_take, List.length_drop]; omega)
set_option maxHeartbeats 4000000 in
set_option maxRecDepth 100000 in
theorem insert_raw (base i vb : Nat) (rows : List (List Value)) (x0 x1 x2 : Value) (w : World) (v : Value) (HO : Raw3 w base v rows) (hb : base ≤ w.heap.size) (hv : w.heap[vb]? = some (.cells #[x0, x1, x2] 84 (0, 0))) (h1 : ∀ u ∈ [x0, x1, x2], u.oneCell' = true) (hvb : some vb ≠ v.ownBlock) (hi : i ≤ rows.length) (hl : rows.length < 1048576) :
  Calls Tryd.prog 53 #[v, .int .i64 i, .slice (some ⟨vb, 0, none⟩) 1 1] w fun e w' => ∃ v' : Value, e = .returned v' ∧ Raw3 w' base v' (rows.take i ++ [x0, x1, x2] :: rows.drop i) ∧ w.grownBy w' v.ownBlock ∧ (v'.ownBlock = v.ownBlock ∨ ∃ b, v'.ownBlock = some b ∧ w.heap.size ≤ b) := by
 have u22 := Tryd.underlying48
 by_cases hin : i = rows.length
 ·subst hin
  have HL := Aside0.mk hl
  have HO' := Aside0.mk HO
  have HB := Aside0.mk hb
  have HV := Aside0.mk hv
  have H1 := Aside0.mk h1
  have HVB := Aside0.mk hvb
  obtain ⟨A, c, rfl⟩ := Kd.R_slice HO
  have hnc := (Kd.R_reads' HO).2.1
  clear HO hi hl hb hv h1 hvb
  have HRD : Aside0 (ReadsRow (fun x cs => cs = x ∧ cs.length = 3 ∧ ∀ u ∈ cs, u.oneCell' = true) 3 w (some ⟨vb, 0, none⟩) 1 [[x0, x1, x2]]) := by
   refine ⟨rfl, by decide, fun _ => ⟨_, rfl, fun j p hj => ?_⟩⟩
   cases j with
   | succ j => simp at hj
   | zero =>
    obtain rfl := Option.some.inj hj
    refine ⟨[x0, x1, x2], rfl, ⟨rfl, rfl, H1.out⟩, fun q u hq => ?_⟩
    rw [Nat.zero_mul, Nat.zero_add, Addr.add_lit, blk_cell HV.out, ← Array.getElem?_toList, Nat.zero_add]
    exact hq
  go_enter Tryd.func53, Tryd.ntmps53
  go_wp2_with (first | ((with_reducible refine gate_builtin (b := .append) (xs := #[.tmp 23, .tmp 24]) rfl ?_); at_builtin; refine Kd.R_append_rows (Kd.raw 3) (Rr := fun x cs => cs = x ∧ cs.length = 3 ∧ ∀ u ∈ cs, u.oneCell' = true) (w0 := w) base rfl (.tmp 23) (.tmp 24) 48 84 (.agg #[(.string ⟨#[]⟩), (.slice none 0 0), (.int .i64 0)]) 48 rfl Tryd.underlying48 info84 rfl (Nat.succ_pos 2) (by omega) (.slice A rows.length c) rows [[x0, x1, x2]] _ _ _ (fun _ => True) (fun _ => False) rfl rfl HO'.out HRD.out (fun _ _ h => h) (fun _ h => h.elim) (fun _ _ => trivial) (Below.refl _ _) HB.out ?aL ?_; (case aL => have := HL.out; simp; omega); intro v111 w5 ho hb hg hat; have HOA := Aside0.mk ho; have HBA := Aside0.mk hb; have HGA := Aside0.mk hg; have HTA := Aside0.mk hat; clear ho hb hg hat))
  all_goals (
   go_ret
   (cases A <;> exact ⟨_, rfl, by simpa using HOA.out, HGA.out, HTA.out⟩))
 ·obtain ⟨n, hn⟩ : ∃ n, n = rows.length := ⟨_, rfl⟩
  obtain ⟨g, cap, rfl, hbg, hgl, _⟩ := Kd.R_form HO (by omega)
  obtain ⟨inner, ho, hr⟩ := raw_open HO
  rw [← hn] at ho hi hl hin
  have hcap : n ≤ cap := by have := (Kd.R_reads' HO).2.1; omega
  have HO' := Aside0.mk HO
  rw [← hn] at HO' ⊢
  have HB := Aside0.mk hb
  have HV := Aside0.mk hv
  have H1 := Aside0.mk h1
  have hbn : vb ≠ g := fun e => hvb (by simp [Value.ownBlock, e])
  have HVB := Aside0.mk hbn
  have HR := Aside0.mk hr
  have HN := Aside0.mk hn
  have HOW := Aside0.mk ho
  have HGL := Aside0.mk hgl
  have HBG := Aside0.mk hbg
  clear HO hb hv h1 hvb hr hn ho hgl hbg hbn
  have hlt : i < n := by omega
  have hci : ¬ (cap = i) := by omega
  have hw1 : IntKind.i64.wrap ((n : Int) + 1) = (n : Int) + 1 := by rw [IntKind.wrap_i64]; omega
  have hne : decide ((i : Int) = (n : Int)) = false := decide_eq_false (by omega)
  by_cases hroom : cap < n + 1
  ·have hw2 : IntKind.i64.wrap ((n : Int) + 1 - (i : Int)) = ((n + 1 - i : Nat) : Int) := by rw [IntKind.wrap_i64]; omega
   have hw3 : IntKind.i64.wrap ((i : Int) + 1) = ((i + 1 : Nat) : Int) := by rw [IntKind.wrap_i64]; omega
   have hgt : decide ((cap : Int) < (n : Int) + 1) = true := decide_eq_true (by omega)
   have HOWc := HOW.out.2
   rcases HOWc with ⟨hv, _⟩ | ⟨g', cap', cur, hv, _, hh, _, hcm, hcs, htk⟩
   ·cases hv
   injection hv with hv1 _ hv3
   injection hv1 with hv1
   injection hv1 with hv1
   subst hv1
   subst hv3
   have hil : inner.length = n * 3 := HOW.out.1
   have HCUR : ∀ q, q < n * 3 → cur.toList[q]? = inner[q]? := by
    intro q hq
    rw [← htk, List.getElem?_take, if_pos hq]
   obtain ⟨W1, C, cur0, hrun, hN1, hC1, hC2, hC3, hT1, hB1⟩ := zeros_new w g n cap i cur hh hcs hlt hl hcap hroom
   have HRUN := Aside0.mk hrun
   have hg1 : W1.heap[g]? = some (.cells cur 84 (0, 0)) := (hB1.block g HGL.out).trans hh
   have hv1 : W1.heap[vb]? = some (.cells #[x0, x1, x2] 84 (0, 0)) := (hB1.block vb (blk_lt HV.out)).trans HV.out
   -- the new element
   have hcp1 := fun ty (dc sc : Nat) => run_copyK (P := Tryd.prog) W1 48 48 ty 84 3 w.heap.size (i * 3) (n + 1 - i) dc ⟨vb, 0, none⟩ 1 sc [x0, x1, x2] Tryd.underlying48 info84s (by rw [show Nat.min 1 (n + 1 - i) = 1 from Nat.min_eq_left (by omega)]; rfl) (cells_at hv1 0 _ (fun j hj => by rw [Nat.zero_add])) (fun j hj => by rw [blk_cell hN1]; simp at hj ⊢; omega) (fun j _ => blk_frozen hN1 _) H1.out
   rw [show Nat.min 1 (n + 1 - i) = 1 from Nat.min_eq_left (by omega)] at hcp1
   have hN2 := setCells_splice [x0, x1, x2] (i * 3) W1 cur0 hN1 (by simp; omega)
   have hg2 : (W1.setCells w.heap.size (i * 3) [x0, x1, x2]).heap[g]? = some (.cells cur 84 (0, 0)) := (setCells_far _ _ g (by have := HGL.out; omega)).trans hg1
   have hB2 : Below w.heap.size w (W1.setCells w.heap.size (i * 3) [x0, x1, x2]) := below_setCells hB1 (Nat.le_refl _)
   generalize W1.setCells w.heap.size (i * 3) [x0, x1, x2] = W2 at hcp1 hN2 hg2 hB2
   -- what stood from i on
   have hcp2 := fun ty (dc sc : Nat) => run_copyK (P := Tryd.prog) W2.drew 48 48 ty 84 3 w.heap.size ((i + 1) * 3) (n - i) dc ⟨g, i * 3, none⟩ (n - i) sc (inner.drop (i * 3)) Tryd.underlying48 info84s (by rw [List.length_drop, hil, show Nat.min (n - i) (n - i) = n - i from Nat.min_self _]; omega) (cells_at (W := W2.drew) hg2 (i * 3) _ (fun j hj => by rw [List.length_drop] at hj; rw [List.getElem?_drop]; exact HCUR _ (by omega))) (fun j hj => by rw [List.length_drop] at hj; rw [blk_cell (w := W2.drew) hN2]; simp; omega) (fun j _ => blk_frozen (w := W2.drew) hN2 _) (fun u hu => raw_ones HR.out u (List.mem_of_mem_drop hu))
   have hN3 := setCells_splice (inner.drop (i * 3)) ((i + 1) * 3) W2.drew _ hN2 (by simp; omega)
   have HC1 := Aside0.mk hcp1
   have HC2 := Aside0.mk hcp2
   have HN3 := Aside0.mk hN3
   have HB2 := Aside0.mk hB2
   have HT1 := Aside0.mk hT1
   have HTK := Aside0.mk htk
   clear hcp1 hcp2 hN3 hB2 hN2 hN1 hg1 hg2 hv1 hrun hh hcs htk hT1 HCUR
   have hb1 : (0 : Int) ≤ (i : Int) + 1 := by omega
   have hCi : ¬ (C = i + 1) := by omega
   go_enter Tryd.func53, Tryd.ntmps53
   go_wp2_with (first | ((with_reducible refine gate_builtin (b := .append) (xs := #[.tmp 34, .tmp 39]) rfl ?_); at_builtin; refine Lib.wpList_append_run w rfl (.tmp 34) (.tmp 39) 48 3 rfl _ _ rfl rfl _ _ (HRUN.out _) ?_) | ((with_reducible refine gate_builtin (b := .copy) (xs := #[.tmp 43, .tmp 44]) rfl ?_); refine copy_event _ rfl (.tmp 43) (.tmp 44) 48 48 rfl _ _ rfl rfl (HC1.out _ _ _) ?_))
   refine start_ (n := 9) (S := fun w' => True) (ds := []) #[false, false, false, false, false, false, false, false, false] (by kernel_rfl) rfl rfl trivial (fun hHeld => ?_)
   refine pure_ (i := 0) (N := some 46) (v := ?_) (a' := ?_) #[true, false, false, false, false, false, false, false, false] rfl rfl (by kernel_rfl) (fun _ _ _ h => h) (Or.inl ⟨by rfl, ?_⟩) ?_ ?_
   rotate_left
   ·intro w'
    go_simp
    with_reducible rfl
   rotate_left
   ·simp only [Act.put, List.setIfInBounds_toArray, List.set_cons_zero, List.set_cons_succ, i64_w, i32_w]
    rfl
   refine pure_ (i := 1) (N := some 47) (v := ?_) (a' := ?_) #[true, true, false, false, false, false, false, false, false] rfl rfl (by kernel_rfl) (fun _ _ _ h => h) (Or.inl ⟨by rfl, ?_⟩) ?_ ?_
   rotate_left
   ·intro w'
    go_simp
    with_reducible rfl
   rotate_left
   ·simp only [Act.put, List.setIfInBounds_toArray, List.set_cons_zero, List.set_cons_succ, i64_w, i32_w]
    rfl
   refine pure_ (i := 2) (N := some 48) (v := ?_) (a' := ?_) #[true, true, true, false, false, false, false, false, false] rfl rfl (by kernel_rfl) (fun _ _ _ h => h) (Or.inl ⟨by rfl, ?_⟩) ?_ ?_
   rotate_left
   ·intro w'
    go_simp
    with_reducible rfl
   rotate_left
   ·simp only [Act.put, List.setIfInBounds_toArray, List.set_cons_zero, List.set_cons_succ, i64_w, i32_w]
    rfl
   refine pure_ (i := 3) (N := some 49) (v := ?_) (a' := ?_) #[true, true, true, true, false, false, false, false, false] rfl rfl (by kernel_rfl) (fun _ _ _ h => h) (Or.inl ⟨by rfl, ?_⟩) ?_ ?_
   rotate_left
   ·intro w'
    go_simp
    with_reducible rfl
   rotate_left
   ·simp only [Act.put, List.setIfInBounds_toArray, List.set_cons_zero, List.set_cons_succ, i64_w, i32_w]
    rfl
   refine pure_ (i := 4) (N := some 50) (v := ?_) (a' := ?_) #[true, true, true, true, true, false, false, false, false] rfl rfl (by kernel_rfl) (fun _ _ _ h => h) (Or.inl ⟨by rfl, ?_⟩) ?_ ?_
   rotate_left
   ·intro w'
    go_simp
    with_reducible rfl
   rotate_left
   ·simp only [Act.put, List.setIfInBounds_toArray, List.set_cons_zero, List.set_cons_succ, i64_w, i32_w]
    rfl
   refine pure_ (i := 5) (N := some 51) (v := ?_) (a' := ?_) #[true, true, true, true, true, true, false, false, false] rfl rfl (by kernel_rfl) (fun _ _ _ h => h) (Or.inl ⟨by rfl, ?_⟩) ?_ ?_
   rotate_left
   ·intro w'
    go_simp
    with_reducible rfl
   rotate_left
   ·simp only [Act.put, List.setIfInBounds_toArray, List.set_cons_zero, List.set_cons_succ, i64_w, i32_w]
    rfl
   refine pure_ (i := 6) (N := some 52) (v := ?_) (a' := ?_) #[true, true, true, true, true, true, true, false, false] rfl rfl (by kernel_rfl) (fun _ _ _ h => h) (Or.inl ⟨by rfl, ?_⟩) ?_ ?_
   rotate_left
   ·intro w'
    go_simp
    with_reducible rfl
   rotate_left
   ·simp only [Act.put, List.setIfInBounds_toArray, List.set_cons_zero, List.set_cons_succ, i64_w, i32_w]
    rfl
   refine pure_ (i := 7) (N := some 53) (v := ?_) (a' := ?_) #[true, true, true, true, true, true, true, true, false] rfl rfl (by kernel_rfl) (fun _ _ _ h => h) (Or.inl ⟨by rfl, ?_⟩) ?_ ?_
   rotate_left
   ·intro w'
    go_simp
    with_reducible rfl
   rotate_left
   ·simp only [Act.put, List.setIfInBounds_toArray, List.set_cons_zero, List.set_cons_succ, i64_w, i32_w]
    rfl
   refine one_ (i := 8) (N := some 54) #[true, true, true, true, true, true, true, true, true] rfl rfl (by kernel_rfl) (by decide) (fun K hK => ?_)
   refine copy_step _ rfl (.tmp 50) (.tmp 53) 48 48 rfl _ _ rfl rfl (HC2.out _ _ _) ?_
   refine hK.out _ _ trivial (fun hHeld => ?_)
   clear hK K
   refine norm_ (a' := ?_) ?_ ?_
   rotate_left
   ·show Act.put _ (some 54) _ = _
    simp only [Act.put, List.setIfInBounds_toArray, List.set_cons_zero, List.set_cons_succ, i64_w, i32_w]
    rfl
   refine done_ (by kernel_rfl) ?_
   go_wp2
   go_ret
   have hfin := fun T => ins_grow cur0.toList inner [x0, x1, x2] T i n rfl hil hlt (by rw [Array.length_toList]; omega) (HT1.out.trans (by rw [← HTK.out, List.take_take, Nat.min_eq_left (by omega)]))
   have hrows : (rows.take i ++ [x0, x1, x2] :: rows.drop i).length = n + 1 := by rw [List.length_append, List.length_cons, List.length_take, List.length_drop, ← HN.out]; omega
   refine ⟨_, rfl, ?_, grown_of_below (below_setCells (below_drew1 HB2.out) (Nat.le_refl _)) _, .inr ⟨w.heap.size, rfl, Nat.le_refl _⟩⟩
   have hmk := raw_make (rows := rows.take i ++ [x0, x1, x2] :: rows.drop i) (inner := inner.take (i * 3) ++ [x0, x1, x2] ++ inner.drop (i * 3)) HB.out HN3.out (by rw [hrows]; exact hC2) hC3 (by simp; omega) (by rw [hrows]; exact hfin _) (by
    rw [List.append_cons]
    exact Kd.reps_append (Kd.reps_append (Kd.reps_take HR.out (by rw [← HN.out]; exact hi)) (raw_one rfl H1.out)) (Kd.reps_drop HR.out))
   rw [hrows] at hmk
   exact hmk
  ·clear hw1
   have hw1 : IntKind.i64.wrap ((n : Int) + 1) = ((n + 1 : Nat) : Int) := by rw [IntKind.wrap_i64]; omega
   have hw3 : IntKind.i64.wrap ((i : Int) + 1) = ((i + 1 : Nat) : Int) := by rw [IntKind.wrap_i64]; omega
   have hgt : decide ((cap : Int) < (n : Int) + 1) = false := decide_eq_false (by omega)
   have hgt2 : decide ((cap : Int) < ((n + 1 : Nat) : Int)) = false := decide_eq_false (by omega)
   have HOWc := HOW.out.2
   rcases HOWc with ⟨hv, _⟩ | ⟨g', cap', cur, hv, _, hh, _, hcm, hcs, htk⟩
   ·cases hv
   injection hv with hv1 _ hv3
   injection hv1 with hv1
   injection hv1 with hv1
   subst hv1
   subst hv3
   have hil : inner.length = n * 3 := HOW.out.1
   have HCUR : ∀ q, q < n * 3 → cur.toList[q]? = inner[q]? := by
    intro q hq
    rw [← htk, List.getElem?_take, if_pos hq]
   have hsz : ∀ w, (Go.sizeOf 84).run Tryd.prog w = .ok 3 w := by
    obtain ⟨i0, hi0, hz0⟩ := Option.map_eq_some_iff.1 info84s
    intro w
    simp [Go.sizeOf, typeInfo, hi0, hz0]
   have hov : ∀ lb cb, (callFunc 76 #[.slice (some ⟨vb, 0, none⟩) 1 1, .slice (some ⟨g, (i + 1) * 3, none⟩) lb cb]).run Tryd.prog w = .ok (.value (.bool false)) w := fun lb cb => by
    rw [run_callFunc_extern Tryd.func76 (by kernel_rfl) (by kernel_rfl) (by kernel_rfl) (e := Extern.SlicesOverlaps.overlaps #[48, 48] #[4]) (by kernel_rfl),
     Lib.run_overlaps_apart w 48 4 84 Tryd.underlying48 3 hsz ⟨vb, 0, none⟩ ⟨g, (i + 1) * 3, none⟩ 1 1 lb cb HVB.out 84 84 3 cur.size (by simp [World.shape?, HV.out]) (by simp [World.shape?, hh]) (by omega) (blk_frozen HV.out _) (blk_frozen HV.out _)]
    rfl
   -- what stands from i on moves up
   have hcp1 := fun ty (dc sc : Nat) => run_copyK (P := Tryd.prog) w.drew 48 48 ty 84 3 g ((i + 1) * 3) (n - i) dc ⟨g, i * 3, none⟩ (n + 1 - i) sc (inner.drop (i * 3)) Tryd.underlying48 info84s (by rw [List.length_drop, hil, show Nat.min (n + 1 - i) (n - i) = n - i from Nat.min_eq_right (by omega)]; omega) (cells_at (W := w.drew) hh (i * 3) _ (fun j hj => by rw [List.length_drop] at hj; rw [List.getElem?_drop]; exact HCUR _ (by omega))) (fun j hj => by rw [List.length_drop] at hj; rw [blk_cell (w := w.drew) hh]; simp; omega) (fun j _ => blk_frozen (w := w.drew) hh _) (fun u hu => raw_ones HR.out u (List.mem_of_mem_drop hu))
   have hN2 := setCells_splice (inner.drop (i * 3)) ((i + 1) * 3) w.drew cur hh (by rw [List.length_drop]; omega)
   have hv2 : (w.drew.setCells g ((i + 1) * 3) (inner.drop (i * 3))).heap[vb]? = some (.cells #[x0, x1, x2] 84 (0, 0)) := (setCells_far _ _ vb HVB.out).trans HV.out
   have hB2 : w.grownBy (w.drew.setCells g ((i + 1) * 3) (inner.drop (i * 3))) (some g) := by
    obtain ⟨q1, q2, q3, q4, q5⟩ := grown_setCells (W := w.drew) (g := g) (o := (i + 1) * 3) (vs := inner.drop (i * 3))
    exact ⟨q1, q2, q3, q4, q5⟩
   generalize w.drew.setCells g ((i + 1) * 3) (inner.drop (i * 3)) = W2 at hcp1 hN2 hv2 hB2
   -- the new element
   have hcp2 := fun ty (dc sc : Nat) => run_copyK (P := Tryd.prog) W2 48 48 ty 84 3 g (i * 3) (n + 1 - i) dc ⟨vb, 0, none⟩ 1 sc [x0, x1, x2] Tryd.underlying48 info84s (by rw [show Nat.min 1 (n + 1 - i) = 1 from Nat.min_eq_left (by omega)]; rfl) (cells_at hv2 0 _ (fun j hj => by rw [Nat.zero_add])) (fun j hj => by rw [blk_cell hN2]; simp at hj ⊢; omega) (fun j _ => blk_frozen hN2 _) H1.out
   have hN3 := setCells_splice [x0, x1, x2] (i * 3) W2 _ hN2 (by simp; omega)
   have HC1 := Aside0.mk hcp1
   have HC2 := Aside0.mk hcp2
   have HN3 := Aside0.mk hN3
   have HB2 := Aside0.mk hB2
   have HTK := Aside0.mk htk
   clear hcp1 hcp2 hN3 hB2 hN2 hv2 hh htk HCUR hsz
   have hb1 : (0 : Int) ≤ (i : Int) + 1 := by omega
   have hci2 : ¬ (cap = i + 1) := by omega
   have hb3 : (i : Int) ≤ (n : Int) + 1 := by omega
   go_enter Tryd.func53, Tryd.ntmps53
   go_wp2_with (first | (simp only [hov]))
   refine start_ (n := 9) (S := fun w' => True) (ds := []) #[false, false, false, false, false, false, false, false, false] (by kernel_rfl) rfl rfl trivial (fun hHeld => ?_)
   refine pure_ (i := 0) (N := some 69) (v := ?_) (a' := ?_) #[true, false, false, false, false, false, false, false, false] rfl rfl (by kernel_rfl) (fun _ _ _ h => h) (Or.inl ⟨by rfl, ?_⟩) ?_ ?_
   rotate_left
   ·intro w'
    go_simp
    with_reducible rfl
   rotate_left
   ·simp only [Act.put, List.setIfInBounds_toArray, List.set_cons_zero, List.set_cons_succ, i64_w, i32_w]
    rfl
   refine pure_ (i := 1) (N := some 70) (v := ?_) (a' := ?_) #[true, true, false, false, false, false, false, false, false] rfl rfl (by kernel_rfl) (fun _ _ _ h => h) (Or.inl ⟨by rfl, ?_⟩) ?_ ?_
   rotate_left
   ·intro w'
    go_simp
    with_reducible rfl
   rotate_left
   ·simp only [Act.put, List.setIfInBounds_toArray, List.set_cons_zero, List.set_cons_succ, i64_w, i32_w]
    rfl
   refine pure_ (i := 2) (N := some 71) (v := ?_) (a' := ?_) #[true, true, true, false, false, false, false, false, false] rfl rfl (by kernel_rfl) (fun _ _ _ h => h) (Or.inl ⟨by rfl, ?_⟩) ?_ ?_
   rotate_left
   ·intro w'
    go_simp
    with_reducible rfl
   rotate_left
   ·simp only [Act.put, List.setIfInBounds_toArray, List.set_cons_zero, List.set_cons_succ, i64_w, i32_w]
    rfl
   refine pure_ (i := 3) (N := some 72) (v := ?_) (a' := ?_) #[true, true, true, true, false, false, false, false, false] rfl rfl (by kernel_rfl) (fun _ _ _ h => h) (Or.inl ⟨by rfl, ?_⟩) ?_ ?_
   rotate_left
   ·intro w'
    go_simp
    with_reducible rfl
   rotate_left
   ·simp only [Act.put, List.setIfInBounds_toArray, List.set_cons_zero, List.set_cons_succ, i64_w, i32_w]
    rfl
   refine pure_ (i := 4) (N := some 73) (v := ?_) (a' := ?_) #[true, true, true, true, true, false, false, false, false] rfl rfl (by kernel_rfl) (fun _ _ _ h => h) (Or.inl ⟨by rfl, ?_⟩) ?_ ?_
   rotate_left
   ·intro w'
    go_simp
    with_reducible rfl
   rotate_left
   ·simp only [Act.put, List.setIfInBounds_toArray, List.set_cons_zero, List.set_cons_succ, i64_w, i32_w]
    rfl
   refine pure_ (i := 5) (N := some 74) (v := ?_) (a' := ?_) #[true, true, true, true, true, true, false, false, false] rfl rfl (by kernel_rfl) (fun _ _ _ h => h) (Or.inl ⟨by rfl, ?_⟩) ?_ ?_
   rotate_left
   ·intro w'
    go_simp
    with_reducible rfl
   rotate_left
   ·simp only [Act.put, List.setIfInBounds_toArray, List.set_cons_zero, List.set_cons_succ, i64_w, i32_w]
    rfl
   refine pure_ (i := 6) (N := some 75) (v := ?_) (a' := ?_) #[true, true, true, true, true, true, true, false, false] rfl rfl (by kernel_rfl) (fun _ _ _ h => h) (Or.inl ⟨by rfl, ?_⟩) ?_ ?_
   rotate_left
   ·intro w'
    go_simp
    with_reducible rfl
   rotate_left
   ·simp only [Act.put, List.setIfInBounds_toArray, List.set_cons_zero, List.set_cons_succ, i64_w, i32_w]
    rfl
   refine pure_ (i := 7) (N := some 76) (v := ?_) (a' := ?_) #[true, true, true, true, true, true, true, true, false] rfl rfl (by kernel_rfl) (fun _ _ _ h => h) (Or.inl ⟨by rfl, ?_⟩) ?_ ?_
   rotate_left
   ·intro w'
    go_simp
    with_reducible rfl
   rotate_left
   ·simp only [Act.put, List.setIfInBounds_toArray, List.set_cons_zero, List.set_cons_succ, i64_w, i32_w]
    rfl
   refine one_ (i := 8) (N := some 77) #[true, true, true, true, true, true, true, true, true] rfl rfl (by kernel_rfl) (by decide) (fun K hK => ?_)
   refine copy_step _ rfl (.tmp 73) (.tmp 76) 48 48 rfl _ _ rfl rfl (HC1.out _ _ _) ?_
   refine hK.out _ _ trivial (fun hHeld => ?_)
   clear hK K
   refine norm_ (a' := ?_) ?_ ?_
   rotate_left
   ·show Act.put _ (some 77) _ = _
    simp only [Act.put, List.setIfInBounds_toArray, List.set_cons_zero, List.set_cons_succ, i64_w, i32_w]
    rfl
   refine done_ (by kernel_rfl) ?_
   go_wp2_with (first | ((with_reducible refine gate_builtin (b := .copy) (xs := #[.tmp 80, .tmp 81]) rfl ?_); refine copy_event _ rfl (.tmp 80) (.tmp 81) 48 48 rfl _ _ rfl rfl (HC2.out _ _ _) ?_))
   go_ret
   have hfin := fun T => ins_room cur.toList inner [x0, x1, x2] T i n rfl hil hlt (by rw [Array.length_toList]; omega) HTK.out
   have hrows : (rows.take i ++ [x0, x1, x2] :: rows.drop i).length = n + 1 := by rw [List.length_append, List.length_cons, List.length_take, List.length_drop, ← HN.out]; omega
   refine ⟨_, rfl, ?_, ?_, .inl rfl⟩
   ·have hmk := raw_make (rows := rows.take i ++ [x0, x1, x2] :: rows.drop i) (inner := inner.take (i * 3) ++ [x0, x1, x2] ++ inner.drop (i * 3)) HBG.out HN3.out (by rw [hrows]; omega) hcm (by simp; omega) (by rw [hrows]; exact hfin _) (by
     rw [List.append_cons]
     exact Kd.reps_append (Kd.reps_append (Kd.reps_take HR.out (by rw [← HN.out]; exact hi)) (raw_one rfl H1.out)) (Kd.reps_drop HR.out))
    rw [hrows] at hmk
    exact hmk
   ·exact HB2.out.trans grown_setCells
end Go.Proofs.YtdcifmonhaklcaaDoor.A
