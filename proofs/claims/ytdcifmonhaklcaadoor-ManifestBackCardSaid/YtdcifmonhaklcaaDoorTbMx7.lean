/- Walks: each Go function that is told here comes to what the plain function beside it says, wherever that one answers. Written by a program of this session (wip/tools/pr.sh), after the manner of print.sh. -/
import Derived.Test.YtdcifmonhaklcaaDoorTbMx0
import Derived.Test.YtdcifmonhaklcaaDoorTbMx2
namespace Go.Proofs.YtdcifmonhaklcaaDoor.M
open Go.RowKit Go.Proofs.YtdcifmonhaklcaaDoorW.PrintWords Go.Proofs.YtdcifmonhaklcaaDoorW.PrintLast Go.Proofs.YtdcifmonhaklcaaDoorW.PrintMore
attribute [local go_sem] min2_int min_two -- for this text's walks alone
set_option linter.unusedVariables false
set_option linter.unusedSimpArgs false
def dragnetref02_Bytes.l0 : Nat → Int → List Int → Option (List Int)
  | 0, _, _ => none
  | k + 1, x0, x3 => if x0 > 0 then (if x3.length < 140737488355328 then ((some (x3 ++ [(Int.tmod x0 256) % 256] : List Int)).bind fun y218 => (if 0 < (y218.length : Int) then (dragnetref02_Bytes.l0 k (IntKind.u64.wrap (Int.tdiv x0 256)) (y218.set (0 : Int).toNat (((rd y218 0) + 1) % 256))) else (none))) else (none)) else (some x3)
def dragnetref02_Bytes.f (k : Nat) (a0 : Int) : Option (List Int) := if a0 ≤ 247 then (some (([(a0) % 256] : List Int))) else (dragnetref02_Bytes.l0 k a0 (([247] : List Int)))
set_option maxHeartbeats 8000000 in
set_option maxRecDepth 100000 in
theorem dragnetref02_Bytes.calls (k : Nat) (a0 : Int) (r : List Int) (w : World) (h : dragnetref02_Bytes.f k a0 = some r) :
    Calls Tryd.prog 42 #[.int .u64 a0] w fun e w' => ∃ v0_ : Value, e = .returned (v0_) ∧ Kd.R (Kd.int .u8) 5 w' w.heap.size (fun _ => True) v0_ r ∧ Below w.heap.size w w' := by
  have HB := Aside0.mk (Below.refl w.heap.size w)
  have H : (if a0 ≤ 247 then (some (([(a0) % 256] : List Int))) else (dragnetref02_Bytes.l0 k a0 (([247] : List Int)))) = some r := h
  clear h
  by_cases c2 : a0 ≤ 247
  · rw [if_pos c2] at H
    have c2b0 : decide (a0 ≤ 247) = true := decide_eq_true c2
    clear c2
    obtain ⟨y212, hy212⟩ : ∃ y_ : List Int, y_ = (([(a0) % 256] : List Int)) := ⟨_, rfl⟩
    replace H : (some y212) = some r := by first | (rw [hy212]; with_reducible exact H) | (have H2_ := (Option.bind_some _ _).symm.trans H; rw [hy212]; with_reducible exact H2_) | (have H2_ := (Option.bind_some _ _).symm.trans H; with_reducible exact H2_) | with_reducible exact H | (rw [hy212]; exact H) | exact H
    have Ny212 := Aside0.mk hy212
    clear hy212
    obtain rfl := Option.some.inj H
    go_enter Tryd.func42, Tryd.ntmps42
    go_wp2_with (first | ((with_reducible refine gate_dst (N := 8) rfl ?_); refine Kd.R_lit (Kd.int .u8) _ 5 ?hg (N := 8) ?hd (xs := ([(a0) % 256] : List Int)) (inner := [.int .u8 ((a0) % 256)]) (ok := fun _ => True) (okp := fun _ => True) ?hr ?hp (fun _ hk => hk) trivial (Below.refl _ _) (Nat.le_refl _) (by simp) ?_; (case hd => rfl); (case hg => rfl); (case hr => first | (go_simp; done) | (go_simp; rfl)); (case hp => exact (Reps.one (show Kd.M (Kd.int .u8) _ _ _ ((a0) % 256) [.int .u8 ((a0) % 256)] from rfl) (Reps.none _ _))); intro v213 w3 ho4 hb hg_ hnew_; clear hg_ hnew_; (first | rw [← Ny212.out] at ho4 | (simp only [Int.reduceToNat] at ho4; rw [← Ny212.out] at ho4)); have n0_ := Aside0.mk (Kd.R_lower ho4 (below_size (by repeat (first | (with_reducible first | exact HB.out | apply below_alloc | apply pw_below_drewN | apply below_drew1) | exact HB.out)))); have n1_ := Aside0.mk (below_step (by repeat (first | (with_reducible first | exact HB.out | apply below_alloc | apply pw_below_drewN | apply below_drew1) | exact HB.out)) hb); clear HB; have HO214 := n0_; have HB := n1_; clear n0_ n1_; clear hb ho4))
    go_ret
    exact ⟨_, by first | rfl | (simp [errW_none, errW_some] <;> rfl) | (simp [*, errW_none, errW_some] <;> rfl), by (with_reducible repeat (first | apply Kd.R_alloc | apply Kd.R_drewN | apply Kd.R_drew)); exact HO214.out, by repeat (first | (with_reducible first | exact HB.out | apply below_alloc | apply pw_below_drewN | apply below_drew1) | exact HB.out)⟩
  · rw [if_neg c2] at H
    have c2b0 : decide (a0 ≤ 247) = false := decide_eq_false c2
    clear c2
    obtain ⟨y215, hy215⟩ : ∃ y_ : List Int, y_ = (([247] : List Int)) := ⟨_, rfl⟩
    replace H : (dragnetref02_Bytes.l0 k a0 y215) = some r := by first | (rw [hy215]; with_reducible exact H) | (have H2_ := (Option.bind_some _ _).symm.trans H; rw [hy215]; with_reducible exact H2_) | (have H2_ := (Option.bind_some _ _).symm.trans H; with_reducible exact H2_) | with_reducible exact H | (rw [hy215]; exact H) | exact H
    have Ny215 := Aside0.mk hy215
    clear hy215
    have H' := Aside0.mk H
    clear H
    go_enter Tryd.func42, Tryd.ntmps42
    go_wp2_with (first | ((with_reducible refine gate_dst (N := 9) rfl ?_); refine Kd.R_lit (Kd.int .u8) _ 5 ?hg (N := 9) ?hd (xs := ([247] : List Int)) (inner := [.int .u8 247]) (ok := fun _ => True) (okp := fun _ => True) ?hr ?hp (fun _ hk => hk) trivial (Below.refl _ _) (Nat.le_refl _) (by simp) ?_; (case hd => rfl); (case hg => rfl); (case hr => first | (go_simp; done) | (go_simp; rfl)); (case hp => exact (Reps.one (show Kd.M (Kd.int .u8) _ _ _ 247 [.int .u8 247] from rfl) (Reps.none _ _))); intro v216 w5 ho6 hb hg_ hnew_; clear hg_ hnew_; (first | rw [← Ny215.out] at ho6 | (simp only [Int.reduceToNat] at ho6; rw [← Ny215.out] at ho6)); have n0_ := Aside0.mk (Kd.R_lower ho6 (below_size (by repeat (first | (with_reducible first | exact HB.out | apply below_alloc | apply pw_below_drewN | apply below_drew1) | exact HB.out)))); have n1_ := Aside0.mk (below_step (by repeat (first | (with_reducible first | exact HB.out | apply below_alloc | apply pw_below_drewN | apply below_drew1) | exact HB.out)) hb); clear HB; have HO217 := n0_; have HB := n1_; clear n0_ n1_; clear hb ho6))
    go_loopg [0, 3] k (fun kq v0 v3 w' => ∃ (x0_1 : Int) (x3_1 : List Int), v0 = .int .u64 x0_1 ∧ Aside0 (dragnetref02_Bytes.l0 kq x0_1 x3_1 = some r) ∧ Aside0 (kq ≤ k) ∧ Aside0 (Kd.R (Kd.int .u8) 5 w' w.heap.size (fun _ => True) v3 x3_1) ∧ Aside0 (Below w.heap.size w w'))
    case atStart => exact ⟨(a0), (y215), (by first | rfl | (simp; done) | (simp [*]; done)), H', ⟨Nat.le_refl _⟩, ⟨by (with_reducible repeat (first | apply Kd.R_alloc | apply Kd.R_drewN | apply Kd.R_drew)); exact HO217.out⟩, ⟨by repeat (first | (with_reducible first | exact HB.out | apply below_alloc | apply pw_below_drewN | apply below_drew1) | exact HB.out)⟩⟩
    case round =>
      clear H'
      try clear c2
      try clear c2b0
      try clear p2
      try clear c4
      obtain ⟨x0_1, x3_1, rfl, HA, HK1, HO_3, HB⟩ := hrel
      cases gk with
      | zero => exact absurd HA.out (by simp [dragnetref02_Bytes.l0])
      | succ k1 =>
        have H := HA.out
        clear HA
        simp only [dragnetref02_Bytes.l0] at H
        by_cases c7 : x0_1 > 0
        · rw [if_pos c7] at H
          have c7b0 : decide (0 < x0_1) = true := decide_eq_true c7
          clear c7
          by_cases c8 : x3_1.length < 140737488355328
          · rw [if_pos c8] at H
            have LMc8 := Aside0.mk c8
            clear c8
            obtain ⟨y218, hy218⟩ : ∃ y_ : List Int, y_ = (x3_1 ++ [(Int.tmod x0_1 256) % 256]) := ⟨_, rfl⟩
            replace H : (if 0 < (y218.length : Int) then (dragnetref02_Bytes.l0 k1 (IntKind.u64.wrap (Int.tdiv x0_1 256)) (y218.set (0 : Int).toNat (((rd y218 0) + 1) % 256))) else (none)) = some r := by first | (rw [hy218]; with_reducible exact H) | (have H2_ := (Option.bind_some _ _).symm.trans H; rw [hy218]; with_reducible exact H2_) | (have H2_ := (Option.bind_some _ _).symm.trans H; with_reducible exact H2_) | with_reducible exact H | (rw [hy218]; exact H) | exact H
            have Ny218 := Aside0.mk hy218
            clear hy218
            by_cases c9 : 0 < (y218.length : Int)
            · rw [if_pos c9] at H
              have c9b0 : decide (0 < (y218.length : Int)) = true := decide_eq_true c9
              have c9b1 : decide (0 < y218.length) = true := decide_eq_true (by omega)
              clear c9
              obtain ⟨y222, hy222⟩ : ∃ y_ : List Int, y_ = (y218.set (0 : Int).toNat (((rd y218 0) + 1) % 256)) := ⟨_, rfl⟩
              replace H : (dragnetref02_Bytes.l0 k1 (IntKind.u64.wrap (Int.tdiv x0_1 256)) y222) = some r := by first | (rw [hy222]; with_reducible exact H) | (have H2_ := (Option.bind_some _ _).symm.trans H; rw [hy222]; with_reducible exact H2_) | (have H2_ := (Option.bind_some _ _).symm.trans H; with_reducible exact H2_) | with_reducible exact H | (rw [hy222]; exact H) | exact H
              have Ny222 := Aside0.mk hy222
              clear hy222
              have H' := Aside0.mk H
              clear H
              go_wp2_with (first | ((with_reducible refine gate_builtin (b := .append) (xs := #[.tmp 12, .tmp 16]) rfl ?_); at_builtin; refine Kd.R_append (Kd.int .u8) (w0 := w) w.heap.size rfl (.tmp 12) (.tmp 16) 22 5 (.int .u8 0) 1 rfl Tryd.underlying22 info5 rfl (by decide) (by omega) u3 x3_1 ((Int.tmod x0_1 256) % 256) [.int .u8 ((Int.tmod x0_1 256) % 256)] (fun _ => True) (fun _ => False) rfl rfl ?aP (fun _ hk => hk.elim) ?aF ?aO ?aB ?aS ?aL ?_; (case aP => exact rfl); (case aB => exact (by repeat (first | (with_reducible first | exact HB.out | apply below_alloc | apply pw_below_drewN | apply below_drew1) | exact HB.out))); (case aF => exact (fun _ _ => trivial)); (case aO => exact (by (with_reducible repeat (first | apply Kd.R_alloc | apply Kd.R_drewN | apply Kd.R_drew)); exact HO_3.out)); (case aS => exact (below_size (by repeat (first | (with_reducible first | exact HB.out | apply below_alloc | apply pw_below_drewN | apply below_drew1) | exact HB.out)))); (case aL => have := LMc8.out; omega); intro v219 w11 ho hb hg hat; rw [← Ny218.out] at ho; have n0_ := Aside0.mk (hb); have n1_ := Aside0.mk (ho); clear HB; clear HO_3; have HB := n0_; have HO220 := n1_; clear n0_ n1_; clear ho hb hg hat; obtain ⟨Ao12, co12, eo12⟩ := Kd.R_slice HO220.out; subst eo12; have p221 : 0 ≤ (0 : Int) := (by omega); have q221 : 0 < (y218.length : Int) := of_decide_eq_true (by first | (with_reducible assumption) | assumption); obtain ⟨ad221, e221, hx221_0⟩ := Kd.at_int (Kd.R_reads' HO220.out).2.2 0 p221 q221; cases e221; have qi221 : (0 < y218.length) = True := eq_true (by omega); (try rw [show ((0 : Int)).toNat = 0 from rfl] at hx221_0); (try rw [Addr.add_zero'] at hx221_0); replace p221 := eq_true p221; replace q221 := eq_true q221; have p10 : 0 ≤ (0 : Int) := (by omega); have q10 : (0 : Int) < ((y218.length : Int) : Int) := of_decide_eq_true (by first | (with_reducible assumption) | assumption); have qi10 : (0 < y218.length) = True := eq_true (by omega); obtain ⟨go10, co10, eo10, gb10, gl10, cl10, HG10⟩ := Kd.R_form HO220.out (by omega); (first | cases eo10 | (injection eo10 with ea_ en_ ec_; (first | subst ea_ | (injection ea_ with ea_; subst ea_)); subst ec_; clear en_)); have GB10 := Aside0.mk gb10; have GG10 := Aside0.mk HG10; clear gb10 gl10 HG10; (first | simp only [add_plain] at hx221_0 | skip); obtain ⟨hx10_0, hf10_0⟩ := Kd.R_celln 0 HO220.out (0 : Int) p10 q10; (try rw [show ((0 : Int)).toNat = 0 from rfl] at hx10_0); (try simp only [Nat.reduceMul, Nat.zero_mul, Nat.zero_add, Nat.reduceAdd] at hx10_0); (try rw [show ((0 : Int)).toNat = 0 from rfl] at hf10_0); (try simp only [Nat.reduceMul, Nat.zero_mul, Nat.zero_add, Nat.reduceAdd] at hf10_0); replace p10 := eq_true p10; replace q10 := eq_true q10; obtain ⟨hy13_, hz13_⟩ := Kd.R_celln 0 HO220.out (0 : Int) (by omega) (of_decide_eq_true (by first | (with_reducible assumption) | assumption)); (try simp only [Int.reduceToNat, Int.toNat_zero, Int.toNat_ofNat, Nat.reduceMul, Nat.zero_mul, Nat.zero_add] at hy13_ hz13_); (try rw [show ((0 : Int)).toNat = 0 from rfl] at hy13_); (try rw [show ((0 : Int)).toNat = 0 from rfl] at hz13_); have HP13 := Kd.R_putg HO220.out (0 : Int) (((rd y218 0) + 1) % 256)) | ((with_reducible refine gate_store (t := 5) (p := 23) rfl ?_); refine store_event (t := 5) (p := 23) (v := ?vo_w14) (w1 := (w11.setCell ⟨go10, (0 : Int).toNat, none⟩ (.int .u8 (((rd y218 0) + 1) % 256)))) ?hg ?ho ?hn ?hr ?_; (case ho => rfl); (case hg => rfl); (case hn => rfl); (case hr => first | (go_simp; done) | (go_simp; rfl)); intro w14 hw; have hg : w11.grownBy w14 (some go10) := (by rw [hw]; exact HP13.2); have hp_ : Kd.R (Kd.int .u8) 5 w14 w.heap.size (fun _ => True) (.slice (some ⟨go10, 0, none⟩) y218.length co12) y222 := (by rw [hw, Ny222.out]; exact HP13.1); clear HP13; have n0_ := Aside0.mk (hp_); have n1_ := Aside0.mk ((by rw [hw]; exact below_set (HB.out) GB10.out : Below w.heap.size w w14)); clear HO220; clear HB; have HO220 := n0_; have HB := n1_; clear n0_ n1_; clear hg hw hp_))
              go_roundg k1
              case measure => have := HK1.out; omega
              case rel => exact ⟨(IntKind.u64.wrap (Int.tdiv x0_1 256)), (y222), (by first | rfl | (simp; done) | (simp [*]; done)), H', ⟨by have := HK1.out; omega⟩, ⟨by (with_reducible repeat (first | apply Kd.R_alloc | apply Kd.R_drewN | apply Kd.R_drew)); exact HO220.out⟩, ⟨by repeat (first | (with_reducible first | exact HB.out | apply below_alloc | apply pw_below_drewN | apply below_drew1) | exact HB.out)⟩⟩
            · rw [if_neg c9] at H
              exact absurd H (by simp)
          · rw [if_neg c8] at H
            exact absurd H (by simp)
        · rw [if_neg c7] at H
          have c7b0 : decide (0 < x0_1) = false := decide_eq_false c7
          clear c7
          obtain rfl := Option.some.inj H
          go_wp2
          go_ret
          exact ⟨_, by first | rfl | (simp [errW_none, errW_some] <;> rfl) | (simp [*, errW_none, errW_some] <;> rfl), by (with_reducible repeat (first | apply Kd.R_alloc | apply Kd.R_drewN | apply Kd.R_drew)); exact HO_3.out, by repeat (first | (with_reducible first | exact HB.out | apply below_alloc | apply pw_below_drewN | apply below_drew1) | exact HB.out)⟩
def dragnetref02_Take.l0 : Nat → List Int → Int → Int → Int → Option (Int × Int × Int)
  | 0, _, _, _, _ => none
  | k + 1, x0, x5, x6, x7 => if x7 > 0 then (if 0 ≤ x7 then (if x7 < (x0.length : Int) then (dragnetref02_Take.l0 k x0 x5 (IntKind.u64.wrap ((IntKind.u64.wrap (x6 * 256)) + (IntKind.u64.wrap (rd x0 x7)))) (wrap64 (x7 - 1))) else (none)) else (none)) else ((dragnetref02_Bytes.f k x6).bind fun t227 => (if (t227.length : Int) = (wrap64 (1 + x5)) then (some (x6, wrap64 (1 + x5), 0)) else (some (0, 0, 2))))
def dragnetref18_Formed.f (l0_0 : List S63) (a0_1 : Int) (a0_2 : Int) : Option Bool := if l0_0.length < 140737488355328 then some (decide (FormedC l0_0 a0_1 a0_2)) else none
set_option maxHeartbeats 8000000 in
set_option maxRecDepth 100000 in
theorem dragnetref18_Formed.calls (A0_0 : Option Addr) (c0_0 : Nat) (l0_0 : List (S63)) (a0_1 : Int) (a0_2 : Int) (r : Bool) (w : World) (hr0_0 : Kd.C k63 w A0_0 l0_0.length l0_0) (hc0_0 : l0_0.length ≤ c0_0) (h : dragnetref18_Formed.f l0_0 a0_1 a0_2 = some r) :
    Calls Tryd.prog 16 #[.agg #[.slice A0_0 l0_0.length c0_0, .int .i64 a0_1, .int .i64 a0_2]] w fun e w' => e = .returned (.bool r) ∧ Below w.heap.size w w' := by
  unfold dragnetref18_Formed.f at h
  by_cases hl : l0_0.length < 140737488355328
  case neg => rw [if_neg hl] at h; cases h
  rw [if_pos hl] at h
  have HRR := Aside0.mk (Option.some.inj h)
  clear h
  have HR := Aside0.mk hr0_0
  have HC := Aside0.mk hc0_0
  have HB := Aside0.mk (Below.refl w.heap.size w)
  have HL := Aside0.mk hl
  clear hr0_0 hc0_0 hl
  have hu27 := Tryd.underlying27
  have hu63 := Tryd.underlying63
  have hu25 := Tryd.underlying25
  by_cases c0 : 64 < (l0_0.length : Int)
  · have c0b : decide (64 < (l0_0.length : Int)) = true := decide_eq_true c0
    have hno : decide (FormedC l0_0 a0_1 a0_2) = false := decide_eq_false (fun h => by have := h.1; omega)
    clear c0
    obtain rfl : r = false := HRR.out.symm.trans hno
    go_enter Tryd.func16, Tryd.ntmps16
    go_wp2_with (first
      | ((with_reducible refine gate_dst (N := 1) rfl ?_); refine box_event ?hg (N := 1) ?hd (cs := #[.slice A0_0 l0_0.length c0_0, .int .i64 a0_1, .int .i64 a0_2]) (t := 27) ?hr ?_; (case hd => rfl); (case hg => rfl); (case hr => first | (go_simp; done) | (go_simp; rfl)); intro g1 hg1 w1 hbox hb; have HB_ := Aside0.mk (below_step HB.out hb); have CB1 := Aside0.mk hbox; clear hb hbox hg1 HB; have HB := HB_; clear HB_; have v10 : w1.cell? ⟨g1, 0, none⟩ = some (.slice A0_0 l0_0.length c0_0) := (blk_cell CB1.out 0).trans rfl; have v11 : w1.cell? ⟨g1, 1, none⟩ = some (.int .i64 a0_1) := (blk_cell CB1.out 1).trans rfl; have v12 : w1.cell? ⟨g1, 2, none⟩ = some (.int .i64 a0_2) := (blk_cell CB1.out 2).trans rfl))
    go_ret
    exact ⟨rfl, HB.out⟩
  · have c0b : decide (64 < (l0_0.length : Int)) = false := decide_eq_false c0
    have C0 := Aside0.mk c0
    clear c0
    by_cases c1 : a0_1 < 0
    · have c1b : decide (a0_1 < 0) = true := decide_eq_true c1
      have hno : decide (FormedC l0_0 a0_1 a0_2) = false := decide_eq_false (fun h => by have := h.2.1; omega)
      clear c1
      obtain rfl : r = false := HRR.out.symm.trans hno
      go_enter Tryd.func16, Tryd.ntmps16
      go_wp2_with (first
        | ((with_reducible refine gate_dst (N := 1) rfl ?_); refine box_event ?hg (N := 1) ?hd (cs := #[.slice A0_0 l0_0.length c0_0, .int .i64 a0_1, .int .i64 a0_2]) (t := 27) ?hr ?_; (case hd => rfl); (case hg => rfl); (case hr => first | (go_simp; done) | (go_simp; rfl)); intro g1 hg1 w1 hbox hb; have HB_ := Aside0.mk (below_step HB.out hb); have CB1 := Aside0.mk hbox; clear hb hbox hg1 HB; have HB := HB_; clear HB_; have v10 : w1.cell? ⟨g1, 0, none⟩ = some (.slice A0_0 l0_0.length c0_0) := (blk_cell CB1.out 0).trans rfl; have v11 : w1.cell? ⟨g1, 1, none⟩ = some (.int .i64 a0_1) := (blk_cell CB1.out 1).trans rfl; have v12 : w1.cell? ⟨g1, 2, none⟩ = some (.int .i64 a0_2) := (blk_cell CB1.out 2).trans rfl))
      go_ret
      exact ⟨rfl, HB.out⟩
    · have c1b : decide (a0_1 < 0) = false := decide_eq_false c1
      have C1 := Aside0.mk c1
      clear c1
      by_cases c2 : 2147483647 < a0_1
      · have c2b : decide (2147483647 < a0_1) = true := decide_eq_true c2
        have hno : decide (FormedC l0_0 a0_1 a0_2) = false := decide_eq_false (fun h => by have := h.2.2.1; omega)
        clear c2
        obtain rfl : r = false := HRR.out.symm.trans hno
        go_enter Tryd.func16, Tryd.ntmps16
        go_wp2_with (first
          | ((with_reducible refine gate_dst (N := 1) rfl ?_); refine box_event ?hg (N := 1) ?hd (cs := #[.slice A0_0 l0_0.length c0_0, .int .i64 a0_1, .int .i64 a0_2]) (t := 27) ?hr ?_; (case hd => rfl); (case hg => rfl); (case hr => first | (go_simp; done) | (go_simp; rfl)); intro g1 hg1 w1 hbox hb; have HB_ := Aside0.mk (below_step HB.out hb); have CB1 := Aside0.mk hbox; clear hb hbox hg1 HB; have HB := HB_; clear HB_; have v10 : w1.cell? ⟨g1, 0, none⟩ = some (.slice A0_0 l0_0.length c0_0) := (blk_cell CB1.out 0).trans rfl; have v11 : w1.cell? ⟨g1, 1, none⟩ = some (.int .i64 a0_1) := (blk_cell CB1.out 1).trans rfl; have v12 : w1.cell? ⟨g1, 2, none⟩ = some (.int .i64 a0_2) := (blk_cell CB1.out 2).trans rfl))
        go_ret
        exact ⟨rfl, HB.out⟩
      · have c2b : decide (2147483647 < a0_1) = false := decide_eq_false c2
        have C2 := Aside0.mk c2
        clear c2
        by_cases c3 : a0_2 < 0
        · have c3b : decide (a0_2 < 0) = true := decide_eq_true c3
          have hno : decide (FormedC l0_0 a0_1 a0_2) = false := decide_eq_false (fun h => by have := h.2.2.2.1; omega)
          clear c3
          obtain rfl : r = false := HRR.out.symm.trans hno
          go_enter Tryd.func16, Tryd.ntmps16
          go_wp2_with (first
            | ((with_reducible refine gate_dst (N := 1) rfl ?_); refine box_event ?hg (N := 1) ?hd (cs := #[.slice A0_0 l0_0.length c0_0, .int .i64 a0_1, .int .i64 a0_2]) (t := 27) ?hr ?_; (case hd => rfl); (case hg => rfl); (case hr => first | (go_simp; done) | (go_simp; rfl)); intro g1 hg1 w1 hbox hb; have HB_ := Aside0.mk (below_step HB.out hb); have CB1 := Aside0.mk hbox; clear hb hbox hg1 HB; have HB := HB_; clear HB_; have v10 : w1.cell? ⟨g1, 0, none⟩ = some (.slice A0_0 l0_0.length c0_0) := (blk_cell CB1.out 0).trans rfl; have v11 : w1.cell? ⟨g1, 1, none⟩ = some (.int .i64 a0_1) := (blk_cell CB1.out 1).trans rfl; have v12 : w1.cell? ⟨g1, 2, none⟩ = some (.int .i64 a0_2) := (blk_cell CB1.out 2).trans rfl))
          go_ret
          exact ⟨rfl, HB.out⟩
        · have c3b : decide (a0_2 < 0) = false := decide_eq_false c3
          have C3 := Aside0.mk c3
          clear c3
          by_cases c4 : 1099511627776 < a0_2
          · have c4b : decide (1099511627776 < a0_2) = true := decide_eq_true c4
            have hno : decide (FormedC l0_0 a0_1 a0_2) = false := decide_eq_false (fun h => by have := h.2.2.2.2.1; omega)
            clear c4
            obtain rfl : r = false := HRR.out.symm.trans hno
            go_enter Tryd.func16, Tryd.ntmps16
            go_wp2_with (first
              | ((with_reducible refine gate_dst (N := 1) rfl ?_); refine box_event ?hg (N := 1) ?hd (cs := #[.slice A0_0 l0_0.length c0_0, .int .i64 a0_1, .int .i64 a0_2]) (t := 27) ?hr ?_; (case hd => rfl); (case hg => rfl); (case hr => first | (go_simp; done) | (go_simp; rfl)); intro g1 hg1 w1 hbox hb; have HB_ := Aside0.mk (below_step HB.out hb); have CB1 := Aside0.mk hbox; clear hb hbox hg1 HB; have HB := HB_; clear HB_; have v10 : w1.cell? ⟨g1, 0, none⟩ = some (.slice A0_0 l0_0.length c0_0) := (blk_cell CB1.out 0).trans rfl; have v11 : w1.cell? ⟨g1, 1, none⟩ = some (.int .i64 a0_1) := (blk_cell CB1.out 1).trans rfl; have v12 : w1.cell? ⟨g1, 2, none⟩ = some (.int .i64 a0_2) := (blk_cell CB1.out 2).trans rfl))
            go_ret
            exact ⟨rfl, HB.out⟩
          · have c4b : decide (1099511627776 < a0_2) = false := decide_eq_false c4
            have C4 := Aside0.mk c4
            clear c4
            go_enter Tryd.func16, Tryd.ntmps16
            go_upto_region 3 with (first
              | ((with_reducible refine gate_dst (N := 1) rfl ?_); refine box_event ?hg (N := 1) ?hd (cs := #[.slice A0_0 l0_0.length c0_0, .int .i64 a0_1, .int .i64 a0_2]) (t := 27) ?hr ?_; (case hd => rfl); (case hg => rfl); (case hr => first | (go_simp; done) | (go_simp; rfl)); intro g1 hg1 w1 hbox hb; have HB_ := Aside0.mk (below_step HB.out hb); have CB1 := Aside0.mk hbox; clear hb hbox hg1 HB; have HB := HB_; clear HB_; have v10 : w1.cell? ⟨g1, 0, none⟩ = some (.slice A0_0 l0_0.length c0_0) := (blk_cell CB1.out 0).trans rfl; have v11 : w1.cell? ⟨g1, 1, none⟩ = some (.int .i64 a0_1) := (blk_cell CB1.out 1).trans rfl; have v12 : w1.cell? ⟨g1, 2, none⟩ = some (.int .i64 a0_2) := (blk_cell CB1.out 2).trans rfl))
            go_wp2
            go_loopw [3] (fun v3 w' => ∃ i : Nat, v3 = .int .i64 i ∧ i ≤ l0_0.length ∧ Aside0 (∀ j, j < i → okC l0_0 a0_1 a0_2 j) ∧ Aside0 (w'.heap[g1]? = some (.cells #[.slice A0_0 l0_0.length c0_0, .int .i64 a0_1, .int .i64 a0_2] 27 (0, 0))) ∧ Aside0 (Below w.heap.size w w')) (fun v3 _ => l0_0.length - (intOf v3).toNat)
            case atStart => exact ⟨0, rfl, Nat.zero_le _, ⟨fun j hj => absurd hj (Nat.not_lt_zero j)⟩, CB1, HB⟩
            case round =>
              clear CB1 HB v10 v11 v12 c0b c1b c2b c3b c4b
              obtain ⟨i, rfl, hil, HOK, CB1, HB⟩ := hrel
              have v10 : wr.cell? ⟨g1, 0, none⟩ = some (.slice A0_0 l0_0.length c0_0) := (blk_cell CB1.out 0).trans rfl
              have v11 : wr.cell? ⟨g1, 1, none⟩ = some (.int .i64 a0_1) := (blk_cell CB1.out 1).trans rfl
              have v12 : wr.cell? ⟨g1, 2, none⟩ = some (.int .i64 a0_2) := (blk_cell CB1.out 2).trans rfl
              by_cases cs : i < l0_0.length
              · have csd := decide_eq_true (show (i : Int) < (l0_0.length : Int) by omega)
                obtain ⟨ad, rfl, hx0, hx1, hx2, hx3⟩ := at_T63 HR.out (i : Int) (by omega) (by omega)
                obtain ⟨x, hx⟩ : ∃ x, x = rd_T63 l0_0 (i : Int) := ⟨_, rfl⟩
                have HX := Aside0.mk hx
                rw [← hx] at hx0 hx1 hx2 hx3
                replace hx0 := (HB.out.cell (World.block_lt_of_cell? w _ hx0)).trans hx0
                replace hx1 := (HB.out.cell (World.block_lt_of_cell? w _ hx1)).trans hx1
                replace hx2 := (HB.out.cell (World.block_lt_of_cell? w _ hx2)).trans hx2
                replace hx3 := (HB.out.cell (World.block_lt_of_cell? w _ hx3)).trans hx3
                rw [Int.toNat_natCast] at hx0 hx1 hx2 hx3
                clear hx
                have q0 := eq_true (show (0 : Int) ≤ (i : Int) by omega)
                have q1 := eq_true (show (i : Int) < (l0_0.length : Int) by omega)
                have hwr : IntKind.i64.wrap ((i : Int) + 1) = ((i + 1 : Nat) : Int) := by rw [IntKind.wrap_i64]; have := HL.out; omega
                have HE := Aside0.mk (endC_ge HOK.out)
                go_upto_region 7 with (first
                  | fail)
                have BX := Aside0.mk (blk_new wr (.cells #[.int .i64 x.f0, .int .i64 x.f1, .int .i64 x.f2, .int .i64 x.f3] 63 (0, 0)))
                have CB1_ := Aside0.mk (blk_alloc CB1.out (.cells #[.int .i64 x.f0, .int .i64 x.f1, .int .i64 x.f2, .int .i64 x.f3] 63 (0, 0)))
                have HB_ := Aside0.mk (below_alloc HB.out (.cells #[.int .i64 x.f0, .int .i64 x.f1, .int .i64 x.f2, .int .i64 x.f3] 63 (0, 0)))
                clear CB1 HB hx0 hx1 hx2 hx3 v10 v11 v12
                generalize wr.alloc (.cells #[.int .i64 x.f0, .int .i64 x.f1, .int .i64 x.f2, .int .i64 x.f3] 63 (0, 0)) = W2 at *
                generalize wr.heap.size = g4 at *
                have HB := HB_
                have CB1 := CB1_
                clear HB_ CB1_
                have v10 : W2.cell? ⟨g1, 0, none⟩ = some (.slice (some ad) l0_0.length c0_0) := (blk_cell CB1.out 0).trans rfl
                have v11 : W2.cell? ⟨g1, 1, none⟩ = some (.int .i64 a0_1) := (blk_cell CB1.out 1).trans rfl
                have v12 : W2.cell? ⟨g1, 2, none⟩ = some (.int .i64 a0_2) := (blk_cell CB1.out 2).trans rfl
                have y0 : W2.cell? ⟨g4, 0, none⟩ = some (.int .i64 x.f0) := (blk_cell BX.out 0).trans rfl
                have y1 : W2.cell? ⟨g4, 1, none⟩ = some (.int .i64 x.f1) := (blk_cell BX.out 1).trans rfl
                have y2 : W2.cell? ⟨g4, 2, none⟩ = some (.int .i64 x.f2) := (blk_cell BX.out 2).trans rfl
                have y3 : W2.cell? ⟨g4, 3, none⟩ = some (.int .i64 x.f3) := (blk_cell BX.out 3).trans rfl
                by_cases i0 : i = 0
                · have hE := Aside0.mk (show endC l0_0 i = -1 by unfold endC; rw [if_pos i0])
                  have i0d : decide ((0 : Int) < (i : Int)) = false := decide_eq_false (by omega)
                  have i0n : (0 < i) = False := eq_false (by omega)
                  have HI0 := Aside0.mk i0
                  clear i0
                  by_cases d0 : x.f0 < 0
                  · have d0b : decide (x.f0 < 0) = true := decide_eq_true d0
                    have hno : decide (FormedC l0_0 a0_1 a0_2) = false := formed_not cs (fun h => by unfold okC at h; rw [← HX.out] at h; have := h.1; omega)
                    clear d0
                    go_quiet (fail)
                    have HB7 := Aside0.mk (pw_below_drewN HB.out nq)
                    go_wp2
                    go_ret
                    obtain rfl : r = false := HRR.out.symm.trans hno
                    exact ⟨rfl, HB7.out⟩
                  · have d0b : decide (x.f0 < 0) = false := decide_eq_false d0
                    have D0 := Aside0.mk d0
                    clear d0
                    by_cases d1 : a0_1 ≤ x.f0
                    · have d1b : decide (a0_1 ≤ x.f0) = true := decide_eq_true d1
                      have hno : decide (FormedC l0_0 a0_1 a0_2) = false := formed_not cs (fun h => by unfold okC at h; rw [← HX.out] at h; have := h.2.1; omega)
                      clear d1
                      go_quiet (fail)
                      have HB7 := Aside0.mk (pw_below_drewN HB.out nq)
                      go_wp2
                      go_ret
                      obtain rfl : r = false := HRR.out.symm.trans hno
                      exact ⟨rfl, HB7.out⟩
                    · have d1b : decide (a0_1 ≤ x.f0) = false := decide_eq_false d1
                      have D1 := Aside0.mk d1
                      clear d1
                      by_cases d2 : x.f1 < 0
                      · have d2b : decide (x.f1 < 0) = true := decide_eq_true d2
                        have hno : decide (FormedC l0_0 a0_1 a0_2) = false := formed_not cs (fun h => by unfold okC at h; rw [← HX.out] at h; have := h.2.2.2.1; have := HE.out; omega)
                        clear d2
                        go_quiet (fail)
                        have HB7 := Aside0.mk (pw_below_drewN HB.out nq)
                        go_wp2
                        go_ret
                        obtain rfl : r = false := HRR.out.symm.trans hno
                        exact ⟨rfl, HB7.out⟩
                      · have d2b : decide (x.f1 < 0) = false := decide_eq_false d2
                        have D2 := Aside0.mk d2
                        clear d2
                        by_cases d3 : x.f2 < x.f1
                        · have d3b : decide (x.f2 < x.f1) = true := decide_eq_true d3
                          have hno : decide (FormedC l0_0 a0_1 a0_2) = false := formed_not cs (fun h => by unfold okC at h; rw [← HX.out] at h; have := h.2.2.2.2.1; omega)
                          clear d3
                          go_quiet (fail)
                          have HB7 := Aside0.mk (pw_below_drewN HB.out nq)
                          go_wp2
                          go_ret
                          obtain rfl : r = false := HRR.out.symm.trans hno
                          exact ⟨rfl, HB7.out⟩
                        · have d3b : decide (x.f2 < x.f1) = false := decide_eq_false d3
                          have D3 := Aside0.mk d3
                          clear d3
                          by_cases d4 : a0_2 ≤ x.f2
                          · have d4b : decide (a0_2 ≤ x.f2) = true := decide_eq_true d4
                            have hno : decide (FormedC l0_0 a0_1 a0_2) = false := formed_not cs (fun h => by unfold okC at h; rw [← HX.out] at h; have := h.2.2.2.2.2.1; omega)
                            clear d4
                            go_quiet (fail)
                            have HB7 := Aside0.mk (pw_below_drewN HB.out nq)
                            go_wp2
                            go_ret
                            obtain rfl : r = false := HRR.out.symm.trans hno
                            exact ⟨rfl, HB7.out⟩
                          · have d4b : decide (a0_2 ≤ x.f2) = false := decide_eq_false d4
                            have D4 := Aside0.mk d4
                            clear d4
                            by_cases d5 : x.f3 < 1
                            · have d5b : decide (x.f3 < 1) = true := decide_eq_true d5
                              have hno : decide (FormedC l0_0 a0_1 a0_2) = false := formed_not cs (fun h => by unfold okC at h; rw [← HX.out] at h; have := h.2.2.2.2.2.2.1; omega)
                              clear d5
                              go_quiet (fail)
                              have HB7 := Aside0.mk (pw_below_drewN HB.out nq)
                              go_wp2
                              go_ret
                              obtain rfl : r = false := HRR.out.symm.trans hno
                              exact ⟨rfl, HB7.out⟩
                            · have d5b : decide (x.f3 < 1) = false := decide_eq_false d5
                              have D5 := Aside0.mk d5
                              clear d5
                              by_cases d6 : 4096 < x.f3
                              · have d6b : decide (4096 < x.f3) = true := decide_eq_true d6
                                have hno : decide (FormedC l0_0 a0_1 a0_2) = false := formed_not cs (fun h => by unfold okC at h; rw [← HX.out] at h; have := h.2.2.2.2.2.2.2.1; omega)
                                clear d6
                                go_quiet (fail)
                                have HB7 := Aside0.mk (pw_below_drewN HB.out nq)
                                go_wp2
                                go_ret
                                obtain rfl : r = false := HRR.out.symm.trans hno
                                exact ⟨rfl, HB7.out⟩
                              · have d6b : decide (4096 < x.f3) = false := decide_eq_false d6
                                have D6 := Aside0.mk d6
                                clear d6
                                have hsb : wrap64 (x.f2 - x.f1) = x.f2 - x.f1 := by have := D2.out; have := D3.out; have := D4.out; have := C4.out; unfold wrap64; omega
                                have hsc : wrap64 (x.f3 - 1) = x.f3 - 1 := by have := D5.out; have := D6.out; unfold wrap64; omega
                                by_cases d7 : x.f2 - x.f1 < x.f3 - 1
                                · have d7b : decide (x.f2 - x.f1 < x.f3 - 1) = true := decide_eq_true d7
                                  have hno : decide (FormedC l0_0 a0_1 a0_2) = false := formed_not cs (fun h => by unfold okC at h; rw [← HX.out] at h; have := h.2.2.2.2.2.2.2.2; omega)
                                  clear d7
                                  go_quiet (fail)
                                  have HB7 := Aside0.mk (pw_below_drewN HB.out nq)
                                  go_wp2
                                  go_ret
                                  obtain rfl : r = false := HRR.out.symm.trans hno
                                  exact ⟨rfl, HB7.out⟩
                                · have d7b : decide (x.f2 - x.f1 < x.f3 - 1) = false := decide_eq_false d7
                                  have D7 := Aside0.mk d7
                                  clear d7
                                  have HOKI := Aside0.mk (show (∀ k, k < i → (rd_T63 l0_0 (k : Int)).f0 ≠ x.f0) → okC l0_0 a0_1 a0_2 i from fun hne => by
                                    unfold okC
                                    rw [← HX.out]
                                    have d0_ := D0.out
                                    have d1_ := D1.out
                                    have d2_ := D2.out
                                    have d3_ := D3.out
                                    have d4_ := D4.out
                                    have d5_ := D5.out
                                    have d6_ := D6.out
                                    have d7_ := D7.out
                                    exact ⟨by omega, by omega, hne, by rw [hE.out]; omega, by omega, by omega, by omega, by omega, by omega⟩)
                                  go_quiet (fail)
                                  have HB_ := Aside0.mk (pw_below_drewN HB.out nq)
                                  have CB1_ := Aside0.mk (blk_drewN CB1.out nq)
                                  have BX_ := Aside0.mk (blk_drewN BX.out nq)
                                  clear HB CB1 BX v10 v11 v12 y0 y1 y2 y3 
                                  generalize W2.drewN nq = W3 at *
                                  go_wp2
                                  go_loopw [5] (fun v5 w' => ∃ t : Nat, v5 = .int .i64 t ∧ t ≤ i ∧ Aside0 (∀ s, s < t → (rd_T63 l0_0 (s : Int)).f0 ≠ x.f0) ∧ Aside0 (w'.heap[g1]? = some (.cells #[.slice (some ad) l0_0.length c0_0, .int .i64 a0_1, .int .i64 a0_2] 27 (0, 0))) ∧ Aside0 (w'.heap[g4]? = some (.cells #[.int .i64 x.f0, .int .i64 x.f1, .int .i64 x.f2, .int .i64 x.f3] 63 (0, 0))) ∧ Aside0 (Below w.heap.size w w')) (fun v5 _ => i - (intOf v5).toNat)
                                  case atStart => exact ⟨0, rfl, Nat.zero_le _, ⟨fun s hs => absurd hs (Nat.not_lt_zero s)⟩, CB1_, BX_, HB_⟩
                                  case round =>
                                    clear CB1_ BX_ HB_
                                    obtain ⟨t, rfl, hti, HNE, CB1, BX, HB⟩ := hrel
                                    by_cases ct : t < i
                                    · exact absurd ct (by have := HI0.out; omega)
                                    · obtain rfl : t = i := by omega
                                      have ctd : decide ((t : Int) < (t : Int)) = false := decide_eq_false (Int.lt_irrefl _)
                                      have hoki := HOKI.out HNE.out
                                      go_wp2
                                      go_roundw
                                      · exact ⟨t + 1, by rw [HI0.out]; rfl, cs, ⟨fun s hs => by rcases Nat.lt_or_eq_of_le (Nat.lt_succ_iff.1 hs) with h3 | h3; exact HOK.out s h3; rw [h3]; exact hoki⟩, CB1, HB⟩
                                      · show l0_0.length - (((t : Int) + 1)).toNat < l0_0.length - (t : Int).toNat
                                        omega
                · have hE := Aside0.mk (show endC l0_0 i = (rd_T63 l0_0 ((i - 1 : Nat) : Int)).f2 by unfold endC; rw [if_neg i0])
                  have i0d : decide ((0 : Int) < (i : Int)) = true := decide_eq_true (by omega)
                  have i0n : (0 < i) = True := eq_true (by omega)
                  obtain ⟨j, hj⟩ : ∃ j, j = (i : Int) - 1 := ⟨_, rfl⟩
                  have hwr0 : IntKind.i64.wrap ((i : Int) - 1) = j := by have := HL.out; rw [IntKind.wrap_i64]; omega
                  have hwr1 : wrap64 ((i : Int) - 1) = j := by have := HL.out; unfold wrap64; omega
                  have HJ := Aside0.mk (show ((i - 1 : Nat) : Int) = j by omega)
                  have i1a : (0 : Int) ≤ j := by omega
                  have i1b : j < l0_0.length := by omega
                  clear hj
                  obtain ⟨ad2, ead, hp0, hp1, hp2, hp3⟩ := at_T63 HR.out j i1a i1b
                  replace i1a := eq_true i1a
                  replace i1b := eq_true i1b
                  cases ead
                  replace hp2 := (HB.out.cell (World.block_lt_of_cell? w _ hp2)).trans hp2
                  clear hp0 hp1 hp3
                  obtain ⟨y, hyy⟩ : ∃ y, y = rd_T63 l0_0 j := ⟨_, rfl⟩
                  have HY := Aside0.mk hyy
                  rw [← hyy] at hp2
                  clear hyy
                  by_cases d0 : x.f0 < 0
                  · have d0b : decide (x.f0 < 0) = true := decide_eq_true d0
                    have hno : decide (FormedC l0_0 a0_1 a0_2) = false := formed_not cs (fun h => by unfold okC at h; rw [← HX.out] at h; have := h.1; omega)
                    clear d0
                    go_quiet (fail)
                    have HB7 := Aside0.mk (pw_below_drewN HB.out nq)
                    go_wp2
                    go_ret
                    obtain rfl : r = false := HRR.out.symm.trans hno
                    exact ⟨rfl, HB7.out⟩
                  · have d0b : decide (x.f0 < 0) = false := decide_eq_false d0
                    have D0 := Aside0.mk d0
                    clear d0
                    by_cases d1 : a0_1 ≤ x.f0
                    · have d1b : decide (a0_1 ≤ x.f0) = true := decide_eq_true d1
                      have hno : decide (FormedC l0_0 a0_1 a0_2) = false := formed_not cs (fun h => by unfold okC at h; rw [← HX.out] at h; have := h.2.1; omega)
                      clear d1
                      go_quiet (fail)
                      have HB7 := Aside0.mk (pw_below_drewN HB.out nq)
                      go_wp2
                      go_ret
                      obtain rfl : r = false := HRR.out.symm.trans hno
                      exact ⟨rfl, HB7.out⟩
                    · have d1b : decide (a0_1 ≤ x.f0) = false := decide_eq_false d1
                      have D1 := Aside0.mk d1
                      clear d1
                      by_cases d2 : x.f1 < 0
                      · have d2b : decide (x.f1 < 0) = true := decide_eq_true d2
                        have hno : decide (FormedC l0_0 a0_1 a0_2) = false := formed_not cs (fun h => by unfold okC at h; rw [← HX.out] at h; have := h.2.2.2.1; have := HE.out; omega)
                        clear d2
                        go_quiet (fail)
                        have HB7 := Aside0.mk (pw_below_drewN HB.out nq)
                        go_wp2
                        go_ret
                        obtain rfl : r = false := HRR.out.symm.trans hno
                        exact ⟨rfl, HB7.out⟩
                      · have d2b : decide (x.f1 < 0) = false := decide_eq_false d2
                        have D2 := Aside0.mk d2
                        clear d2
                        by_cases d3 : x.f2 < x.f1
                        · have d3b : decide (x.f2 < x.f1) = true := decide_eq_true d3
                          have hno : decide (FormedC l0_0 a0_1 a0_2) = false := formed_not cs (fun h => by unfold okC at h; rw [← HX.out] at h; have := h.2.2.2.2.1; omega)
                          clear d3
                          go_quiet (fail)
                          have HB7 := Aside0.mk (pw_below_drewN HB.out nq)
                          go_wp2
                          go_ret
                          obtain rfl : r = false := HRR.out.symm.trans hno
                          exact ⟨rfl, HB7.out⟩
                        · have d3b : decide (x.f2 < x.f1) = false := decide_eq_false d3
                          have D3 := Aside0.mk d3
                          clear d3
                          by_cases d4 : a0_2 ≤ x.f2
                          · have d4b : decide (a0_2 ≤ x.f2) = true := decide_eq_true d4
                            have hno : decide (FormedC l0_0 a0_1 a0_2) = false := formed_not cs (fun h => by unfold okC at h; rw [← HX.out] at h; have := h.2.2.2.2.2.1; omega)
                            clear d4
                            go_quiet (fail)
                            have HB7 := Aside0.mk (pw_below_drewN HB.out nq)
                            go_wp2
                            go_ret
                            obtain rfl : r = false := HRR.out.symm.trans hno
                            exact ⟨rfl, HB7.out⟩
                          · have d4b : decide (a0_2 ≤ x.f2) = false := decide_eq_false d4
                            have D4 := Aside0.mk d4
                            clear d4
                            by_cases d5 : x.f3 < 1
                            · have d5b : decide (x.f3 < 1) = true := decide_eq_true d5
                              have hno : decide (FormedC l0_0 a0_1 a0_2) = false := formed_not cs (fun h => by unfold okC at h; rw [← HX.out] at h; have := h.2.2.2.2.2.2.1; omega)
                              clear d5
                              go_quiet (fail)
                              have HB7 := Aside0.mk (pw_below_drewN HB.out nq)
                              go_wp2
                              go_ret
                              obtain rfl : r = false := HRR.out.symm.trans hno
                              exact ⟨rfl, HB7.out⟩
                            · have d5b : decide (x.f3 < 1) = false := decide_eq_false d5
                              have D5 := Aside0.mk d5
                              clear d5
                              by_cases d6 : 4096 < x.f3
                              · have d6b : decide (4096 < x.f3) = true := decide_eq_true d6
                                have hno : decide (FormedC l0_0 a0_1 a0_2) = false := formed_not cs (fun h => by unfold okC at h; rw [← HX.out] at h; have := h.2.2.2.2.2.2.2.1; omega)
                                clear d6
                                go_quiet (fail)
                                have HB7 := Aside0.mk (pw_below_drewN HB.out nq)
                                go_wp2
                                go_ret
                                obtain rfl : r = false := HRR.out.symm.trans hno
                                exact ⟨rfl, HB7.out⟩
                              · have d6b : decide (4096 < x.f3) = false := decide_eq_false d6
                                have D6 := Aside0.mk d6
                                clear d6
                                have hsb : wrap64 (x.f2 - x.f1) = x.f2 - x.f1 := by have := D2.out; have := D3.out; have := D4.out; have := C4.out; unfold wrap64; omega
                                have hsc : wrap64 (x.f3 - 1) = x.f3 - 1 := by have := D5.out; have := D6.out; unfold wrap64; omega
                                by_cases d7 : x.f2 - x.f1 < x.f3 - 1
                                · have d7b : decide (x.f2 - x.f1 < x.f3 - 1) = true := decide_eq_true d7
                                  have hno : decide (FormedC l0_0 a0_1 a0_2) = false := formed_not cs (fun h => by unfold okC at h; rw [← HX.out] at h; have := h.2.2.2.2.2.2.2.2; omega)
                                  clear d7
                                  go_quiet (fail)
                                  have HB7 := Aside0.mk (pw_below_drewN HB.out nq)
                                  go_wp2
                                  go_ret
                                  obtain rfl : r = false := HRR.out.symm.trans hno
                                  exact ⟨rfl, HB7.out⟩
                                · have d7b : decide (x.f2 - x.f1 < x.f3 - 1) = false := decide_eq_false d7
                                  have D7 := Aside0.mk d7
                                  clear d7
                                  by_cases d8 : x.f1 ≤ y.f2
                                  · have d8b : decide (x.f1 ≤ y.f2) = true := decide_eq_true d8
                                    have hno : decide (FormedC l0_0 a0_1 a0_2) = false := formed_not cs (fun h => by unfold okC at h; rw [← HX.out] at h; have := h.2.2.2.1; rw [hE.out, HJ.out, ← HY.out] at this; omega)
                                    clear d8
                                    go_quiet (fail)
                                    have HB7 := Aside0.mk (pw_below_drewN HB.out nq)
                                    go_wp2
                                    go_ret
                                    obtain rfl : r = false := HRR.out.symm.trans hno
                                    exact ⟨rfl, HB7.out⟩
                                  · have d8b : decide (x.f1 ≤ y.f2) = false := decide_eq_false d8
                                    have D8 := Aside0.mk d8
                                    clear d8
                                    have HOKI := Aside0.mk (show (∀ k, k < i → (rd_T63 l0_0 (k : Int)).f0 ≠ x.f0) → okC l0_0 a0_1 a0_2 i from fun hne => by
                                      unfold okC
                                      rw [← HX.out]
                                      have d0_ := D0.out
                                      have d1_ := D1.out
                                      have d2_ := D2.out
                                      have d3_ := D3.out
                                      have d4_ := D4.out
                                      have d5_ := D5.out
                                      have d6_ := D6.out
                                      have d7_ := D7.out
                                      have d8_ := D8.out
                                      exact ⟨by omega, by omega, hne, by rw [hE.out, HJ.out, ← HY.out]; omega, by omega, by omega, by omega, by omega, by omega⟩)
                                    go_quiet (fail)
                                    have HB_ := Aside0.mk (pw_below_drewN HB.out nq)
                                    have CB1_ := Aside0.mk (blk_drewN CB1.out nq)
                                    have BX_ := Aside0.mk (blk_drewN BX.out nq)
                                    clear HB CB1 BX v10 v11 v12 y0 y1 y2 y3 hp2
                                    generalize W2.drewN nq = W3 at *
                                    go_wp2
                                    go_loopw [5] (fun v5 w' => ∃ t : Nat, v5 = .int .i64 t ∧ t ≤ i ∧ Aside0 (∀ s, s < t → (rd_T63 l0_0 (s : Int)).f0 ≠ x.f0) ∧ Aside0 (w'.heap[g1]? = some (.cells #[.slice (some ad) l0_0.length c0_0, .int .i64 a0_1, .int .i64 a0_2] 27 (0, 0))) ∧ Aside0 (w'.heap[g4]? = some (.cells #[.int .i64 x.f0, .int .i64 x.f1, .int .i64 x.f2, .int .i64 x.f3] 63 (0, 0))) ∧ Aside0 (Below w.heap.size w w')) (fun v5 _ => i - (intOf v5).toNat)
                                    case atStart => exact ⟨0, rfl, Nat.zero_le _, ⟨fun s hs => absurd hs (Nat.not_lt_zero s)⟩, CB1_, BX_, HB_⟩
                                    case round =>
                                      clear CB1_ BX_ HB_
                                      obtain ⟨t, rfl, hti, HNE, CB1, BX, HB⟩ := hrel
                                      by_cases ct : t < i
                                      · have ctd := decide_eq_true (show (t : Int) < (i : Int) by omega)
                                        have ctn := eq_true ct
                                        obtain ⟨ad3, ead, hs0, hs1, hs2, hs3⟩ := at_T63 HR.out (t : Int) (by omega) (by omega)
                                        cases ead
                                        rw [Int.toNat_natCast] at hs0
                                        obtain ⟨z, hz⟩ : ∃ z, z = (rd_T63 l0_0 (t : Int)).f0 := ⟨_, rfl⟩
                                        have HZ := Aside0.mk hz
                                        rw [← hz] at hs0
                                        replace hs0 := (HB.out.cell (World.block_lt_of_cell? w _ hs0)).trans hs0
                                        clear hs1 hs2 hs3 hz
                                        have s0 := eq_true (show (0 : Int) ≤ (t : Int) by omega)
                                        have s1 := eq_true (show (t : Int) < (l0_0.length : Int) by omega)
                                        have hwt : IntKind.i64.wrap ((t : Int) + 1) = ((t + 1 : Nat) : Int) := by rw [IntKind.wrap_i64]; have := HL.out; omega
                                        have v10 : wr.cell? ⟨g1, 0, none⟩ = some (.slice (some ad) l0_0.length c0_0) := (blk_cell CB1.out 0).trans rfl
                                        have y0 : wr.cell? ⟨g4, 0, none⟩ = some (.int .i64 x.f0) := (blk_cell BX.out 0).trans rfl
                                        by_cases ez : z = x.f0
                                        · have ezb : (z == x.f0) = true := beq_iff_eq.mpr ez
                                          have ezd : decide (z = x.f0) = true := decide_eq_true ez
                                          have hno : decide (FormedC l0_0 a0_1 a0_2) = false := formed_not cs (fun h => by unfold okC at h; rw [← HX.out] at h; exact h.2.2.1 t ct (HZ.out.symm.trans ez))
                                          clear ez
                                          go_upto_region 12 with (first
                                            | fail)
                                          go_quiet (fail)
                                          have HB7 := Aside0.mk (pw_below_drewN HB.out nq)
                                          go_wp2
                                          go_ret
                                          obtain rfl : r = false := HRR.out.symm.trans hno
                                          exact ⟨rfl, HB7.out⟩
                                        · have ezb : (z == x.f0) = false := beq_eq_false_iff_ne.mpr ez
                                          have ezd : decide (z = x.f0) = false := decide_eq_false ez
                                          have HEZ := Aside0.mk ez
                                          clear ez
                                          go_upto_region 12 with (first
                                            | fail)
                                          go_quiet (fail)
                                          have HB_ := Aside0.mk (pw_below_drewN HB.out nq)
                                          have CB1_ := Aside0.mk (blk_drewN CB1.out nq)
                                          have BX_ := Aside0.mk (blk_drewN BX.out nq)
                                          go_wp2
                                          go_roundw
                                          · exact ⟨t + 1, rfl, ct, ⟨fun s hs => by rcases Nat.lt_or_eq_of_le (Nat.lt_succ_iff.1 hs) with h3 | h3; exact HNE.out s h3; rw [h3]; exact fun h => HEZ.out (HZ.out.trans h)⟩, CB1_, BX_, HB_⟩
                                          · show i - (((t + 1 : Nat) : Int)).toNat < i - (t : Int).toNat
                                            omega
                                      · obtain rfl : t = i := by omega
                                        have ctd : decide ((t : Int) < (t : Int)) = false := decide_eq_false (Int.lt_irrefl _)
                                        have hoki := HOKI.out HNE.out
                                        go_wp2
                                        go_roundw
                                        · exact ⟨t + 1, rfl, cs, ⟨fun s hs => by rcases Nat.lt_or_eq_of_le (Nat.lt_succ_iff.1 hs) with h3 | h3; exact HOK.out s h3; rw [h3]; exact hoki⟩, CB1, HB⟩
                                        · show l0_0.length - (((t + 1 : Nat) : Int)).toNat < l0_0.length - (t : Int).toNat
                                          omega
              · obtain rfl : i = l0_0.length := by omega
                have csd : decide ((l0_0.length : Int) < (l0_0.length : Int)) = false := decide_eq_false (Int.lt_irrefl _)
                have hyes : decide (FormedC l0_0 a0_1 a0_2) = true := decide_eq_true ⟨by have := C0.out; omega, by have := C1.out; omega, by have := C2.out; omega, by have := C3.out; omega, by have := C4.out; omega, HOK.out⟩
                go_wp2
                go_ret
                obtain rfl : r = true := HRR.out.symm.trans hyes
                exact ⟨rfl, HB.out⟩
end Go.Proofs.YtdcifmonhaklcaaDoor.M
