/- Walks: each Go function told here comes to what the plain function beside it says, wherever that one answers. -/
import Derived.Test.YtdcifmonhaklcaaDoorTrRx0
import Derived.Test.YtdcifmonhaklcaaDoorTrRx8
namespace Go.Proofs.YtdcifmonhaklcaaDoor.R
open Go.RowKit YtdcifmonhaklcaaDoorW.PrintWords YtdcifmonhaklcaaDoorW.PrintLast YtdcifmonhaklcaaDoorW.PrintMore
attribute [local go_sem] min2_int min_two
attribute [local go_sem] geq_str
set_option linter.unusedVariables false
set_option linter.unusedSimpArgs false
def dragnetref08_Digits.l0 : Nat → Int → ByteArray → Option (ByteArray)
 | 0, _, _ => none
 | k + 1, x0, x3 => if x0 ≥ 10 then ((some (([(IntKind.u64.wrap (48 + (Int.tmod (IntKind.u64.wrap (Int.tdiv x0 10)) 10))) % 256] : List Int) : List Int)).bind fun y281 => (if (strOfNums y281).size + x3.size ≤ 9223372036854775807 then (dragnetref08_Digits.l0 k (IntKind.u64.wrap (Int.tdiv x0 10)) ((strOfNums y281) ++ x3)) else (none))) else (some x3)
def dragnetref08_Digits.f (k : Nat) (a0 : Int) : Option (ByteArray) := dragnetref08_Digits.l0 k a0 (strOfNums (([(IntKind.u64.wrap (48 + (Int.tmod a0 10))) % 256] : List Int)))
theorem dragnetref08_Digits.mono_l : ∀ k, (∀ y0 y1, LeO (dragnetref08_Digits.l0 k y0 y1) (dragnetref08_Digits.l0 (k + 1) y0 y1))
 | 0 => fun _ _ r h => by simp [dragnetref08_Digits.l0] at h
 | k + 1 => by
  have ih0 := dragnetref08_Digits.mono_l k
  ·intro y0 y1
   unfold dragnetref08_Digits.l0
   repeat' first
   | (with_reducible exact ih0 _ _)
   | (with_reducible exact LeO.refl _)
   | (with_reducible exact LeO.none _)
   | (with_reducible refine LeO.ite ?_ ?_)
   | (with_reducible refine LeO.bind ?_ (fun _ => ?_))
   | exact ih0 _ _
   | exact LeO.none _
   | refine LeO.ite ?_ ?_
   | refine LeO.bind ?_ (fun _ => ?_)
theorem dragnetref08_Digits.mono : ∀ a0 k, LeO (dragnetref08_Digits.f k a0) (dragnetref08_Digits.f (k + 1) a0) := by
 intro a0 k
 have ih0 := dragnetref08_Digits.mono_l k
 unfold dragnetref08_Digits.f
 repeat' first
   | (with_reducible exact ih0 _ _)
   | (with_reducible exact LeO.refl _)
   | (with_reducible exact LeO.none _)
   | (with_reducible refine LeO.ite ?_ ?_)
   | (with_reducible refine LeO.bind ?_ (fun _ => ?_))
   | exact ih0 _ _
   | exact LeO.none _
   | refine LeO.ite ?_ ?_
   | refine LeO.bind ?_ (fun _ => ?_)
set_option maxHeartbeats 8000000 in
set_option maxRecDepth 100000 in
theorem dragnetref08_Digits.calls (k : Nat) (a0 : Int) (r : ByteArray) (w : World) (h : dragnetref08_Digits.f k a0 = some r) :
  Calls Tryd.prog 41 #[.int .u64 a0] w fun e w' => e = .returned (.string r) ∧ Below w.heap.size w w' := by
 have HB := Aside0.mk (Below.refl w.heap.size w)
 have H : (dragnetref08_Digits.l0 k a0 (strOfNums (([(IntKind.u64.wrap (48 + (Int.tmod a0 10))) % 256] : List Int)))) = some r := h
 clear h
 obtain ⟨y278, hy278⟩ : ∃ y_ : List Int, y_ = (([(IntKind.u64.wrap (48 + (Int.tmod a0 10))) % 256] : List Int)) := ⟨_, rfl⟩
 replace H : (dragnetref08_Digits.l0 k a0 (strOfNums y278)) = some r := by first | (rw [hy278]; with_reducible exact H) | (have H2_ := (Option.bind_some _ _).symm.trans H; rw [hy278]; with_reducible exact H2_) | (have H2_ := (Option.bind_some _ _).symm.trans H; with_reducible exact H2_) | with_reducible exact H | (rw [hy278]; exact H) | exact H
 have Ny278 := Aside0.mk hy278
 clear hy278
 have H' := Aside0.mk H
 clear H
 go_enter Tryd.func41, Tryd.ntmps41
 go_wp2_with (first | ((with_reducible refine gate_dst (N := 8) rfl ?_); refine Kd.R_lit (Kd.int .u8) _ 5 ?hg (N := 8) ?hd (xs := ([(IntKind.u64.wrap (48 + (Int.tmod a0 10))) % 256] : List Int)) (inner := [.int .u8 ((IntKind.u64.wrap (48 + (Int.tmod a0 10))) % 256)]) (ok := fun _ => True) (okp := fun _ => True) ?hr ?hp (fun _ hk => hk) trivial (Below.refl _ _) (Nat.le_refl _) (by simp) ?_; (case hd => rfl); (case hg => rfl); (case hr => first | (go_simp; done) | (go_simp; rfl)); (case hp => exact (Reps.one (show Kd.M (Kd.int .u8) _ _ _ ((IntKind.u64.wrap (48 + (Int.tmod a0 10))) % 256) [.int .u8 ((IntKind.u64.wrap (48 + (Int.tmod a0 10))) % 256)] from rfl) (Reps.none _ _))); intro v279 w2 ho3 hb hg_ hnew_; clear hg_ hnew_; (first | rw [← Ny278.out] at ho3 | (simp only [Int.reduceToNat] at ho3; rw [← Ny278.out] at ho3)); have n0_ := Aside0.mk (Kd.R_lower ho3 (below_size (by repeat (first | (with_reducible first | exact HB.out | apply below_alloc | apply pw_below_drewN | apply below_drew1) | exact HB.out)))); have n1_ := Aside0.mk (below_step (by repeat (first | (with_reducible first | exact HB.out | apply below_alloc | apply pw_below_drewN | apply below_drew1) | exact HB.out)) hb); clear HB; have HO280 := n0_; have HB := n1_; clear n0_ n1_; clear hb ho3; have hcv4 := own_string (P := Tryd.prog) Tryd.underlying22 Tryd.underlying5 Tryd.underlying9 (Kd.own_of_R HO280.out)))
 go_loopg [0, 3] k (fun kq v0 v3 w' => ∃ (x0_1 : Int) (x3_1 : ByteArray), v0 = .int .u64 x0_1 ∧ v3 = .string x3_1 ∧ Aside0 (dragnetref08_Digits.l0 kq x0_1 x3_1 = some r) ∧ Aside0 (kq ≤ k) ∧ Aside0 (Below w.heap.size w w'))
 case atStart => exact ⟨(a0), (strOfNums y278), (by first | rfl | (simp; done) | (simp [*]; done)), (by first | rfl | (simp; done) | (simp [*]; done)), H', ⟨Nat.le_refl _⟩, ⟨by repeat (first | (with_reducible first | exact HB.out | apply below_alloc | apply pw_below_drewN | apply below_drew1) | exact HB.out)⟩⟩
 case round =>
  clear H'
  try clear p2
  try clear c4
  try clear hcv4
  obtain ⟨x0_1, x3_1, rfl, rfl, HA, HK1, HB⟩ := hrel
  cases gk with
  | zero => exact absurd HA.out (by simp [dragnetref08_Digits.l0])
  | succ k1 =>
   have H := HA.out
   clear HA
   simp only [dragnetref08_Digits.l0] at H
   by_cases c5 : x0_1 ≥ 10
   ·rw [if_pos c5] at H
    have c5b0 : decide (10 ≤ x0_1) = true := decide_eq_true c5
    clear c5
    obtain ⟨y281, hy281⟩ : ∃ y_ : List Int, y_ = (([(IntKind.u64.wrap (48 + (Int.tmod (IntKind.u64.wrap (Int.tdiv x0_1 10)) 10))) % 256] : List Int)) := ⟨_, rfl⟩
    replace H : (if (strOfNums y281).size + x3_1.size ≤ 9223372036854775807 then (dragnetref08_Digits.l0 k1 (IntKind.u64.wrap (Int.tdiv x0_1 10)) ((strOfNums y281) ++ x3_1)) else (none)) = some r := by first | (rw [hy281]; with_reducible exact H) | (have H2_ := (Option.bind_some _ _).symm.trans H; rw [hy281]; with_reducible exact H2_) | (have H2_ := (Option.bind_some _ _).symm.trans H; with_reducible exact H2_) | with_reducible exact H | (rw [hy281]; exact H) | exact H
    have Ny281 := Aside0.mk hy281
    clear hy281
    by_cases c6 : (strOfNums y281).size + x3_1.size ≤ 9223372036854775807
    ·rw [if_pos c6] at H
     have c6b0 := eq_true c6
     have c6b1 : decide ((strOfNums y281).size + x3_1.size ≤ 9223372036854775807) = true := decide_eq_true c6
     try have c6b2 : (9223372036854775807 < (strOfNums y281).size + x3_1.size) = False := eq_false (Nat.not_lt.2 c6)
     have H' := Aside0.mk H
     clear H
     go_wp2_with (first | ((with_reducible refine gate_dst (N := 18) rfl ?_); refine Kd.R_lit (Kd.int .u8) _ 5 ?hg (N := 18) ?hd (xs := ([(IntKind.u64.wrap (48 + (Int.tmod (IntKind.u64.wrap (Int.tdiv x0_1 10)) 10))) % 256] : List Int)) (inner := [.int .u8 ((IntKind.u64.wrap (48 + (Int.tmod (IntKind.u64.wrap (Int.tdiv x0_1 10)) 10))) % 256)]) (ok := fun _ => True) (okp := fun _ => True) ?hr ?hp (fun _ hk => hk) trivial (Below.refl _ _) (Nat.le_refl _) (by simp) ?_; (case hd => rfl); (case hg => rfl); (case hr => first | (go_simp; done) | (go_simp; rfl)); (case hp => exact (Reps.one (show Kd.M (Kd.int .u8) _ _ _ ((IntKind.u64.wrap (48 + (Int.tmod (IntKind.u64.wrap (Int.tdiv x0_1 10)) 10))) % 256) [.int .u8 ((IntKind.u64.wrap (48 + (Int.tmod (IntKind.u64.wrap (Int.tdiv x0_1 10)) 10))) % 256)] from rfl) (Reps.none _ _))); intro v282 w7 ho8 hb hg_ hnew_; clear hg_ hnew_; (first | rw [← Ny281.out] at ho8 | (simp only [Int.reduceToNat] at ho8; rw [← Ny281.out] at ho8)); have n0_ := Aside0.mk (Kd.R_lower ho8 (below_size (by repeat (first | (with_reducible first | exact HB.out | apply below_alloc | apply pw_below_drewN | apply below_drew1) | exact HB.out)))); have n1_ := Aside0.mk (below_step (by repeat (first | (with_reducible first | exact HB.out | apply below_alloc | apply pw_below_drewN | apply below_drew1) | exact HB.out)) hb); clear HB; have HO283 := n0_; have HB := n1_; clear n0_ n1_; clear hb ho8; have hcv9 := own_string (P := Tryd.prog) Tryd.underlying22 Tryd.underlying5 Tryd.underlying9 (Kd.own_of_R HO283.out)))
     go_roundg k1
     case measure => have := HK1.out; omega
     case rel => exact ⟨(IntKind.u64.wrap (Int.tdiv x0_1 10)), ((strOfNums y281) ++ x3_1), (by first | rfl | (simp; done) | (simp [*]; done)), (by first | rfl | (simp; done) | (simp [*]; done)), H', ⟨by have := HK1.out; omega⟩, ⟨by repeat (first | (with_reducible first | exact HB.out | apply below_alloc | apply pw_below_drewN | apply below_drew1) | exact HB.out)⟩⟩
    ·rw [if_neg c6] at H
     exact absurd H (by simp)
   ·rw [if_neg c5] at H
    have c5b0 : decide (10 ≤ x0_1) = false := decide_eq_false c5
    clear c5
    obtain rfl := Option.some.inj H
    go_wp2
    go_ret
    exact ⟨by first | rfl | (simp [errW_none, errW_some] <;> rfl) | (simp [*, errW_none, errW_some] <;> rfl), by repeat (first | (with_reducible first | exact HB.out | apply below_alloc | apply pw_below_drewN | apply below_drew1) | exact HB.out)⟩
def dragnetref18_Name.f (k : Nat) (a0 : Int) : Option (ByteArray) := if a0 < 0 then (some (⟨#[]⟩ : ByteArray)) else (if a0 > 2147483647 then (some (⟨#[]⟩ : ByteArray)) else ((dragnetref08_Digits.f k (IntKind.u64.wrap (a0))).bind fun t284 => (if 1 + t284.size ≤ 9223372036854775807 then (some ((⟨#[115]⟩ : ByteArray) ++ t284)) else (none))))
theorem dragnetref18_Name.mono : ∀ a0 k, LeO (dragnetref18_Name.f k a0) (dragnetref18_Name.f (k + 1) a0) := by
 intro a0 k
 unfold dragnetref18_Name.f
 repeat' first
   | (with_reducible exact dragnetref08_Digits.mono _ _)
   | (with_reducible exact LeO.refl _)
   | (with_reducible exact LeO.none _)
   | (with_reducible refine LeO.ite ?_ ?_)
   | (with_reducible refine LeO.bind ?_ (fun _ => ?_))
   | exact dragnetref08_Digits.mono _ _
   | exact LeO.none _
   | refine LeO.ite ?_ ?_
   | refine LeO.bind ?_ (fun _ => ?_)
set_option maxHeartbeats 8000000 in
set_option maxRecDepth 100000 in
theorem dragnetref18_Name.calls (k : Nat) (a0 : Int) (r : ByteArray) (w : World) (h : dragnetref18_Name.f k a0 = some r) :
  Calls Tryd.prog 23 #[.int .i64 a0] w fun e w' => e = .returned (.string r) ∧ Below w.heap.size w w' := by
 have HB := Aside0.mk (Below.refl w.heap.size w)
 have H : (if a0 < 0 then (some (⟨#[]⟩ : ByteArray)) else (if a0 > 2147483647 then (some (⟨#[]⟩ : ByteArray)) else ((dragnetref08_Digits.f k (IntKind.u64.wrap (a0))).bind fun t284 => (if 1 + t284.size ≤ 9223372036854775807 then (some ((⟨#[115]⟩ : ByteArray) ++ t284)) else (none))))) = some r := h
 clear h
 by_cases c2 : a0 < 0
 ·rw [if_pos c2] at H
  have c2b0 : decide (a0 < 0) = true := decide_eq_true c2
  clear c2
  obtain rfl := Option.some.inj H
  go_enter Tryd.func23, Tryd.ntmps23
  go_wp2
  go_ret
  exact ⟨by first | rfl | (simp [errW_none, errW_some] <;> rfl) | (simp [*, errW_none, errW_some] <;> rfl), by repeat (first | (with_reducible first | exact HB.out | apply below_alloc | apply pw_below_drewN | apply below_drew1) | exact HB.out)⟩
 ·rw [if_neg c2] at H
  have c2b0 : decide (a0 < 0) = false := decide_eq_false c2
  clear c2
  by_cases c3 : a0 > 2147483647
  ·rw [if_pos c3] at H
   have c3b0 : decide (2147483647 < a0) = true := decide_eq_true c3
   clear c3
   obtain rfl := Option.some.inj H
   go_enter Tryd.func23, Tryd.ntmps23
   go_wp2
   go_ret
   exact ⟨by first | rfl | (simp [errW_none, errW_some] <;> rfl) | (simp [*, errW_none, errW_some] <;> rfl), by repeat (first | (with_reducible first | exact HB.out | apply below_alloc | apply pw_below_drewN | apply below_drew1) | exact HB.out)⟩
  ·rw [if_neg c3] at H
   have c3b0 : decide (2147483647 < a0) = false := decide_eq_false c3
   clear c3
   replace H := Option.bind_eq_some_iff.mp H
   obtain ⟨t284, A40, H⟩ := H
   replace H : (if 1 + t284.size ≤ 9223372036854775807 then (some ((⟨#[115]⟩ : ByteArray) ++ t284)) else (none)) = some r := H
   have A4 := Aside0.mk A40
   clear A40
   by_cases c5 : 1 + t284.size ≤ 9223372036854775807
   ·rw [if_pos c5] at H
    have c5b0 := eq_true c5
    have c5b1 : decide (1 + t284.size ≤ 9223372036854775807) = true := decide_eq_true c5
    try have c5b2 : (9223372036854775807 < 1 + t284.size) = False := eq_false (Nat.not_lt.2 c5)
    obtain rfl := Option.some.inj H
    go_enter Tryd.func23, Tryd.ntmps23
    go_wp2_with (first | ((with_reducible refine gate_callee (f := 41) rfl ?_); refine goesL_ (some 11) rfl rfl Tryd.func41 (by kernel_rfl) rfl #[.int .u64 (IntKind.u64.wrap (a0))] rfl (by (try simp only [List.map_toArray, List.map_cons, List.map_nil]); first | done | rfl | (simp only [List.length_drop, List.length_take]; rfl)) ?_; (with_reducible refine (dragnetref08_Digits.calls k (IntKind.u64.wrap (a0)) t284 _ A4.out).mono ?_); rintro e w6 ⟨rfl, hb⟩; refine ⟨_, rfl, ?_⟩; have n0_ := Aside0.mk (below_step (by repeat (first | (with_reducible first | exact HB.out | apply below_alloc | apply pw_below_drewN | apply below_drew1) | exact HB.out)) hb); clear HB; have HB := n0_; clear n0_; (try clear hb); (try clear hb2); (try clear hk); (try clear hi)))
    go_ret
    exact ⟨by first | rfl | (simp [errW_none, errW_some] <;> rfl) | (simp [*, errW_none, errW_some] <;> rfl), by repeat (first | (with_reducible first | exact HB.out | apply below_alloc | apply pw_below_drewN | apply below_drew1) | exact HB.out)⟩
   ·rw [if_neg c5] at H
    exact absurd H (by simp)
def dragnetref16_named.f (a0 : ByteArray) : Option (Bool) := if (a0.size : Int) ≥ 1 then (some (decide ((a0.size : Int) ≤ 32))) else (some false)
set_option maxHeartbeats 8000000 in
set_option maxRecDepth 100000 in
theorem dragnetref16_named.calls (a0 : ByteArray) (r : Bool) (w : World) (h : dragnetref16_named.f a0 = some r) :
  Calls Tryd.prog 70 #[.string a0] w fun e w' => e = .returned (.bool r) ∧ Drawn0 w w' := by
 have H : (if (a0.size : Int) ≥ 1 then (some (decide ((a0.size : Int) ≤ 32))) else (some false)) = some r := h
 clear h
 by_cases c2 : (a0.size : Int) ≥ 1
 ·rw [if_pos c2] at H
  have c2b0 : decide (1 ≤ (a0.size : Int)) = true := decide_eq_true c2
  have c2b1 : decide (1 ≤ a0.size) = true := decide_eq_true (by omega)
  clear c2
  obtain rfl := Option.some.inj H
  go_enter Tryd.func70, Tryd.ntmps70
  go_wp2
  go_ret
  exact ⟨by first | rfl | (simp; done) | (simp [*]; done), by repeat (first | exact Drawn0.refl _ | apply Drawn0.step)⟩
 ·rw [if_neg c2] at H
  have c2b0 : decide (1 ≤ (a0.size : Int)) = false := decide_eq_false c2
  have c2b1 : decide (1 ≤ a0.size) = false := decide_eq_false (by omega)
  clear c2
  obtain rfl := Option.some.inj H
  go_enter Tryd.func70, Tryd.ntmps70
  go_wp2
  go_ret
  exact ⟨by first | rfl | (simp; done) | (simp [*]; done), by repeat (first | exact Drawn0.refl _ | apply Drawn0.step)⟩
def totS (l : List S84) : Int := (l.map fun x => (x.f1.length : Int)).sum
def okF (l : List S84) (i : Nat) : Prop := (1 ≤ (rd_T84 l i).f0.size ∧ (rd_T84 l i).f0.size ≤ 32) ∧ 0 ≤ (rd_T84 l i).f2 ∧ (rd_T84 l i).f2 ≤ (rd_T84 l i).f1.length ∧ (0 < i → Go.Op.bytesLess (rd_T84 l ((i : Int) - 1)).f0.toList (rd_T84 l i).f0.toList = true) ∧ (rd_T84 l i).f1.length ≤ 67108864 ∧ totS (l.take i) ≤ 67108864
instance (l : List S84) (i : Nat) : Decidable (okF l i) := by unfold okF; exact inferInstance
def FormedR (room : Int) (l : List S84) : Prop := (∀ i, i < l.length → okF l i) ∧ 0 ≤ room ∧ room ≤ 67108864 ∧ l.length ≤ 256 ∧ totS l ≤ room
instance (room : Int) (l : List S84) : Decidable (FormedR room l) := by unfold FormedR; exact inferInstance
def dragnetref16_Formed.f (a0_0 : Int) (l0_1 : List S84) : Option Bool := if l0_1.length < 140737488355328 then some (decide (FormedR a0_0 l0_1)) else none
theorem tot_snoc (l : List S84) (i : Nat) (h : i < l.length) : totS (l.take (i + 1)) = totS (l.take i) + ((rd_T84 l (i : Int)).f1.length : Int) := by
 unfold totS rd_T84
 rw [List.take_succ_eq_append_getElem h, List.map_append, List.sum_append]
 simp [List.getD_eq_getElem?_getD, h]
set_option maxHeartbeats 1600000 in
set_option maxRecDepth 100000 in
theorem dragnetref16_Formed.calls (a0_0 : Int) (A0_1 : Option Addr) (c0_1 : Nat) (l0_1 : List S84) (r : Bool) (w : World) (hr0_1 : Kd.C k84 w A0_1 l0_1.length l0_1) (hc0_1 : l0_1.length ≤ c0_1) (h : dragnetref16_Formed.f a0_0 l0_1 = some r) :
  Calls Tryd.prog 46 #[.agg #[.int .i64 a0_0, .slice A0_1 l0_1.length c0_1]] w fun e w' => e = .returned (.bool r) ∧ Below w.heap.size w w' := by
 unfold dragnetref16_Formed.f at h
 by_cases hg : l0_1.length < 140737488355328
 ·rw [if_pos hg] at h
  have HE := Aside0.mk (Option.some.inj h)
  have HR := Aside0.mk hr0_1
  have HG := Aside0.mk hg
  have HB := Aside0.mk (Below.refl w.heap.size w)
  have hu24 := Tryd.underlying50
  clear h hr0_1 hg
  go_enter Tryd.func46, Tryd.ntmps46
  go_wp2_with ((with_reducible refine gate_dst (N := 1) rfl ?_); refine box_event ?hg (N := 1) ?hd (cs := #[.int .i64 a0_0, .slice A0_1 l0_1.length c0_1]) (t := 50) ?hr ?_; (case hd => rfl); (case hg => rfl); (case hr => first | (go_simp; done) | (go_simp; rfl)); intro gb hgb w3 hbox hb; have HB3 := Aside0.mk (below_step HB.out hb); have BK := Aside0.mk hbox; clear hb hbox)
  subst hgb
  clear HB
  go_loopw [3, 4] (fun v3 v4 w' => ∃ i : Nat, v4 = .int .i64 i ∧ v3 = .int .i64 (totS (l0_1.take i)) ∧ i ≤ l0_1.length ∧ Aside0 (∀ j, j < i → okF l0_1 j) ∧ Aside0 (0 ≤ totS (l0_1.take i) ∧ totS (l0_1.take i) ≤ 67108864 * 2) ∧ Aside0 (w'.heap[w.heap.size]? = some (.cells #[.int .i64 a0_0, .slice A0_1 l0_1.length c0_1] 50 (0, 0))) ∧ Aside0 (Below w.heap.size w w')) (fun _ v4 _ => l0_1.length - (intOf v4).toNat)
  case atStart => exact ⟨0, rfl, rfl, Nat.zero_le _, ⟨fun j hj => by omega⟩, ⟨by rw [show totS (List.take 0 l0_1) = 0 from rfl]; decide⟩, BK, HB3⟩
  case round =>
   clear BK HB3
   obtain ⟨i, rfl, rfl, hi, HOK, HT, BK, HB⟩ := hrel
   have hcz0 : wr.cell? ⟨w.heap.size, 0, none⟩ = some (.int .i64 a0_0) := (blk_cell BK.out 0).trans rfl
   have hcz1 : wr.cell? ⟨w.heap.size, 1, none⟩ = some (.slice A0_1 l0_1.length c0_1) := (blk_cell BK.out 1).trans rfl
   by_cases c1 : i < l0_1.length
   ·have c1i : (i : Int) < l0_1.length := by omega
    obtain ⟨ad, A1, c1', rfl, hx0, hx1, hx2, hl1, hi1⟩ := at_T84 HR.out (i : Int) (by omega) (by omega)
    replace hx0 := (HB.out.cell (World.block_lt_of_cell? w _ hx0)).trans hx0
    replace hx1 := (HB.out.cell (World.block_lt_of_cell? w _ hx1)).trans hx1
    replace hx2 := (HB.out.cell (World.block_lt_of_cell? w _ hx2)).trans hx2
    rw [Int.toNat_natCast] at hx0 hx1 hx2
    have hfz0 := blk_frozen BK.out 0
    have hfz1 := blk_frozen BK.out 1
    go_wp2
    have hnm : ∃ b, dragnetref16_named.f (rd_T84 l0_1 (i : Int)).f0 = some b ∧ (b = true ↔ (1 ≤ (rd_T84 l0_1 (i : Int)).f0.size ∧ (rd_T84 l0_1 (i : Int)).f0.size ≤ 32)) := by
     unfold dragnetref16_named.f
     split
     ·exact ⟨_, rfl, by rw [decide_eq_true_eq]; omega⟩
     ·exact ⟨_, rfl, by simp; omega⟩
    obtain ⟨b, hb, hbi⟩ := hnm
    have HBI := Aside0.mk hbi
    clear hbi
    have BX := Aside0.mk (blk_new wr (.cells #[.string (rd_T84 l0_1 (i : Int)).f0, .slice A1 (rd_T84 l0_1 (i : Int)).f1.length c1', .int .i64 (rd_T84 l0_1 (i : Int)).f2] 84 (0, 0)))
    have BK5 := Aside0.mk (blk_alloc BK.out (.cells #[.string (rd_T84 l0_1 (i : Int)).f0, .slice A1 (rd_T84 l0_1 (i : Int)).f1.length c1', .int .i64 (rd_T84 l0_1 (i : Int)).f2] 84 (0, 0)))
    have HB5 := Aside0.mk (below_alloc HB.out (.cells #[.string (rd_T84 l0_1 (i : Int)).f0, .slice A1 (rd_T84 l0_1 (i : Int)).f1.length c1', .int .i64 (rd_T84 l0_1 (i : Int)).f2] 84 (0, 0)))
    generalize wr.alloc (.cells #[.string (rd_T84 l0_1 (i : Int)).f0, .slice A1 (rd_T84 l0_1 (i : Int)).f1.length c1', .int .i64 (rd_T84 l0_1 (i : Int)).f2] 84 (0, 0)) = W5 at *
    have hy0 : W5.cell? ⟨wr.heap.size, 0, none⟩ = some (.string (rd_T84 l0_1 (i : Int)).f0) := (blk_cell BX.out 0).trans rfl
    have hy1 : W5.cell? ⟨wr.heap.size, 1, none⟩ = some (.slice A1 (rd_T84 l0_1 (i : Int)).f1.length c1') := (blk_cell BX.out 1).trans rfl
    have hy2 : W5.cell? ⟨wr.heap.size, 2, none⟩ = some (.int .i64 (rd_T84 l0_1 (i : Int)).f2) := (blk_cell BX.out 2).trans rfl
    have hk0 : W5.cell? ⟨w.heap.size, 0, none⟩ = some (.int .i64 a0_0) := (blk_cell BK5.out 0).trans rfl
    have hk1 : W5.cell? ⟨w.heap.size, 1, none⟩ = some (.slice (some ad) l0_1.length c0_1) := (blk_cell BK5.out 1).trans rfl
    cases b with
    | false =>
     go_quiet (first | (go_at_call 70; (with_reducible refine (dragnetref16_named.calls _ false _ hb).mono ?_); rintro e w' ⟨rfl, ⟨nd, rfl⟩⟩; (try first | exact ⟨rfl, _, World.drewN_drewN _ _ _⟩ | exact ⟨rfl, _, Eq.trans (World.drewN_drewN _ _ _) (congrArg (World.drewN _) (Nat.add_assoc _ _ _))⟩)))
     have HB6 := Aside0.mk (pw_below_drewN HB5.out nq)
     go_wp2
     go_ret
     refine ⟨?_, HB6.out⟩
     rw [← HE.out]
     show Ending.returned (.bool false) = Ending.returned (.bool _)
     rw [decide_eq_false (fun h => absurd (HBI.out.2 (h.1 i c1).1) (by decide))]
    | true =>
     obtain ⟨x, hxx⟩ : ∃ x, x = rd_T84 l0_1 (i : Int) := ⟨_, rfl⟩
     have HX := Aside0.mk hxx
     rw [← hxx] at hy0 hy1 hy2 hb HBI
     clear hxx hx0 hx1 hx2
     by_cases s1 : x.f2 < 0
     ·have s1b := decide_eq_true s1
      go_quiet (first | (go_at_call 70; (with_reducible refine (dragnetref16_named.calls _ true _ hb).mono ?_); rintro e w' ⟨rfl, ⟨nd, rfl⟩⟩; (try first | exact ⟨rfl, _, World.drewN_drewN _ _ _⟩ | exact ⟨rfl, _, Eq.trans (World.drewN_drewN _ _ _) (congrArg (World.drewN _) (Nat.add_assoc _ _ _))⟩)))
      have HB6 := Aside0.mk (pw_below_drewN HB5.out nq)
      go_wp2
      go_ret
      refine ⟨?_, HB6.out⟩
      rw [← HE.out]
      show Ending.returned (.bool false) = Ending.returned (.bool _)
      rw [decide_eq_false (fun h => by have := (h.1 i c1).2.1; rw [← HX.out] at this; omega)]
     ·have s1b := decide_eq_false s1
      by_cases s2 : x.f2 > (x.f1.length : Int)
      ·have s2b : decide ((x.f1.length : Int) < x.f2) = true := decide_eq_true s2
       go_quiet (first | (go_at_call 70; (with_reducible refine (dragnetref16_named.calls _ true _ hb).mono ?_); rintro e w' ⟨rfl, ⟨nd, rfl⟩⟩; (try first | exact ⟨rfl, _, World.drewN_drewN _ _ _⟩ | exact ⟨rfl, _, Eq.trans (World.drewN_drewN _ _ _) (congrArg (World.drewN _) (Nat.add_assoc _ _ _))⟩)))
       have HB6 := Aside0.mk (pw_below_drewN HB5.out nq)
       go_wp2
       go_ret
       refine ⟨?_, HB6.out⟩
       rw [← HE.out]
       show Ending.returned (.bool false) = Ending.returned (.bool _)
       rw [decide_eq_false (fun h => by have := (h.1 i c1).2.2.1; rw [← HX.out] at this; omega)]
      ·have s2b : decide ((x.f1.length : Int) < x.f2) = false := decide_eq_false s2
       by_cases i0 : 0 < i
       ·have i0b : (0 : Int) < i := by omega
        have i0d := decide_eq_true i0b
        obtain ⟨j, hj⟩ : ∃ j, j = (i : Int) - 1 := ⟨_, rfl⟩
        have HJ := Aside0.mk hj
        have hwr0 : IntKind.i64.wrap ((i : Int) - 1) = j := by have := HG.out; rw [IntKind.wrap_i64]; omega
        have i1a : (0 : Int) ≤ j := by omega
        have i1b : j < l0_1.length := by omega
        clear hj
        obtain ⟨ad2, A2, c2', ead, hp0, hp1, hp2, hl2, hi2⟩ := at_T84 HR.out j i1a i1b
        replace i1a := eq_true i1a
        replace i1b := eq_true i1b
        cases ead
        replace hp0 := (HB5.out.cell (World.block_lt_of_cell? w _ hp0)).trans hp0
        clear hp1 hp2
        obtain ⟨y, hyy⟩ : ∃ y, y = rd_T84 l0_1 j := ⟨_, rfl⟩
        have HY := Aside0.mk hyy
        rw [← hyy] at hp0
        clear hyy
        by_cases s6 : Go.Op.bytesLess y.f0.toList x.f0.toList = true
        ·skip
         by_cases s4 : (67108864 : Int) < (x.f1.length : Int)
         ·have s4b := decide_eq_true s4
          go_quiet (first | (go_at_call 70; (with_reducible refine (dragnetref16_named.calls _ true _ hb).mono ?_); rintro e w' ⟨rfl, ⟨nd, rfl⟩⟩; (try first | exact ⟨rfl, _, World.drewN_drewN _ _ _⟩ | exact ⟨rfl, _, Eq.trans (World.drewN_drewN _ _ _) (congrArg (World.drewN _) (Nat.add_assoc _ _ _))⟩)))
          have HB6 := Aside0.mk (pw_below_drewN HB5.out nq)
          go_wp2
          go_ret
          refine ⟨?_, HB6.out⟩
          rw [← HE.out]
          show Ending.returned (.bool false) = Ending.returned (.bool _)
          rw [decide_eq_false (fun h => by have := (h.1 i c1).2.2.2.2.1; rw [← HX.out] at this; omega)]
         ·have s4b := decide_eq_false s4
          obtain ⟨t, htt⟩ : ∃ t, t = totS (List.take i l0_1) := ⟨_, rfl⟩
          have HTT := Aside0.mk htt
          rw [← htt] at HT ⊢
          clear htt
          by_cases s5 : (67108864 : Int) < t
          ·have s5b := decide_eq_true s5
           go_quiet (first | (go_at_call 70; (with_reducible refine (dragnetref16_named.calls _ true _ hb).mono ?_); rintro e w' ⟨rfl, ⟨nd, rfl⟩⟩; (try first | exact ⟨rfl, _, World.drewN_drewN _ _ _⟩ | exact ⟨rfl, _, Eq.trans (World.drewN_drewN _ _ _) (congrArg (World.drewN _) (Nat.add_assoc _ _ _))⟩)))
           have HB6 := Aside0.mk (pw_below_drewN HB5.out nq)
           go_wp2
           go_ret
           refine ⟨?_, HB6.out⟩
           rw [← HE.out]
           show Ending.returned (.bool false) = Ending.returned (.bool _)
           rw [decide_eq_false (fun h => by have := (h.1 i c1).2.2.2.2.2; rw [← HTT.out] at this; omega)]
          ·have s5b := decide_eq_false s5
           have hwr1 : IntKind.i64.wrap (t + (x.f1.length : Int)) = t + (x.f1.length : Int) := by have := HT.out; rw [IntKind.wrap_i64]; omega
           have hwr2 : IntKind.i64.wrap ((i : Int) + 1) = (i : Int) + 1 := by have := HG.out; rw [IntKind.wrap_i64]; omega
           go_quiet (first | (go_at_call 70; (with_reducible refine (dragnetref16_named.calls _ true _ hb).mono ?_); rintro e w' ⟨rfl, ⟨nd, rfl⟩⟩; (try first | exact ⟨rfl, _, World.drewN_drewN _ _ _⟩ | exact ⟨rfl, _, Eq.trans (World.drewN_drewN _ _ _) (congrArg (World.drewN _) (Nat.add_assoc _ _ _))⟩)))
           have HB6 := Aside0.mk (pw_below_drewN HB5.out nq)
           have BK6 := Aside0.mk (blk_drewN BK5.out nq)
           go_wp2
           have hOKi : okF l0_1 i := ⟨HBI.out.1 rfl |> (HX.out ▸ ·), by rw [← HX.out]; omega, by rw [← HX.out]; omega, fun _ => by rw [← HX.out, ← HJ.out, ← HY.out]; exact s6, by rw [← HX.out]; omega, by rw [← HTT.out]; omega⟩
           go_roundw
           ·exact ⟨i + 1, rfl, by rw [tot_snoc l0_1 i c1, ← HTT.out, ← HX.out], by omega, ⟨fun j hj => by rcases Nat.lt_succ_iff_lt_or_eq.1 hj with h | h; exact HOK.out j h; exact h ▸ hOKi⟩, ⟨by rw [tot_snoc l0_1 i c1, ← HTT.out, ← HX.out]; have := HT.out; omega⟩, BK6, HB6⟩
           ·show l0_1.length - ((i : Int) + 1).toNat < l0_1.length - (i : Int).toNat
            omega
        ·rw [Bool.not_eq_true] at s6
         go_quiet (first | (go_at_call 70; (with_reducible refine (dragnetref16_named.calls _ true _ hb).mono ?_); rintro e w' ⟨rfl, ⟨nd, rfl⟩⟩; (try first | exact ⟨rfl, _, World.drewN_drewN _ _ _⟩ | exact ⟨rfl, _, Eq.trans (World.drewN_drewN _ _ _) (congrArg (World.drewN _) (Nat.add_assoc _ _ _))⟩)))
         have HB6 := Aside0.mk (pw_below_drewN HB5.out nq)
         go_wp2
         go_ret
         refine ⟨?_, HB6.out⟩
         rw [← HE.out]
         show Ending.returned (.bool false) = Ending.returned (.bool _)
         rw [decide_eq_false (fun h => by have := (h.1 i c1).2.2.2.1 i0; rw [← HX.out, ← HJ.out, ← HY.out, s6] at this; cases this)]
       ·have i0d : decide ((0 : Int) < i) = false := decide_eq_false (by omega)
        by_cases s4 : (67108864 : Int) < (x.f1.length : Int)
        ·have s4b := decide_eq_true s4
         go_quiet (first | (go_at_call 70; (with_reducible refine (dragnetref16_named.calls _ true _ hb).mono ?_); rintro e w' ⟨rfl, ⟨nd, rfl⟩⟩; (try first | exact ⟨rfl, _, World.drewN_drewN _ _ _⟩ | exact ⟨rfl, _, Eq.trans (World.drewN_drewN _ _ _) (congrArg (World.drewN _) (Nat.add_assoc _ _ _))⟩)))
         have HB6 := Aside0.mk (pw_below_drewN HB5.out nq)
         go_wp2
         go_ret
         refine ⟨?_, HB6.out⟩
         rw [← HE.out]
         show Ending.returned (.bool false) = Ending.returned (.bool _)
         rw [decide_eq_false (fun h => by have := (h.1 i c1).2.2.2.2.1; rw [← HX.out] at this; omega)]
        ·have s4b := decide_eq_false s4
         obtain ⟨t, htt⟩ : ∃ t, t = totS (List.take i l0_1) := ⟨_, rfl⟩
         have HTT := Aside0.mk htt
         rw [← htt] at HT ⊢
         clear htt
         by_cases s5 : (67108864 : Int) < t
         ·have s5b := decide_eq_true s5
          go_quiet (first | (go_at_call 70; (with_reducible refine (dragnetref16_named.calls _ true _ hb).mono ?_); rintro e w' ⟨rfl, ⟨nd, rfl⟩⟩; (try first | exact ⟨rfl, _, World.drewN_drewN _ _ _⟩ | exact ⟨rfl, _, Eq.trans (World.drewN_drewN _ _ _) (congrArg (World.drewN _) (Nat.add_assoc _ _ _))⟩)))
          have HB6 := Aside0.mk (pw_below_drewN HB5.out nq)
          go_wp2
          go_ret
          refine ⟨?_, HB6.out⟩
          rw [← HE.out]
          show Ending.returned (.bool false) = Ending.returned (.bool _)
          rw [decide_eq_false (fun h => by have := (h.1 i c1).2.2.2.2.2; rw [← HTT.out] at this; omega)]
         ·have s5b := decide_eq_false s5
          have hwr1 : IntKind.i64.wrap (t + (x.f1.length : Int)) = t + (x.f1.length : Int) := by have := HT.out; rw [IntKind.wrap_i64]; omega
          have hwr2 : IntKind.i64.wrap ((i : Int) + 1) = (i : Int) + 1 := by have := HG.out; rw [IntKind.wrap_i64]; omega
          go_quiet (first | (go_at_call 70; (with_reducible refine (dragnetref16_named.calls _ true _ hb).mono ?_); rintro e w' ⟨rfl, ⟨nd, rfl⟩⟩; (try first | exact ⟨rfl, _, World.drewN_drewN _ _ _⟩ | exact ⟨rfl, _, Eq.trans (World.drewN_drewN _ _ _) (congrArg (World.drewN _) (Nat.add_assoc _ _ _))⟩)))
          have HB6 := Aside0.mk (pw_below_drewN HB5.out nq)
          have BK6 := Aside0.mk (blk_drewN BK5.out nq)
          go_wp2
          have hOKi : okF l0_1 i := ⟨HBI.out.1 rfl |> (HX.out ▸ ·), by rw [← HX.out]; omega, by rw [← HX.out]; omega, fun h => absurd h i0, by rw [← HX.out]; omega, by rw [← HTT.out]; omega⟩
          go_roundw
          ·exact ⟨i + 1, rfl, by rw [tot_snoc l0_1 i c1, ← HTT.out, ← HX.out], by omega, ⟨fun j hj => by rcases Nat.lt_succ_iff_lt_or_eq.1 hj with h | h; exact HOK.out j h; exact h ▸ hOKi⟩, ⟨by rw [tot_snoc l0_1 i c1, ← HTT.out, ← HX.out]; have := HT.out; omega⟩, BK6, HB6⟩
          ·show l0_1.length - ((i : Int) + 1).toNat < l0_1.length - (i : Int).toNat
           omega
   ·obtain rfl : i = l0_1.length := by omega
    have hall := HOK.out
    have htot := HT.out
    rw [List.take_length] at htot ⊢
    have hF : FormedR a0_0 l0_1 ↔ (0 ≤ a0_0 ∧ a0_0 ≤ 67108864 ∧ l0_1.length ≤ 256 ∧ totS l0_1 ≤ a0_0) := ⟨fun h => h.2, fun h => ⟨hall, h⟩⟩
    have HF := Aside0.mk hF
    clear hF hall
    have HT' := Aside0.mk htot
    generalize totS l0_1 = t at *
    go_wp2
    all_goals (
     go_ret
     refine ⟨?_, HB.out⟩
     rw [← HE.out]
     show Ending.returned (.bool _) = Ending.returned (.bool _)
     congr 2
     rw [eq_comm, show decide (FormedR a0_0 l0_1) = decide (0 ≤ a0_0 ∧ a0_0 ≤ 67108864 ∧ l0_1.length ≤ 256 ∧ t ≤ a0_0) from decide_eq_decide.2 HF.out]
     first | (rw [decide_eq_true_eq]; omega) | (rw [decide_eq_false_iff_not]; omega) | (congr 1; simp; omega) | trace_state)
 ·rw [if_neg hg] at h
  cases h
def dragnetref16_place.l0 : Nat → ByteArray → Int → Int → List (S84) → Option (Int)
 | 0, _, _, _, _ => none
 | k + 1, x1, x5, x286000, x286001 => if x5 < (x286001.length : Int) then (if 0 ≤ x5 then (if ((rd_T84 x286001 x5).f0).toList = x1.toList then (some x5) else (dragnetref16_place.l0 k x1 (wrap64 (x5 + 1)) x286000 x286001)) else (none)) else (some (-1))
def dragnetref16_place.f (k : Nat) (a0_0 : Int) (l0_1 : List (S84)) (a1 : ByteArray) : Option (Int) := dragnetref16_place.l0 k a1 0 a0_0 l0_1
theorem dragnetref16_place.mono_l : ∀ k, (∀ y0 y1 y2 y3, LeO (dragnetref16_place.l0 k y0 y1 y2 y3) (dragnetref16_place.l0 (k + 1) y0 y1 y2 y3))
 | 0 => fun _ _ _ _ r h => by simp [dragnetref16_place.l0] at h
 | k + 1 => by
  have ih0 := dragnetref16_place.mono_l k
  ·intro y0 y1 y2 y3
   unfold dragnetref16_place.l0
   repeat' first
   | (with_reducible exact ih0 _ _ _ _)
   | (with_reducible exact LeO.refl _)
   | (with_reducible exact LeO.none _)
   | (with_reducible refine LeO.ite ?_ ?_)
   | (with_reducible refine LeO.bind ?_ (fun _ => ?_))
   | exact ih0 _ _ _ _
   | exact LeO.none _
   | refine LeO.ite ?_ ?_
   | refine LeO.bind ?_ (fun _ => ?_)
theorem dragnetref16_place.mono : ∀ a0 a1 a2 k, LeO (dragnetref16_place.f k a0 a1 a2) (dragnetref16_place.f (k + 1) a0 a1 a2) := by
 intro a0 a1 a2 k
 have ih0 := dragnetref16_place.mono_l k
 unfold dragnetref16_place.f
 repeat' first
   | (with_reducible exact ih0 _ _ _ _)
   | (with_reducible exact LeO.refl _)
   | (with_reducible exact LeO.none _)
   | (with_reducible refine LeO.ite ?_ ?_)
   | (with_reducible refine LeO.bind ?_ (fun _ => ?_))
   | exact ih0 _ _ _ _
   | exact LeO.none _
   | refine LeO.ite ?_ ?_
   | refine LeO.bind ?_ (fun _ => ?_)
set_option maxHeartbeats 8000000 in
set_option maxRecDepth 100000 in
theorem dragnetref16_place.calls (k : Nat) (a0_0 : Int) (A0_1 : Option Addr) (c0_1 : Nat) (l0_1 : List (S84)) (a1 : ByteArray) (r : Int) (w : World) (hr0_1 : Kd.C k84 w A0_1 l0_1.length l0_1) (hc0_1 : l0_1.length ≤ c0_1) (h : dragnetref16_place.f k a0_0 l0_1 a1 = some r) :
  Calls Tryd.prog 71 #[.agg #[.int .i64 a0_0, .slice A0_1 l0_1.length c0_1], .string a1] w fun e w' => e = .returned (.int .i64 r) ∧ Below w.heap.size w w' := by
 have hu50 := Tryd.underlying50
 have HR0_1 := Aside0.mk hr0_1
 have HC0_1 := Aside0.mk hc0_1
 clear hr0_1 hc0_1
 have HB := Aside0.mk (Below.refl w.heap.size w)
 have H : (dragnetref16_place.l0 k a1 0 a0_0 l0_1) = some r := h
 clear h
 have H' := Aside0.mk H
 clear H
 go_enter Tryd.func71, Tryd.ntmps71
 go_wp2_with (first | ((with_reducible refine gate_dst (N := 2) rfl ?_); refine box_event ?hg (N := 2) ?hd (cs := #[.int .i64 a0_0, .slice A0_1 l0_1.length c0_1]) (t := 50) ?hr ?_; (case hd => rfl); (case hg => rfl); (case hr => first | (go_simp; done) | (go_simp; rfl)); intro gb285 hg w3 hbox hb; have n0_ := Aside0.mk (below_step (by repeat (first | (with_reducible first | exact HB.out | apply below_alloc | apply pw_below_drewN | apply below_drew1) | exact HB.out)) hb); have n1_ := Aside0.mk (hbox); have n2_ := Aside0.mk ((by rw [hg]; exact (below_size (by repeat (first | (with_reducible first | exact HB.out | apply below_alloc | apply pw_below_drewN | apply below_drew1) | exact HB.out))) : w.heap.size ≤ gb285)); have n3_ := Aside0.mk ((by rw [hg]; exact (below_size (by repeat (first | (with_reducible first | exact HB.out | apply below_alloc | apply pw_below_drewN | apply below_drew1) | exact HB.out))) : w.heap.size ≤ gb285)); clear HB; have HB := n0_; have BK285 := n1_; have GW285 := n2_; have GE285 := n3_; clear n0_ n1_ n2_ n3_; clear hb hbox hg))
 go_loopg [5] k (fun kq v5 w' => ∃ (x5_1 : Int), v5 = .int .i64 x5_1 ∧ Aside0 (dragnetref16_place.l0 kq a1 x5_1 a0_0 l0_1 = some r) ∧ Aside0 (kq ≤ k) ∧ Aside0 (w'.heap[gb285]? = some (.cells #[.int .i64 a0_0, (.slice A0_1 l0_1.length c0_1)] 50 (0, 0))) ∧ Aside0 (Below w.heap.size w w'))
 case atStart => exact ⟨(0), (by first | rfl | (simp; done) | (simp [*]; done)), H', ⟨Nat.le_refl _⟩, ⟨by (with_reducible repeat (first | refine blk_drewN ?_ _ | refine blk_drew ?_ | refine blk_alloc ?_ _)); exact BK285.out⟩, ⟨by repeat (first | (with_reducible first | exact HB.out | apply below_alloc | apply pw_below_drewN | apply below_drew1 | refine below_set ?_ GE285.out) | exact HB.out)⟩⟩
 case round =>
  clear H'
  try clear p2
  obtain ⟨x5_1, rfl, HA, HK1, BK285, HB⟩ := hrel
  cases gk with
  | zero => exact absurd HA.out (by simp [dragnetref16_place.l0])
  | succ k1 =>
   have H := HA.out
   clear HA
   simp only [dragnetref16_place.l0] at H
   by_cases c4 : x5_1 < (l0_1.length : Int)
   ·rw [if_pos c4] at H
    have c4b0 : decide (x5_1 < (l0_1.length : Int)) = true := decide_eq_true c4
    clear c4
    by_cases c5 : 0 ≤ x5_1
    ·rw [if_pos c5] at H
     have c5b0 : decide (0 ≤ x5_1) = true := decide_eq_true c5
     clear c5
     by_cases c6 : ((rd_T84 l0_1 x5_1).f0).toList = a1.toList
     ·rw [if_pos c6] at H
      have c6b0 : (((rd_T84 l0_1 x5_1).f0).toList == a1.toList) = true := beq_iff_eq.mpr c6
      have c6b1 : (((rd_T84 l0_1 x5_1).f0).toList != a1.toList) = false := bne_eq_false_iff_eq.mpr c6
      clear c6
      obtain rfl := Option.some.inj H
      have hcz7_0 : wr.cell? ⟨gb285, 0, none⟩ = some (.int .i64 a0_0) := (blk_cell BK285.out 0).trans rfl
      have hcz7_1 : wr.cell? ⟨gb285, 1, none⟩ = some (.slice A0_1 l0_1.length c0_1) := (blk_cell BK285.out 1).trans rfl
      have hfz7_0 := blk_frozen BK285.out 0
      have hfz7_1 := blk_frozen BK285.out 1
      have p286 : 0 ≤ (x5_1 : Int) := of_decide_eq_true (by first | (with_reducible assumption) | assumption)
      have q286 : x5_1 < (l0_1.length : Int) := of_decide_eq_true (by first | (with_reducible assumption) | assumption)
      obtain ⟨ad286, A286_1, c286_1, e286, hx286_0, hx286_1, hx286_2, hl286_1, hi286_1⟩ := at_T84 HR0_1.out x5_1 p286 q286
      cases e286
      replace hx286_0 := (HB.out.cell (World.block_lt_of_cell? w _ hx286_0)).trans hx286_0
      replace hx286_1 := (HB.out.cell (World.block_lt_of_cell? w _ hx286_1)).trans hx286_1
      replace hx286_2 := (HB.out.cell (World.block_lt_of_cell? w _ hx286_2)).trans hx286_2
      have HR286_1 := Aside0.mk hi286_1
      have HC286_1 := Aside0.mk hl286_1
      clear hi286_1 hl286_1
      replace p286 := eq_true p286
      replace q286 := eq_true q286
      go_wp2
      go_ret
      exact ⟨by first | rfl | (simp [errW_none, errW_some] <;> rfl) | (simp [*, errW_none, errW_some] <;> rfl), by repeat (first | (with_reducible first | exact HB.out | apply below_alloc | apply pw_below_drewN | apply below_drew1 | refine below_set ?_ GE285.out) | exact HB.out)⟩
     ·rw [if_neg c6] at H
      have c6b0 : (((rd_T84 l0_1 x5_1).f0).toList == a1.toList) = false := beq_eq_false_iff_ne.mpr c6
      have c6b1 : (((rd_T84 l0_1 x5_1).f0).toList != a1.toList) = true := bne_iff_ne.mpr c6
      have H' := Aside0.mk H
      clear H
      have hcz8_0 : wr.cell? ⟨gb285, 0, none⟩ = some (.int .i64 a0_0) := (blk_cell BK285.out 0).trans rfl
      have hcz8_1 : wr.cell? ⟨gb285, 1, none⟩ = some (.slice A0_1 l0_1.length c0_1) := (blk_cell BK285.out 1).trans rfl
      have hfz8_0 := blk_frozen BK285.out 0
      have hfz8_1 := blk_frozen BK285.out 1
      have p286 : 0 ≤ (x5_1 : Int) := of_decide_eq_true (by first | (with_reducible assumption) | assumption)
      have q286 : x5_1 < (l0_1.length : Int) := of_decide_eq_true (by first | (with_reducible assumption) | assumption)
      obtain ⟨ad286, A286_1, c286_1, e286, hx286_0, hx286_1, hx286_2, hl286_1, hi286_1⟩ := at_T84 HR0_1.out x5_1 p286 q286
      cases e286
      replace hx286_0 := (HB.out.cell (World.block_lt_of_cell? w _ hx286_0)).trans hx286_0
      replace hx286_1 := (HB.out.cell (World.block_lt_of_cell? w _ hx286_1)).trans hx286_1
      replace hx286_2 := (HB.out.cell (World.block_lt_of_cell? w _ hx286_2)).trans hx286_2
      have HR286_1 := Aside0.mk hi286_1
      have HC286_1 := Aside0.mk hl286_1
      clear hi286_1 hl286_1
      replace p286 := eq_true p286
      replace q286 := eq_true q286
      go_wp2
      go_roundg k1
      case measure => have := HK1.out; omega
      case rel => exact ⟨(wrap64 (x5_1 + 1)), (by first | rfl | (simp; done) | (simp [*]; done)), H', ⟨by have := HK1.out; omega⟩, ⟨by (with_reducible repeat (first | refine blk_drewN ?_ _ | refine blk_drew ?_ | refine blk_alloc ?_ _)); exact BK285.out⟩, ⟨by repeat (first | (with_reducible first | exact HB.out | apply below_alloc | apply pw_below_drewN | apply below_drew1 | refine below_set ?_ GE285.out) | exact HB.out)⟩⟩
    ·rw [if_neg c5] at H
     exact absurd H (by simp)
   ·rw [if_neg c4] at H
    have c4b0 : decide (x5_1 < (l0_1.length : Int)) = false := decide_eq_false c4
    clear c4
    obtain rfl := Option.some.inj H
    have hcz9_0 : wr.cell? ⟨gb285, 0, none⟩ = some (.int .i64 a0_0) := (blk_cell BK285.out 0).trans rfl
    have hcz9_1 : wr.cell? ⟨gb285, 1, none⟩ = some (.slice A0_1 l0_1.length c0_1) := (blk_cell BK285.out 1).trans rfl
    have hfz9_0 := blk_frozen BK285.out 0
    have hfz9_1 := blk_frozen BK285.out 1
    go_wp2
    go_ret
    exact ⟨by first | rfl | (simp [errW_none, errW_some] <;> rfl) | (simp [*, errW_none, errW_some] <;> rfl), by repeat (first | (with_reducible first | exact HB.out | apply below_alloc | apply pw_below_drewN | apply below_drew1 | refine below_set ?_ GE285.out) | exact HB.out)⟩
def dragnetref16_Read.j0 : Nat → ByteArray → Bool → Int → List (S84) → Option (List Int × Int)
 | 0, _, _, _, _ => none
 | k + 1, x1, x14, x288000, x288001 => if x14 = true then (some (([] : List Int), 1)) else ((dragnetref16_place.f k x288000 x288001 x1).bind fun t290 => (if t290 < 0 then (some (([] : List Int), 8)) else (if 0 ≤ t290 then (if t290 < (x288001.length : Int) then ((dragnetref01_Copy.f ((rd_T84 x288001 t290).f1)).bind fun t292 => (some (t292, 0))) else (none)) else (none))))
def dragnetref16_Read.f (k : Nat) (a0_0 : Int) (l0_1 : List (S84)) (a1 : ByteArray) : Option (List Int × Int) := (dragnetref16_Formed.f a0_0 l0_1).bind fun t288 => (if t288 = true then ((dragnetref16_named.f a1).bind fun t289 => (dragnetref16_Read.j0 k a1 (!t289) a0_0 l0_1)) else (dragnetref16_Read.j0 k a1 true a0_0 l0_1))
theorem dragnetref16_Read.mono_l : ∀ k, (∀ y0 y1 y2 y3, LeO (dragnetref16_Read.j0 k y0 y1 y2 y3) (dragnetref16_Read.j0 (k + 1) y0 y1 y2 y3))
 | 0 => fun _ _ _ _ r h => by simp [dragnetref16_Read.j0] at h
 | k + 1 => by
  have ih0 := dragnetref16_Read.mono_l k
  ·intro y0 y1 y2 y3
   unfold dragnetref16_Read.j0
   repeat' first
   | (with_reducible exact ih0 _ _ _ _)
   | (with_reducible exact dragnetref16_place.mono _ _ _ _)
   | (with_reducible exact LeO.refl _)
   | (with_reducible exact LeO.none _)
   | (with_reducible refine LeO.ite ?_ ?_)
   | (with_reducible refine LeO.bind ?_ (fun _ => ?_))
   | exact ih0 _ _ _ _
   | exact dragnetref16_place.mono _ _ _ _
   | exact LeO.none _
   | refine LeO.ite ?_ ?_
   | refine LeO.bind ?_ (fun _ => ?_)
theorem dragnetref16_Read.mono : ∀ a0 a1 a2 k, LeO (dragnetref16_Read.f k a0 a1 a2) (dragnetref16_Read.f (k + 1) a0 a1 a2) := by
 intro a0 a1 a2 k
 have ih0 := dragnetref16_Read.mono_l k
 unfold dragnetref16_Read.f
 repeat' first
   | (with_reducible exact ih0 _ _ _ _)
   | (with_reducible exact dragnetref16_place.mono _ _ _ _)
   | (with_reducible exact LeO.refl _)
   | (with_reducible exact LeO.none _)
   | (with_reducible refine LeO.ite ?_ ?_)
   | (with_reducible refine LeO.bind ?_ (fun _ => ?_))
   | exact ih0 _ _ _ _
   | exact dragnetref16_place.mono _ _ _ _
   | exact LeO.none _
   | refine LeO.ite ?_ ?_
   | refine LeO.bind ?_ (fun _ => ?_)
set_option maxHeartbeats 8000000 in
set_option maxRecDepth 100000 in
theorem dragnetref16_Read.calls (k : Nat) (a0_0 : Int) (A0_1 : Option Addr) (c0_1 : Nat) (l0_1 : List (S84)) (a1 : ByteArray) (r1 : List Int) (r2 : Int) (w : World) (hr0_1 : Kd.C k84 w A0_1 l0_1.length l0_1) (hc0_1 : l0_1.length ≤ c0_1) (h : dragnetref16_Read.f k a0_0 l0_1 a1 = some (r1, r2)) :
  Calls Tryd.prog 47 #[.agg #[.int .i64 a0_0, .slice A0_1 l0_1.length c0_1], .string a1] w fun e w' => ∃ v0_ : Value, e = .returned (.tuple #[v0_, .int .i64 r2]) ∧ Kd.R (Kd.int .u8) 5 w' w.heap.size (fun _ => True) v0_ r1 ∧ Below w.heap.size w w' := by
 have hu50 := Tryd.underlying50
 have HR0_1 := Aside0.mk hr0_1
 have HC0_1 := Aside0.mk hc0_1
 clear hr0_1 hc0_1
 have HB := Aside0.mk (Below.refl w.heap.size w)
 have H : ((dragnetref16_Formed.f a0_0 l0_1).bind fun t288 => (if t288 = true then ((dragnetref16_named.f a1).bind fun t289 => (dragnetref16_Read.j0 k a1 (!t289) a0_0 l0_1)) else (dragnetref16_Read.j0 k a1 true a0_0 l0_1))) = some (r1, r2) := h
 clear h
 have HC3 := Aside0.mk H
 clear H
 go_enter Tryd.func47, Tryd.ntmps47
 go_upto_region 1 with (first | ((with_reducible refine gate_dst (N := 2) rfl ?_); refine box_event ?hg (N := 2) ?hd (cs := #[.int .i64 a0_0, .slice A0_1 l0_1.length c0_1]) (t := 50) ?hr ?_; (case hd => rfl); (case hg => rfl); (case hr => first | (go_simp; done) | (go_simp; rfl)); intro gb287 hg w4 hbox hb; have n0_ := Aside0.mk (below_step (by repeat (first | (with_reducible first | exact HB.out | apply below_alloc | apply pw_below_drewN | apply below_drew1) | exact HB.out)) hb); have n1_ := Aside0.mk (hbox); have n2_ := Aside0.mk ((by rw [hg]; exact (below_size (by repeat (first | (with_reducible first | exact HB.out | apply below_alloc | apply pw_below_drewN | apply below_drew1) | exact HB.out))) : w.heap.size ≤ gb287)); have n3_ := Aside0.mk ((by rw [hg]; exact (below_size (by repeat (first | (with_reducible first | exact HB.out | apply below_alloc | apply pw_below_drewN | apply below_drew1) | exact HB.out))) : w.heap.size ≤ gb287)); clear HB; have HB := n0_; have BK287 := n1_; have GW287 := n2_; have GE287 := n3_; clear n0_ n1_ n2_ n3_; clear hb hbox hg))
 (try simp only [Act.put, List.setIfInBounds_toArray, List.set_cons_zero, List.set_cons_succ])
 go_cut [14] (fun v14 wc => ∃ (kq : Nat) (x14_2 : Bool), v14 = .bool x14_2 ∧ Aside0 (dragnetref16_Read.j0 kq a1 x14_2 a0_0 l0_1 = some (r1, r2)) ∧ Aside0 (kq ≤ k) ∧ Aside0 (wc.heap[gb287]? = some (.cells #[.int .i64 a0_0, (.slice A0_1 l0_1.length c0_1)] 50 (0, 0))) ∧ Aside0 (Below w.heap.size w wc))
 case first =>
  have H := HC3.out
  clear HC3
  replace H := Option.bind_eq_some_iff.mp H
  obtain ⟨t288, A50, H⟩ := H
  replace H : (if t288 = true then ((dragnetref16_named.f a1).bind fun t289 => (dragnetref16_Read.j0 k a1 (!t289) a0_0 l0_1)) else (dragnetref16_Read.j0 k a1 true a0_0 l0_1)) = some (r1, r2) := H
  have A5 := Aside0.mk A50
  clear A50
  by_cases c6 : t288 = true
  ·subst c6
   have H1 : ((dragnetref16_named.f a1).bind fun t289 => (dragnetref16_Read.j0 k a1 (!t289) a0_0 l0_1)) = some (r1, r2) := by rw [if_pos rfl] at H; exact H
   clear H
   have H := H1
   clear H1
   replace H := Option.bind_eq_some_iff.mp H
   obtain ⟨t289, A70, H⟩ := H
   replace H : (dragnetref16_Read.j0 k a1 (!t289) a0_0 l0_1) = some (r1, r2) := H
   have A7 := Aside0.mk A70
   clear A70
   have H' := Aside0.mk H
   clear H
   have hcz8_0 : w4.cell? ⟨gb287, 0, none⟩ = some (.int .i64 a0_0) := (blk_cell BK287.out 0).trans rfl
   have hcz8_1 : w4.cell? ⟨gb287, 1, none⟩ = some (.slice A0_1 l0_1.length c0_1) := (blk_cell BK287.out 1).trans rfl
   have hfz8_0 := blk_frozen BK287.out 0
   have hfz8_1 := blk_frozen BK287.out 1
   go_wp2_with (first | ((with_reducible refine gate_callee (f := 46) rfl ?_); refine goesL_ (some 8) rfl rfl Tryd.func46 (by kernel_rfl) rfl #[.agg #[.int .i64 a0_0, .slice A0_1 l0_1.length c0_1]] rfl (by (try simp only [List.map_toArray, List.map_cons, List.map_nil]); first | done | rfl | (simp only [List.length_drop, List.length_take]; rfl)) ?_; (with_reducible refine (dragnetref16_Formed.calls a0_0 _ _ l0_1 true _ ?side1 ?side2 A5.out).mono ?_); (case side1 => repeat (first | exact (Kd.C_below HR0_1.out HB.out) | (with_reducible refine Kd.C_alloc ?_ _) | (with_reducible refine Kd.C_drewN ?_ _) | (with_reducible refine Kd.C_drew ?_))); (case side2 => exact HC0_1.out); rintro e w9 ⟨rfl, hb⟩; refine ⟨_, rfl, ?_⟩; have n0_ := Aside0.mk (blk_below (g := gb287) (o := .cells #[.int .i64 a0_0, .slice A0_1 l0_1.length c0_1] 50 (0, 0)) (by (with_reducible repeat (first | refine blk_drewN ?_ _ | refine blk_drew ?_ | refine blk_alloc ?_ _)); exact BK287.out) hb); have n1_ := Aside0.mk (below_step (by repeat (first | (with_reducible first | exact HB.out | apply below_alloc | apply pw_below_drewN | apply below_drew1 | refine below_set ?_ GE287.out) | exact HB.out)) hb); clear BK287; clear HB; have BK287 := n0_; have HB := n1_; clear n0_ n1_; (try clear hb); (try clear hb2); (try clear hk); (try clear hi)) | (go_at_call 70; (with_reducible refine (dragnetref16_named.calls a1 t289 _ A7.out).mono ?_); rintro e w' ⟨rfl, ⟨nd, rfl⟩⟩))
   go_meet
   case rel => exact ⟨_, (!t289), (by first | rfl | (simp; done) | (simp [*]; done)), H', ⟨by first | omega | exact Nat.le_refl _⟩, ⟨by (with_reducible repeat (first | refine blk_drewN ?_ _ | refine blk_drew ?_ | refine blk_alloc ?_ _)); exact BK287.out⟩, ⟨by repeat (first | (with_reducible first | exact HB.out | apply below_alloc | apply pw_below_drewN | apply below_drew1 | refine below_set ?_ GE287.out) | exact HB.out)⟩⟩
  ·replace c6 := Bool.eq_false_iff.mpr c6
   subst c6
   have H1 : (dragnetref16_Read.j0 k a1 true a0_0 l0_1) = some (r1, r2) := by rw [if_neg (show ¬ (false = true) by decide)] at H; exact H
   clear H
   have H := H1
   clear H1
   have H' := Aside0.mk H
   clear H
   have hcz10_0 : w4.cell? ⟨gb287, 0, none⟩ = some (.int .i64 a0_0) := (blk_cell BK287.out 0).trans rfl
   have hcz10_1 : w4.cell? ⟨gb287, 1, none⟩ = some (.slice A0_1 l0_1.length c0_1) := (blk_cell BK287.out 1).trans rfl
   have hfz10_0 := blk_frozen BK287.out 0
   have hfz10_1 := blk_frozen BK287.out 1
   go_wp2_with (first | ((with_reducible refine gate_callee (f := 46) rfl ?_); refine goesL_ (some 8) rfl rfl Tryd.func46 (by kernel_rfl) rfl #[.agg #[.int .i64 a0_0, .slice A0_1 l0_1.length c0_1]] rfl (by (try simp only [List.map_toArray, List.map_cons, List.map_nil]); first | done | rfl | (simp only [List.length_drop, List.length_take]; rfl)) ?_; (with_reducible refine (dragnetref16_Formed.calls a0_0 _ _ l0_1 false _ ?side1 ?side2 A5.out).mono ?_); (case side1 => repeat (first | exact (Kd.C_below HR0_1.out HB.out) | (with_reducible refine Kd.C_alloc ?_ _) | (with_reducible refine Kd.C_drewN ?_ _) | (with_reducible refine Kd.C_drew ?_))); (case side2 => exact HC0_1.out); rintro e w11 ⟨rfl, hb⟩; refine ⟨_, rfl, ?_⟩; have n0_ := Aside0.mk (blk_below (g := gb287) (o := .cells #[.int .i64 a0_0, .slice A0_1 l0_1.length c0_1] 50 (0, 0)) (by (with_reducible repeat (first | refine blk_drewN ?_ _ | refine blk_drew ?_ | refine blk_alloc ?_ _)); exact BK287.out) hb); have n1_ := Aside0.mk (below_step (by repeat (first | (with_reducible first | exact HB.out | apply below_alloc | apply pw_below_drewN | apply below_drew1 | refine below_set ?_ GE287.out) | exact HB.out)) hb); clear BK287; clear HB; have BK287 := n0_; have HB := n1_; clear n0_ n1_; (try clear hb); (try clear hb2); (try clear hk); (try clear hi)))
   go_meet
   case rel => exact ⟨_, (true), (by first | rfl | (simp; done) | (simp [*]; done)), H', ⟨by first | omega | exact Nat.le_refl _⟩, ⟨by (with_reducible repeat (first | refine blk_drewN ?_ _ | refine blk_drew ?_ | refine blk_alloc ?_ _)); exact BK287.out⟩, ⟨by repeat (first | (with_reducible first | exact HB.out | apply below_alloc | apply pw_below_drewN | apply below_drew1 | refine below_set ?_ GE287.out) | exact HB.out)⟩⟩
 case rest =>
  clear HC3
  try clear p2
  try clear c4
  try clear c6
  try clear hcz10_0
  try clear hcz10_1
  try clear hcz8_0
  try clear hcz8_1
  try clear hfz10_0
  try clear hfz10_1
  try clear hfz8_0
  try clear hfz8_1
  obtain ⟨kq, x14_2, rfl, HA, HJ2, BK287, HB⟩ := hcut
  cases kq with
  | zero => exact absurd HA.out (by simp [dragnetref16_Read.j0])
  | succ kj2 =>
   have H := HA.out
   clear HA
   simp only [dragnetref16_Read.j0] at H
   by_cases c12 : x14_2 = true
   ·subst c12
    have H1 : (some (([] : List Int), 1)) = some (r1, r2) := by rw [if_pos rfl] at H; exact H
    clear H
    have H := H1
    clear H1
    simp only [Option.some.injEq, Prod.mk.injEq] at H
    obtain ⟨rfl, rfl⟩ := H
    go_wp2
    go_ret2
    exact ⟨_, by first | rfl | (simp [errW_none, errW_some] <;> rfl) | (simp [*, errW_none, errW_some] <;> rfl), by first | exact Kd.R_nil _ _ _ _ _ | exact Kd.N_nil _ _ _ _ _ | exact Kd.V_nil _ _ _ _ _ | exact Kd.Q_nil _ _ _ _ _ | exact Kd.S_nil _ _ _ _ _, by repeat (first | (with_reducible first | exact HB.out | apply below_alloc | apply pw_below_drewN | apply below_drew1 | refine below_set ?_ GE287.out) | exact HB.out)⟩
   ·replace c12 := Bool.eq_false_iff.mpr c12
    subst c12
    have H1 : ((dragnetref16_place.f kj2 a0_0 l0_1 a1).bind fun t290 => (if t290 < 0 then (some (([] : List Int), 8)) else (if 0 ≤ t290 then (if t290 < (l0_1.length : Int) then ((dragnetref01_Copy.f ((rd_T84 l0_1 t290).f1)).bind fun t292 => (some (t292, 0))) else (none)) else (none)))) = some (r1, r2) := by rw [if_neg (show ¬ (false = true) by decide)] at H; exact H
    clear H
    have H := H1
    clear H1
    replace H := Option.bind_eq_some_iff.mp H
    obtain ⟨t290, A130, H⟩ := H
    replace H : (if t290 < 0 then (some (([] : List Int), 8)) else (if 0 ≤ t290 then (if t290 < (l0_1.length : Int) then ((dragnetref01_Copy.f ((rd_T84 l0_1 t290).f1)).bind fun t292 => (some (t292, 0))) else (none)) else (none))) = some (r1, r2) := H
    have A13 := Aside0.mk A130
    clear A130
    by_cases c14 : t290 < 0
    ·rw [if_pos c14] at H
     have c14b0 : decide (t290 < 0) = true := decide_eq_true c14
     clear c14
     simp only [Option.some.injEq, Prod.mk.injEq] at H
     obtain ⟨rfl, rfl⟩ := H
     have hcz15_0 : wc.cell? ⟨gb287, 0, none⟩ = some (.int .i64 a0_0) := (blk_cell BK287.out 0).trans rfl
     have hcz15_1 : wc.cell? ⟨gb287, 1, none⟩ = some (.slice A0_1 l0_1.length c0_1) := (blk_cell BK287.out 1).trans rfl
     have hfz15_0 := blk_frozen BK287.out 0
     have hfz15_1 := blk_frozen BK287.out 1
     go_wp2_with (first | ((with_reducible refine gate_callee (f := 71) rfl ?_); refine goesL_ (some 17) rfl rfl Tryd.func71 (by kernel_rfl) rfl #[.agg #[.int .i64 a0_0, .slice A0_1 l0_1.length c0_1], .string a1] rfl (by (try simp only [List.map_toArray, List.map_cons, List.map_nil]); first | done | rfl | (simp only [List.length_drop, List.length_take]; rfl)) ?_; (with_reducible refine (dragnetref16_place.calls kj2 a0_0 _ _ l0_1 a1 t290 _ ?side1 ?side2 A13.out).mono ?_); (case side1 => repeat (first | exact (Kd.C_below HR0_1.out HB.out) | (with_reducible refine Kd.C_alloc ?_ _) | (with_reducible refine Kd.C_drewN ?_ _) | (with_reducible refine Kd.C_drew ?_))); (case side2 => exact HC0_1.out); rintro e w16 ⟨rfl, hb⟩; refine ⟨_, rfl, ?_⟩; have n0_ := Aside0.mk (blk_below (g := gb287) (o := .cells #[.int .i64 a0_0, .slice A0_1 l0_1.length c0_1] 50 (0, 0)) (by (with_reducible repeat (first | refine blk_drewN ?_ _ | refine blk_drew ?_ | refine blk_alloc ?_ _)); exact BK287.out) hb); have n1_ := Aside0.mk (below_step (by repeat (first | (with_reducible first | exact HB.out | apply below_alloc | apply pw_below_drewN | apply below_drew1 | refine below_set ?_ GE287.out) | exact HB.out)) hb); clear BK287; clear HB; have BK287 := n0_; have HB := n1_; clear n0_ n1_; (try clear hb); (try clear hb2); (try clear hk); (try clear hi)))
     go_ret2
     exact ⟨_, by first | rfl | (simp [errW_none, errW_some] <;> rfl) | (simp [*, errW_none, errW_some] <;> rfl), by first | exact Kd.R_nil _ _ _ _ _ | exact Kd.N_nil _ _ _ _ _ | exact Kd.V_nil _ _ _ _ _ | exact Kd.Q_nil _ _ _ _ _ | exact Kd.S_nil _ _ _ _ _, by repeat (first | (with_reducible first | exact HB.out | apply below_alloc | apply pw_below_drewN | apply below_drew1 | refine below_set ?_ GE287.out) | exact HB.out)⟩
    ·rw [if_neg c14] at H
     have c14b0 : decide (t290 < 0) = false := decide_eq_false c14
     clear c14
     by_cases c17 : 0 ≤ t290
     ·rw [if_pos c17] at H
      have c17b0 : decide (0 ≤ t290) = true := decide_eq_true c17
      clear c17
      by_cases c18 : t290 < (l0_1.length : Int)
      ·rw [if_pos c18] at H
       have c18b0 : decide (t290 < (l0_1.length : Int)) = true := decide_eq_true c18
       clear c18
       replace H := Option.bind_eq_some_iff.mp H
       obtain ⟨t292, A190, H⟩ := H
       replace H : (some (t292, 0)) = some (r1, r2) := H
       have A19 := Aside0.mk A190
       clear A190
       simp only [Option.some.injEq, Prod.mk.injEq] at H
       obtain ⟨rfl, rfl⟩ := H
       have hcz20_0 : wc.cell? ⟨gb287, 0, none⟩ = some (.int .i64 a0_0) := (blk_cell BK287.out 0).trans rfl
       have hcz20_1 : wc.cell? ⟨gb287, 1, none⟩ = some (.slice A0_1 l0_1.length c0_1) := (blk_cell BK287.out 1).trans rfl
       have hfz20_0 := blk_frozen BK287.out 0
       have hfz20_1 := blk_frozen BK287.out 1
       go_wp2_with (first | ((with_reducible refine gate_callee (f := 71) rfl ?_); refine goesL_ (some 17) rfl rfl Tryd.func71 (by kernel_rfl) rfl #[.agg #[.int .i64 a0_0, .slice A0_1 l0_1.length c0_1], .string a1] rfl (by (try simp only [List.map_toArray, List.map_cons, List.map_nil]); first | done | rfl | (simp only [List.length_drop, List.length_take]; rfl)) ?_; (with_reducible refine (dragnetref16_place.calls kj2 a0_0 _ _ l0_1 a1 t290 _ ?side1 ?side2 A13.out).mono ?_); (case side1 => repeat (first | exact (Kd.C_below HR0_1.out HB.out) | (with_reducible refine Kd.C_alloc ?_ _) | (with_reducible refine Kd.C_drewN ?_ _) | (with_reducible refine Kd.C_drew ?_))); (case side2 => exact HC0_1.out); rintro e w21 ⟨rfl, hb⟩; refine ⟨_, rfl, ?_⟩; have n0_ := Aside0.mk (blk_below (g := gb287) (o := .cells #[.int .i64 a0_0, .slice A0_1 l0_1.length c0_1] 50 (0, 0)) (by (with_reducible repeat (first | refine blk_drewN ?_ _ | refine blk_drew ?_ | refine blk_alloc ?_ _)); exact BK287.out) hb); have n1_ := Aside0.mk (below_step (by repeat (first | (with_reducible first | exact HB.out | apply below_alloc | apply pw_below_drewN | apply below_drew1 | refine below_set ?_ GE287.out) | exact HB.out)) hb); clear BK287; clear HB; have BK287 := n0_; have HB := n1_; clear n0_ n1_; (try clear hb); (try clear hb2); (try clear hk); (try clear hi); have hcz22_0 : w21.cell? ⟨gb287, 0, none⟩ = some (.int .i64 a0_0) := (blk_cell BK287.out 0).trans rfl; have hcz22_1 : w21.cell? ⟨gb287, 1, none⟩ = some (.slice A0_1 l0_1.length c0_1) := (blk_cell BK287.out 1).trans rfl; have hfz22_0 := blk_frozen BK287.out 0; have hfz22_1 := blk_frozen BK287.out 1; have p291 : 0 ≤ (t290 : Int) := of_decide_eq_true (by first | (with_reducible assumption) | assumption); have q291 : t290 < (l0_1.length : Int) := of_decide_eq_true (by first | (with_reducible assumption) | assumption); obtain ⟨ad291, A291_1, c291_1, e291, hx291_0, hx291_1, hx291_2, hl291_1, hi291_1⟩ := at_T84 HR0_1.out t290 p291 q291; cases e291; replace hx291_0 := (HB.out.cell (World.block_lt_of_cell? w _ hx291_0)).trans hx291_0; replace hx291_1 := (HB.out.cell (World.block_lt_of_cell? w _ hx291_1)).trans hx291_1; replace hx291_2 := (HB.out.cell (World.block_lt_of_cell? w _ hx291_2)).trans hx291_2; have HR291_1 := Aside0.mk hi291_1; have HC291_1 := Aside0.mk hl291_1; clear hi291_1 hl291_1; replace p291 := eq_true p291; replace q291 := eq_true q291) | ((with_reducible refine gate_callee (f := 10) rfl ?_); refine goesL_ (some 26) rfl rfl Tryd.func10 (by kernel_rfl) rfl #[.slice A291_1 ((rd_T84 l0_1 t290).f1).length c291_1] rfl (by (try simp only [List.map_toArray, List.map_cons, List.map_nil]); first | done | rfl | (simp only [List.length_drop, List.length_take]; rfl)) ?_; (with_reducible refine (dragnetref01_Copy.calls _ _ ((rd_T84 l0_1 t290).f1) t292 _ ?side1 ?side2 A19.out).mono ?_); (case side1 => repeat (first | exact (Kd.C_below HR291_1.out HB.out) | (with_reducible refine Kd.C_alloc ?_ _) | (with_reducible refine Kd.C_drewN ?_ _) | (with_reducible refine Kd.C_drew ?_))); (case side2 => exact HC291_1.out); rintro e w23 ⟨v293, rfl, ho0, hb⟩; refine ⟨_, rfl, ?_⟩; have n0_ := Aside0.mk (Kd.R_lower ho0 (below_size (by repeat (first | (with_reducible first | exact HB.out | apply below_alloc | apply pw_below_drewN | apply below_drew1 | refine below_set ?_ GE287.out) | exact HB.out)))); have n1_ := Aside0.mk (blk_below (g := gb287) (o := .cells #[.int .i64 a0_0, .slice (some ad291) l0_1.length c0_1] 50 (0, 0)) (by (with_reducible repeat (first | refine blk_drewN ?_ _ | refine blk_drew ?_ | refine blk_alloc ?_ _)); exact BK287.out) hb); have n2_ := Aside0.mk (below_step (by repeat (first | (with_reducible first | exact HB.out | apply below_alloc | apply pw_below_drewN | apply below_drew1 | refine below_set ?_ GE287.out) | exact HB.out)) hb); clear BK287; clear HB; have HO294 := n0_; have BK287 := n1_; have HB := n2_; clear n0_ n1_ n2_; (try clear hb); (try clear hb2); (try clear hk); (try clear hi); (try clear ho0)))
       go_ret2
       exact ⟨_, by first | rfl | (simp [errW_none, errW_some] <;> rfl) | (simp [*, errW_none, errW_some] <;> rfl), by (with_reducible repeat (first | apply Kd.R_alloc | apply Kd.R_drewN | apply Kd.R_drew)); exact HO294.out, by repeat (first | (with_reducible first | exact HB.out | apply below_alloc | apply pw_below_drewN | apply below_drew1 | refine below_set ?_ GE287.out) | exact HB.out)⟩
      ·rw [if_neg c18] at H
       exact absurd H (by simp)
     ·rw [if_neg c17] at H
      exact absurd H (by simp)
end Go.Proofs.YtdcifmonhaklcaaDoor.R
