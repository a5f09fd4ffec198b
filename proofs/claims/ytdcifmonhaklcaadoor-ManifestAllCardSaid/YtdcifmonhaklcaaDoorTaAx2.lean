/- Walks: each Go function told here comes to what the plain function beside it says, wherever that one answers. -/
import Derived.Test.YtdcifmonhaklcaaDoorTaAx0
namespace Go.Proofs.YtdcifmonhaklcaaDoor.A
open Go.RowKit YtdcifmonhaklcaaDoorW.PrintWords YtdcifmonhaklcaaDoorW.PrintLast YtdcifmonhaklcaaDoorW.PrintMore
attribute [local go_sem] max2_int min2_int max_two min_two
set_option linter.unusedVariables false
set_option linter.unusedSimpArgs false
def crc_lay.f (l0 : List Int) (a1 : Int) : Option (List Int) := (some (([(a1) % 256, (a1 / 256) % 256, (a1 / 65536) % 256, (a1 / 16777216) % 256] : List Int) : List Int)).bind fun y101 => (if l0.length + y101.length < 140737488355328 then (some (l0 ++ y101)) else (none))
set_option maxHeartbeats 8000000 in
set_option maxRecDepth 100000 in
theorem crc_lay.calls (P0_ : Nat → Prop) (u9000_ : Value) (l0 : List Int) (a1 : Int) (r : List Int) (w0 w : World) (hB : Below w0.heap.size w0 w) (ho0 : Kd.R (Kd.int .u8) 5 w w0.heap.size P0_ u9000_ l0) (h : crc_lay.f l0 a1 = some r) :
  Calls Tryd.prog 64 #[u9000_, .int .u32 a1] w fun e w' => ∃ v0_ : Value, e = .returned (v0_) ∧ Kd.R (Kd.int .u8) 5 w' w0.heap.size (fun k_ => (P0_ k_ ∨ w.heap.size ≤ k_)) v0_ r ∧ Below w0.heap.size w0 w' ∧ Kept w w' (fun k_ => P0_ k_) := by
 have HO0 := Aside0.mk (show Kd.R (Kd.int .u8) 5 w w0.heap.size (fun k_ => (P0_ k_ ∨ w.heap.size ≤ k_)) u9000_ l0 from Kd.R_mono ho0 (fun k_ hk => (.inl hk)))
 have HK := Aside0.mk (Kept.refl w (fun k_ => P0_ k_))
 have HW0 := Aside0.mk hB.size
 have HB := Aside0.mk hB
 clear hB
 have H : ((some (([(a1) % 256, (a1 / 256) % 256, (a1 / 65536) % 256, (a1 / 16777216) % 256] : List Int) : List Int)).bind fun y101 => (if l0.length + y101.length < 140737488355328 then (some (l0 ++ y101)) else (none))) = some r := h
 clear h
 obtain ⟨y101, hy101⟩ : ∃ y_ : List Int, y_ = (([(a1) % 256, (a1 / 256) % 256, (a1 / 65536) % 256, (a1 / 16777216) % 256] : List Int)) := ⟨_, rfl⟩
 replace H : (if l0.length + y101.length < 140737488355328 then (some (l0 ++ y101)) else (none)) = some r := by first | (rw [hy101]; with_reducible exact H) | (have H2_ := (Option.bind_some _ _).symm.trans H; rw [hy101]; with_reducible exact H2_) | (have H2_ := (Option.bind_some _ _).symm.trans H; with_reducible exact H2_) | with_reducible exact H | (rw [hy101]; exact H) | exact H
 have Ny101 := Aside0.mk hy101
 clear hy101
 by_cases c3 : l0.length + y101.length < 140737488355328
 ·rw [if_pos c3] at H
  have LMc3 := Aside0.mk c3
  clear c3
  obtain ⟨y104, hy104⟩ : ∃ y_ : List Int, y_ = (l0 ++ y101) := ⟨_, rfl⟩
  replace H : (some y104) = some r := by first | (rw [hy104]; with_reducible exact H) | (have H2_ := (Option.bind_some _ _).symm.trans H; rw [hy104]; with_reducible exact H2_) | (have H2_ := (Option.bind_some _ _).symm.trans H; with_reducible exact H2_) | with_reducible exact H | (rw [hy104]; exact H) | exact H
  have Ny104 := Aside0.mk hy104
  clear hy104
  obtain rfl := Option.some.inj H
  go_enter Tryd.func64, Tryd.ntmps64
  go_wp2_with (first | ((with_reducible refine gate_dst (N := 17) rfl ?_); refine Kd.R_lit (Kd.int .u8) _ 5 ?hg (N := 17) ?hd (xs := ([(a1) % 256, (a1 / 256) % 256, (a1 / 65536) % 256, (a1 / 16777216) % 256] : List Int)) (inner := [.int .u8 ((a1) % 256), .int .u8 ((a1 / 256) % 256), .int .u8 ((a1 / 65536) % 256), .int .u8 ((a1 / 16777216) % 256)]) (ok := fun _ => True) (okp := fun _ => True) ?hr ?hp (fun _ hk => hk) trivial (Below.refl _ _) (Nat.le_refl _) (by simp) ?_; (case hd => rfl); (case hg => rfl); (case hr => first | (go_simp; done) | (go_simp; rfl)); (case hp => exact (Reps.one (show Kd.M (Kd.int .u8) _ _ _ ((a1) % 256) [.int .u8 ((a1) % 256)] from rfl) (Reps.one (show Kd.M (Kd.int .u8) _ _ _ ((a1 / 256) % 256) [.int .u8 ((a1 / 256) % 256)] from rfl) (Reps.one (show Kd.M (Kd.int .u8) _ _ _ ((a1 / 65536) % 256) [.int .u8 ((a1 / 65536) % 256)] from rfl) (Reps.one (show Kd.M (Kd.int .u8) _ _ _ ((a1 / 16777216) % 256) [.int .u8 ((a1 / 16777216) % 256)] from rfl) (Reps.none _ _)))))); intro v102 w4 ho5 hb hg_ hnew_; clear hg_ hnew_; (first | rw [← Ny101.out] at ho5 | (simp only [Int.reduceToNat] at ho5; rw [← Ny101.out] at ho5)); have n0_ := Aside0.mk (Kd.R_elder' (by (with_reducible repeat (first | apply Kd.R_alloc | apply Kd.R_drewN | apply Kd.R_drew)); exact HO0.out) (Kd.R_base ho5) hb); have n1_ := Aside0.mk (Kd.R_lower (Kd.R_new' (Kd.R_newM (M := fun k_ => (P0_ k_ ∨ w.heap.size ≤ k_)) ho5 (by first | exact HK.out.1 | exact (show Kept w _ (fun k_ => P0_ k_) from by repeat (first | (with_reducible first | exact HK.out | apply Kept.alloc | apply Kept.drewN | apply Kept.drew) | exact HK.out)).1) (fun k_ h_ => .inr h_)) (Kd.R_lt (by (with_reducible repeat (first | apply Kd.R_alloc | apply Kd.R_drewN | apply Kd.R_drew)); exact HO0.out))) (below_size (by repeat (first | (with_reducible first | exact HB.out | apply below_alloc | apply pw_below_drewN | apply below_drew1) | exact HB.out)))); have n2_ := Aside0.mk (Kept.below (S := (fun k_ => P0_ k_)) (by repeat (first | (with_reducible first | exact HK.out | apply Kept.alloc | apply Kept.drewN | apply Kept.drew) | exact HK.out)) hb); have n3_ := Aside0.mk (below_step (by repeat (first | (with_reducible first | exact HB.out | apply below_alloc | apply pw_below_drewN | apply below_drew1) | exact HB.out)) hb); clear HO0; clear HK; clear HB; have HO0 := n0_; have HO103 := n1_; have HK := n2_; have HB := n3_; clear n0_ n1_ n2_ n3_; clear hb ho5; obtain ⟨Ao7, co7, eo7⟩ := Kd.R_slice HO103.out; subst eo7) | ((with_reducible refine gate_builtin (b := .append) (xs := #[.tmp 5, .tmp 17]) rfl ?_); at_builtin; refine Kd.R_append_rows (Kd.int .u8) (w0 := w0) w0.heap.size rfl (.tmp 5) (.tmp 17) 22 5 (.int .u8 0) 1 rfl Tryd.underlying22 info5 rfl (by decide) (by omega) u9000_ l0 y101 _ _ _ (fun k_ => (P0_ k_ ∨ w.heap.size ≤ k_) ∧ some k_ ≠ (.slice Ao7 y101.length co7 : Value).ownBlock) (fun _ => False) rfl rfl ?aO ?aR (fun _ _ h => h) (fun _ h => h.elim) ?aF ?aB ?aS ?aL ?_; (case aR => repeat (first | exact (Kd.R_reads' HO103.out).2.2 | (with_reducible refine Kd.C_alloc ?_ _) | (with_reducible refine Kd.C_drewN ?_ _) | (with_reducible refine Kd.C_drew ?_))); (case aB => exact (by repeat (first | (with_reducible first | exact HB.out | apply below_alloc | apply pw_below_drewN | apply below_drew1) | exact HB.out))); (case aF => exact (fun k_ hk => ⟨(.inr (Nat.le_trans (by first | exact HK.out.1 | exact (show Kept w _ (fun k_ => P0_ k_) from by repeat (first | (with_reducible first | exact HK.out | apply Kept.alloc | apply Kept.drewN | apply Kept.drew) | exact HK.out)).1) hk)), Kd.fresh' (Kd.R_lt (by (with_reducible repeat (first | apply Kd.R_alloc | apply Kd.R_drewN | apply Kd.R_drew)); exact HO103.out)) k_ hk⟩)); (case aO => exact (by (with_reducible repeat (first | apply Kd.R_alloc | apply Kd.R_drewN | apply Kd.R_drew)); exact HO0.out)); (case aS => exact (below_size (by repeat (first | (with_reducible first | exact HB.out | apply below_alloc | apply pw_below_drewN | apply below_drew1) | exact HB.out)))); (case aL => have := LMc3.out; omega); intro v105 w6 ho hb hg hat; rw [← Ny104.out] at ho; have n0_ := Aside0.mk (Kd.R_after (ok := (fun k_ => (P0_ k_ ∨ w.heap.size ≤ k_))) (by (with_reducible repeat (first | apply Kd.R_alloc | apply Kd.R_drewN | apply Kd.R_drew)); exact Kd.R_mono HO103.out (fun _ hk => ⟨hk.1.1, hk.2⟩)) hg hat); have n1_ := Aside0.mk (hb); have n2_ := Aside0.mk (Kept.of_grown (S := (fun k_ => P0_ k_)) hg (by repeat (first | (with_reducible first | exact HK.out | apply Kept.alloc | apply Kept.drewN | apply Kept.drew) | exact HK.out)) (fun k_ e_ => (HO0.out.1 k_ e_).1)); have n3_ := Aside0.mk (ho); clear HO103; clear HB; clear HK; clear HO0; have HO103 := n0_; have HB := n1_; have HK := n2_; have HO106 := n3_; clear n0_ n1_ n2_ n3_; clear ho hb hg hat))
  go_ret
  exact ⟨_, by first | rfl | (simp [errW_none, errW_some] <;> rfl) | (simp [*, errW_none, errW_some] <;> rfl), by (with_reducible repeat (first | apply Kd.R_alloc | apply Kd.R_drewN | apply Kd.R_drew)); exact Kd.R_mono HO106.out (fun _ hk => hk.1), by repeat (first | (with_reducible first | exact HB.out | apply below_alloc | apply pw_below_drewN | apply below_drew1) | exact HB.out), by repeat (first | (with_reducible first | exact HK.out | apply Kept.alloc | apply Kept.drewN | apply Kept.drew) | exact HK.out)⟩
 ·rw [if_neg c3] at H
  exact absurd H (by simp)
def crcHalf (c : Int) : Int := Go.bits .xor .u32 (c / 16) (rd halvesL (Go.bits .and .u32 c 15))
def crcStep (c x : Int) : Int := crcHalf (crcHalf (Go.bits .xor .u32 c (x % 4294967296)))
def crcNot (c : Int) : Int := Go.bits .xor .u32 IntKind.u32.max c
def crcMore (c : Int) (l : List Int) : Int := crcNot (l.foldl crcStep (crcNot c))
theorem and15 (c : Int) : 0 ≤ Go.bits .and .u32 c 15 ∧ Go.bits .and .u32 c 15 ≤ 15 := by
 have h : Go.bits .and .u32 c 15 = (((BitVec.ofInt 32 c &&& 15#32).toNat : Nat) : Int) := by
  have hx : (BitVec.ofInt 32 c &&& 15#32).toNat < 4294967296 := (BitVec.ofInt 32 c &&& 15#32).isLt
  show IntKind.u32.wrap ((BitVec.ofInt 32 c &&& BitVec.ofInt 32 15).toNat : Int) = _
  rw [show BitVec.ofInt 32 15 = 15#32 from by decide, IntKind.wrap_u32']
  generalize (BitVec.ofInt 32 c &&& 15#32).toNat = z at hx
  omega
 rw [h]
 have e : (BitVec.ofInt 32 c &&& 15#32).toNat = (BitVec.ofInt 32 c).toNat % 16 := by
  rw [BitVec.toNat_and]
  exact Nat.and_two_pow_sub_one_eq_mod _ 4
 rw [e]
 omega
theorem crcStep_snoc (c : Int) (l : List Int) (k : Nat) (h : k < l.length) : (l.take (k + 1)).foldl crcStep c = crcStep ((l.take k).foldl crcStep c) (rd l k) := by
 have e : l.take (k + 1) = l.take k ++ [rd l k] := by
  rw [List.take_succ_eq_append_getElem h]
  simp [rd, h]
 rw [e, List.foldl_append]
 rfl
def crc_More.f (a0 : Int) (l1 : List Int) : Option Int := some (crcMore a0 l1)
set_option maxHeartbeats 800000 in
set_option maxRecDepth 100000 in
theorem crc_More.calls (a0 : Int) (A1 : Option Addr) (c1 : Nat) (l1 : List Int) (r : Int) (w : World) (hr1 : Kd.C (Kd.int .u8) w A1 l1.length l1) (hc1 : l1.length ≤ c1) (hG : GT w) (h : crc_More.f a0 l1 = some r) :
  Calls Tryd.prog 81 #[.int .u32 a0, .slice A1 l1.length c1] w fun e w' => e = .returned (.int .u32 r) ∧ Drawn0 w w' := by
 obtain rfl := Option.some.inj h
 clear h
 have HG := Aside0.mk hG
 have HR := Aside0.mk hr1
 clear hG hr1
 have hlen := Kd.C_max HR.out
 go_enter Tryd.func81, Tryd.ntmps81
 go_wp2
 go_loop [0, 6, 11] (fun c x i => ∃ k : Nat, k ≤ l1.length ∧ i = .int .i64 k ∧ c = .int .u32 ((l1.take k).foldl crcStep (crcNot a0))) (fun _ _ i => l1.length - (intOf i).toNat)
 case atStart => exact ⟨0, Nat.zero_le _, rfl, rfl⟩
 case round =>
  obtain ⟨k, hk, rfl, rfl⟩ := hrel
  by_cases hlt : k < l1.length
  ·have hs := Aside0.mk (crcStep_snoc (crcNot a0) l1 k hlt)
   obtain ⟨ad, rfl, hx⟩ := Kd.at_int HR.out k (by omega) (by omega)
   rw [Int.toNat_natCast] at hx
   generalize (l1.take k).foldl crcStep (crcNot a0) = cc at *
   have b1 := and15 (Go.bits .xor .u32 cc (rd l1 k % 4294967296))
   have b2 := and15 (crcHalf (Go.bits .xor .u32 cc (rd l1 k % 4294967296)))
   have g1 := HG.out.1 _ b1.1 (by omega)
   have g2 := HG.out.1 _ b2.1 (by omega)
   unfold crcHalf at b2 g2
   obtain ⟨b1, b1'⟩ := b1
   obtain ⟨b2, b2'⟩ := b2
   go_wp2
   go_round
   case rel => exact ⟨k + 1, by omega, by go_num, by rw [hs.out]; rfl⟩
   case measure => simp [intOf]; omega
  ·go_wp2
   go_ret
   obtain rfl : k = l1.length := by omega
   exact ⟨by rw [crcMore, List.take_length]; rfl, Drawn0.refl _⟩
def crc_Sum.f (l0 : List Int) : Option (Int) := (crc_More.f 0 l0).bind fun t107 => (some t107)
set_option maxHeartbeats 8000000 in
set_option maxRecDepth 100000 in
theorem crc_Sum.calls (A0 : Option Addr) (c0 : Nat) (l0 : List Int) (r : Int) (w : World) (hr0 : Kd.C (Kd.int .u8) w A0 l0.length l0) (hc0 : l0.length ≤ c0) (hG : GT w) (h : crc_Sum.f l0 = some r) :
  Calls Tryd.prog 65 #[.slice A0 l0.length c0] w fun e w' => e = .returned (.int .u32 r) ∧ Drawn0 w w' := by
 have HR0 := Aside0.mk hr0
 have HC0 := Aside0.mk hc0
 clear hr0 hc0
 have HG := Aside0.mk hG
 clear hG
 have H : ((crc_More.f 0 l0).bind fun t107 => (some t107)) = some r := h
 clear h
 replace H := Option.bind_eq_some_iff.mp H
 obtain ⟨t107, A20, H⟩ := H
 replace H : (some t107) = some r := H
 have A2 := Aside0.mk A20
 clear A20
 obtain rfl := Option.some.inj H
 go_enter Tryd.func65, Tryd.ntmps65
 go_wp2_with (first | ((with_reducible refine gate_callee (f := 81) rfl ?_); refine goesL_ (some 4) rfl rfl Tryd.func81 (by kernel_rfl) rfl #[.int .u32 0, .slice A0 l0.length c0] rfl (by (try simp only [List.map_toArray, List.map_cons, List.map_nil]); first | done | rfl | (simp only [List.length_drop, List.length_take]; rfl)) ?_; (with_reducible refine (crc_More.calls 0 _ _ l0 t107 _ ?side1 ?side2 ?side3 A2.out).mono ?_); (case side1 => repeat (first | exact HR0.out | (with_reducible refine Kd.C_alloc ?_ _) | (with_reducible refine Kd.C_drewN ?_ _) | (with_reducible refine Kd.C_drew ?_))); (case side2 => exact HC0.out); (case side3 => repeat (first | exact HG.out | apply GT.drewN | apply GT.drew)); rintro e w' ⟨rfl, ⟨nd, rfl⟩⟩; refine ⟨_, rfl, ?_⟩))
 go_ret
 exact ⟨by first | rfl | (simp; done) | (simp [*]; done), by repeat (first | exact Drawn0.refl _ | apply Drawn0.step)⟩
def crc_Wrap.f (l0 : List Int) : Option (List Int × Int) := if (l0.length : Int) > 16777216 then (some (([] : List Int), 5)) else (if 0 ≤ (wrap64 ((wrap64 (4 + (l0.length : Int))) + 4)) then (if (wrap64 ((wrap64 (4 + (l0.length : Int))) + 4) : Int).toNat ≤ 281474976710656 then ((crc_lay.f (([] : List Int)) (((l0.length : Int)) % 4294967296)).bind fun t111 => (if t111.length + l0.length < 140737488355328 then ((some (t111 ++ l0 : List Int)).bind fun y114 => ((crc_Sum.f y114).bind fun t117 => ((crc_lay.f y114 t117).bind fun t118 => (some (t118, 0))))) else (none))) else (none)) else (none))
set_option maxHeartbeats 8000000 in
set_option maxRecDepth 100000 in
theorem crc_Wrap.calls (A0 : Option Addr) (c0 : Nat) (l0 : List Int) (r1 : List Int) (r2 : Int) (w : World) (hr0 : Kd.C (Kd.int .u8) w A0 l0.length l0) (hc0 : l0.length ≤ c0) (hG : GT w) (h : crc_Wrap.f l0 = some (r1, r2)) :
  Calls Tryd.prog 39 #[.slice A0 l0.length c0] w fun e w' => ∃ v0_ : Value, e = .returned (.tuple #[v0_, .int .i64 r2]) ∧ Kd.R (Kd.int .u8) 5 w' w.heap.size (fun _ => True) v0_ r1 ∧ Below w.heap.size w w' := by
 have HR0 := Aside0.mk hr0
 have HC0 := Aside0.mk hc0
 clear hr0 hc0
 have HB := Aside0.mk (Below.refl w.heap.size w)
 have HG := Aside0.mk hG
 clear hG
 have H : (if (l0.length : Int) > 16777216 then (some (([] : List Int), 5)) else (if 0 ≤ (wrap64 ((wrap64 (4 + (l0.length : Int))) + 4)) then (if (wrap64 ((wrap64 (4 + (l0.length : Int))) + 4) : Int).toNat ≤ 281474976710656 then ((crc_lay.f (([] : List Int)) (((l0.length : Int)) % 4294967296)).bind fun t111 => (if t111.length + l0.length < 140737488355328 then ((some (t111 ++ l0 : List Int)).bind fun y114 => ((crc_Sum.f y114).bind fun t117 => ((crc_lay.f y114 t117).bind fun t118 => (some (t118, 0))))) else (none))) else (none)) else (none))) = some (r1, r2) := h
 clear h
 by_cases c2 : (l0.length : Int) > 16777216
 ·rw [if_pos c2] at H
  have c2b0 : decide (16777216 < (l0.length : Int)) = true := decide_eq_true c2
  have c2b1 : decide (16777216 < l0.length) = true := decide_eq_true (by omega)
  clear c2
  simp only [Option.some.injEq, Prod.mk.injEq] at H
  obtain ⟨rfl, rfl⟩ := H
  go_enter Tryd.func39, Tryd.ntmps39
  go_wp2
  go_ret2
  exact ⟨_, by first | rfl | (simp [errW_none, errW_some] <;> rfl) | (simp [*, errW_none, errW_some] <;> rfl), by first | exact Kd.R_nil _ _ _ _ _ | exact Kd.N_nil _ _ _ _ _ | exact Kd.V_nil _ _ _ _ _ | exact Kd.Q_nil _ _ _ _ _ | exact Kd.S_nil _ _ _ _ _, by repeat (first | (with_reducible first | exact HB.out | apply below_alloc | apply pw_below_drewN | apply below_drew1) | exact HB.out)⟩
 ·rw [if_neg c2] at H
  have c2b0 : decide (16777216 < (l0.length : Int)) = false := decide_eq_false c2
  have c2b1 : decide (16777216 < l0.length) = false := decide_eq_false (by omega)
  clear c2
  obtain ⟨ji3, hji3⟩ : ∃ j_ : Int, (wrap64 ((wrap64 (4 + (l0.length : Int))) + 4)) = j_ := ⟨_, rfl⟩
  replace H : (if 0 ≤ (ji3) then (if (ji3 : Int).toNat ≤ 281474976710656 then ((crc_lay.f (([] : List Int)) (((l0.length : Int)) % 4294967296)).bind fun t111 => (if t111.length + l0.length < 140737488355328 then ((some (t111 ++ l0 : List Int)).bind fun y114 => ((crc_Sum.f y114).bind fun t117 => ((crc_lay.f y114 t117).bind fun t118 => (some (t118, 0))))) else (none))) else (none)) else (none)) = some (r1, r2) := by first | (rw [hji3] at H; exact H) | (simp only [hji3] at H ⊢; exact H)
  have hji3w : (IntKind.i64.wrap ((wrap64 (4 + (l0.length : Int))) + 4)) = ji3 := (i64_w _).trans hji3
  by_cases c4 : 0 ≤ (ji3)
  ·rw [if_pos c4] at H
   have c4b0 := eq_true c4
   have c4b1 : decide (0 ≤ (ji3)) = true := decide_eq_true c4
   clear c4
   by_cases c5 : (ji3 : Int).toNat ≤ 281474976710656
   ·rw [if_pos c5] at H
    have c5b0 := eq_true c5
    have c5b1 : decide ((ji3 : Int).toNat ≤ 281474976710656) = true := decide_eq_true c5
    clear c5
    obtain ⟨y108, hy108⟩ : ∃ y_ : List Int, y_ = (([] : List Int)) := ⟨_, rfl⟩
    replace H : ((crc_lay.f y108 (((l0.length : Int)) % 4294967296)).bind fun t111 => (if t111.length + l0.length < 140737488355328 then ((some (t111 ++ l0 : List Int)).bind fun y114 => ((crc_Sum.f y114).bind fun t117 => ((crc_lay.f y114 t117).bind fun t118 => (some (t118, 0))))) else (none))) = some (r1, r2) := by first | (rw [hy108]; with_reducible exact H) | (have H2_ := (Option.bind_some _ _).symm.trans H; rw [hy108]; with_reducible exact H2_) | (have H2_ := (Option.bind_some _ _).symm.trans H; with_reducible exact H2_) | with_reducible exact H | (rw [hy108]; exact H) | exact H
    have Ny108 := Aside0.mk hy108
    clear hy108
    replace H := Option.bind_eq_some_iff.mp H
    obtain ⟨t111, A60, H⟩ := H
    replace H : (if t111.length + l0.length < 140737488355328 then ((some (t111 ++ l0 : List Int)).bind fun y114 => ((crc_Sum.f y114).bind fun t117 => ((crc_lay.f y114 t117).bind fun t118 => (some (t118, 0))))) else (none)) = some (r1, r2) := H
    have A6 := Aside0.mk A60
    clear A60
    by_cases c7 : t111.length + l0.length < 140737488355328
    ·rw [if_pos c7] at H
     have LMc7 := Aside0.mk c7
     clear c7
     obtain ⟨y114, hy114⟩ : ∃ y_ : List Int, y_ = (t111 ++ l0) := ⟨_, rfl⟩
     replace H : ((crc_Sum.f y114).bind fun t117 => ((crc_lay.f y114 t117).bind fun t118 => (some (t118, 0)))) = some (r1, r2) := by first | (rw [hy114]; with_reducible exact H) | (have H2_ := (Option.bind_some _ _).symm.trans H; rw [hy114]; with_reducible exact H2_) | (have H2_ := (Option.bind_some _ _).symm.trans H; with_reducible exact H2_) | with_reducible exact H | (rw [hy114]; exact H) | exact H
     have Ny114 := Aside0.mk hy114
     clear hy114
     replace H := Option.bind_eq_some_iff.mp H
     obtain ⟨t117, A80, H⟩ := H
     replace H : ((crc_lay.f y114 t117).bind fun t118 => (some (t118, 0))) = some (r1, r2) := H
     have A8 := Aside0.mk A80
     clear A80
     replace H := Option.bind_eq_some_iff.mp H
     obtain ⟨t118, A90, H⟩ := H
     replace H : (some (t118, 0)) = some (r1, r2) := H
     have A9 := Aside0.mk A90
     clear A90
     simp only [Option.some.injEq, Prod.mk.injEq] at H
     obtain ⟨rfl, rfl⟩ := H
     go_enter Tryd.func39, Tryd.ntmps39
     go_wp2_with (first | ((with_reducible refine gate_dst (N := 12) rfl ?_); refine Kd.R_make0 (Kd.int .u8) _ 5 rfl (N := 12) rfl 22 _ _ rfl _ rfl rfl Tryd.underlying22 (.int .u8 0) 1 info5 (by omega) (ok := fun _ => True) (okp := fun _ => True) (fun _ hk => hk) trivial ?mz ?mk (Below.refl _ _) (Nat.le_refl _) ?_; (case mz => first | exact of_decide_eq_true (by first | (with_reducible assumption) | assumption) | omega | (simp only [decide_eq_false_iff_not, decide_eq_true_eq] at *; omega)); (case mk => first | exact Nat.le_trans (Nat.mul_le_mul_right _ (of_decide_eq_true (by first | (with_reducible assumption) | assumption) : ji3.toNat ≤ 281474976710656)) (by omega) | omega | (simp only [decide_eq_false_iff_not, decide_eq_true_eq] at *; omega)); intro v109 w10 ho11 hb hg_ hnew_; clear hg_ hnew_; (first | rw [← Ny108.out] at ho11 | (simp only [Int.reduceToNat] at ho11; rw [← Ny108.out] at ho11)); have n0_ := Aside0.mk (Kd.R_lower ho11 (below_size (by repeat (first | (with_reducible first | exact HB.out | apply below_alloc | apply pw_below_drewN | apply below_drew1) | exact HB.out)))); have n1_ := Aside0.mk (below_step (by repeat (first | (with_reducible first | exact HB.out | apply below_alloc | apply pw_below_drewN | apply below_drew1) | exact HB.out)) hb); clear HB; have HO110 := n0_; have HB := n1_; clear n0_ n1_; clear hb ho11; obtain ⟨Ao12, co12, eo12⟩ := Kd.R_slice HO110.out; subst eo12) | ((with_reducible refine gate_callee (f := 64) rfl ?_); refine goesL_ (some 16) rfl rfl Tryd.func64 (by kernel_rfl) rfl #[.slice Ao12 y108.length co12, .int .u32 (((l0.length : Int)) % 4294967296)] rfl (by (try simp only [List.map_toArray, List.map_cons, List.map_nil]); first | done | rfl | (simp only [List.length_drop, List.length_take]; rfl)) ?_; (with_reducible refine (crc_lay.calls (fun k_ => some k_ = (.slice Ao12 y108.length co12 : Value).ownBlock) (.slice Ao12 y108.length co12) y108 (((l0.length : Int)) % 4294967296) t111 w _ ?side1 ?side2 A6.out).mono ?_); (case side1 => repeat (first | (with_reducible first | exact HB.out | apply below_alloc | apply pw_below_drewN | apply below_drew1) | exact HB.out)); (case side2 => exact Kd.R_tight rfl HO110.out); rintro e w13 ⟨v112, rfl, ho0, hb, hkp⟩; refine ⟨_, rfl, ?_⟩; have n0_ := Aside0.mk (Kd.R_mono (ok' := fun k_ => True) ho0 (fun k_ hk_ => trivial)); have n1_ := Aside0.mk (hb); clear HB; clear HO110; have HO113 := n0_; have HB := n1_; clear n0_ n1_; (try clear hb); (try clear hkp); (try clear ho0)) | ((with_reducible refine gate_builtin (b := .append) (xs := #[.tmp 16, .tmp 17]) rfl ?_); at_builtin; refine Kd.R_append_rows (Kd.int .u8) (w0 := w) w.heap.size rfl (.tmp 16) (.tmp 17) 22 5 (.int .u8 0) 1 rfl Tryd.underlying22 info5 rfl (by decide) (by omega) v112 t111 l0 _ _ _ (fun _ => True) (fun _ => False) rfl rfl ?aO ?aR (fun _ _ h => h) (fun _ h => h.elim) ?aF ?aB ?aS ?aL ?_; (case aR => repeat (first | exact (Kd.C_below HR0.out HB.out) | (with_reducible refine Kd.C_alloc ?_ _) | (with_reducible refine Kd.C_drewN ?_ _) | (with_reducible refine Kd.C_drew ?_))); (case aB => exact (by repeat (first | (with_reducible first | exact HB.out | apply below_alloc | apply pw_below_drewN | apply below_drew1) | exact HB.out))); (case aF => exact (fun _ _ => trivial)); (case aO => exact (by (with_reducible repeat (first | apply Kd.R_alloc | apply Kd.R_drewN | apply Kd.R_drew)); exact HO113.out)); (case aS => exact (below_size (by repeat (first | (with_reducible first | exact HB.out | apply below_alloc | apply pw_below_drewN | apply below_drew1) | exact HB.out)))); (case aL => have := LMc7.out; omega); intro v115 w14 ho hb hg hat; rw [← Ny114.out] at ho; have n0_ := Aside0.mk (hb); have n1_ := Aside0.mk (ho); clear HB; clear HO113; have HB := n0_; have HO116 := n1_; clear n0_ n1_; clear ho hb hg hat; obtain ⟨Ao15, co15, eo15⟩ := Kd.R_slice HO116.out; subst eo15) | ((with_reducible refine gate_callee (f := 65) rfl ?_); refine goesL_ (some 21) rfl rfl Tryd.func65 (by kernel_rfl) rfl #[.slice Ao15 y114.length co15] rfl (by (try simp only [List.map_toArray, List.map_cons, List.map_nil]); first | done | rfl | (simp only [List.length_drop, List.length_take]; rfl)) ?_; (with_reducible refine (crc_Sum.calls _ _ y114 t117 _ ?side1 ?side2 ?side3 A8.out).mono ?_); (case side1 => repeat (first | exact (Kd.R_reads' HO116.out).2.2 | (with_reducible refine Kd.C_alloc ?_ _) | (with_reducible refine Kd.C_drewN ?_ _) | (with_reducible refine Kd.C_drew ?_))); (case side2 => exact (Kd.R_reads' HO116.out).2.1); (case side3 => exact GT.below HG.out (by repeat (first | (with_reducible first | exact HB.out | apply below_alloc | apply pw_below_drewN | apply below_drew1) | exact HB.out))); rintro e w' ⟨rfl, ⟨nd, rfl⟩⟩; refine ⟨_, rfl, ?_⟩) | ((with_reducible refine gate_callee (f := 64) rfl ?_); refine goesL_ (some 22) rfl rfl Tryd.func64 (by kernel_rfl) rfl #[.slice Ao15 y114.length co15, .int .u32 t117] rfl (by (try simp only [List.map_toArray, List.map_cons, List.map_nil]); first | done | rfl | (simp only [List.length_drop, List.length_take]; rfl)) ?_; (with_reducible refine (crc_lay.calls (fun k_ => some k_ = (.slice Ao15 y114.length co15 : Value).ownBlock) (.slice Ao15 y114.length co15) y114 t117 t118 w _ ?side1 ?side2 A9.out).mono ?_); (case side1 => repeat (first | (with_reducible first | exact HB.out | apply below_alloc | apply pw_below_drewN | apply below_drew1) | exact HB.out)); (case side2 => exact Kd.R_tight rfl HO116.out); rintro e w16 ⟨v119, rfl, ho0, hb, hkp⟩; refine ⟨_, rfl, ?_⟩; have n0_ := Aside0.mk (Kd.R_mono (ok' := fun k_ => True) ho0 (fun k_ hk_ => trivial)); have n1_ := Aside0.mk (hb); clear HB; clear HO116; have HO120 := n0_; have HB := n1_; clear n0_ n1_; (try clear hb); (try clear hkp); (try clear ho0)))
     go_ret2
     exact ⟨_, by first | rfl | (simp [errW_none, errW_some] <;> rfl) | (simp only [← hji3]; first | rfl | (simp [errW_none, errW_some] <;> rfl)) | (simp [*, errW_none, errW_some] <;> rfl), by (with_reducible repeat (first | apply Kd.R_alloc | apply Kd.R_drewN | apply Kd.R_drew)); exact HO120.out, by repeat (first | (with_reducible first | exact HB.out | apply below_alloc | apply pw_below_drewN | apply below_drew1) | exact HB.out)⟩
    ·rw [if_neg c7] at H
     exact absurd H (by simp)
   ·rw [if_neg c5] at H
    exact absurd H (by simp)
  ·rw [if_neg c4] at H
   exact absurd H (by simp)
def slices_Clone_byte_byte.f (l0 : List Int) : Option (List Int) := if l0.length < 140737488355328 then some l0 else none
theorem C_none {α : Type} {d : Kd α} {w : World} {n : Nat} {xs : List α} (h : d.C w none n xs) : xs = [] := by
 obtain ⟨h1, h2, h3⟩ := h
 by_cases hn : 0 < n
 ·obtain ⟨ad, e, _⟩ := h3 hn
  cases e
 ·exact List.length_eq_zero_iff.1 (by omega)
set_option maxHeartbeats 800000 in
set_option maxRecDepth 100000 in
theorem slices_Clone_byte_byte.calls (A0 : Option Addr) (c0 : Nat) (l0 : List Int) (r : List Int) (w : World) (hr0 : Kd.C (Kd.int .u8) w A0 l0.length l0) (hc0 : l0.length ≤ c0) (h : slices_Clone_byte_byte.f l0 = some r) :
  Calls Tryd.prog 55 #[.slice A0 l0.length c0] w fun e w' => ∃ v0_ : Value, e = .returned (v0_) ∧ Kd.R (Kd.int .u8) 5 w' w.heap.size (fun _ => True) v0_ r ∧ Below w.heap.size w w' := by
 unfold slices_Clone_byte_byte.f at h
 have HR0 := Aside0.mk hr0
 clear hr0
 by_cases hl : l0.length < 140737488355328
 ·rw [if_pos hl] at h
  obtain rfl := Option.some.inj h
  clear h
  have LM := Aside0.mk hl
  clear hl
  have hnil := fun W => Lib.run_eql_slice_nil (P := Tryd.prog) W 22 5 A0 l0.length c0 0 0 Tryd.underlying22
  cases A0 with
  | none =>
   obtain rfl := C_none HR0.out
   simp only [Option.isNone_none, List.length_nil] at hnil
   simp only [List.length_nil]
   go_enter Tryd.func55, Tryd.ntmps55
   go_wp2
   go_ret
   exact ⟨_, rfl, Kd.R_nil _ _ _ _ _, Below.refl _ _⟩
  | some ad =>
   simp only [Option.isNone_some] at hnil
   have HB := Aside0.mk (Below.refl w.heap.size w)
   go_enter Tryd.func55, Tryd.ntmps55
   go_wp2_with (first | ((with_reducible refine gate_dst (N := 5) rfl ?_); refine Kd.R_lit (Kd.int .u8) _ 5 ?hg (N := 5) ?hd (xs := ([] : List Int)) (inner := []) (ok := fun _ => True) (okp := fun _ => True) ?hr ?hp (fun _ hk => hk) trivial (Below.refl _ _) (Nat.le_refl _) (by simp) ?_; (case hd => rfl); (case hg => rfl); (case hr => first | (go_simp; done) | (go_simp; rfl)); (case hp => exact (Reps.none _ _)); intro v108 w3 ho4 hb hg_ hnew_; clear hg_ hnew_; have HO109 := Aside0.mk ho4; have HB3 := Aside0.mk hb; clear ho4 hb) | ((with_reducible refine gate_builtin (b := .append) (xs := #[.tmp 5, .tmp 6]) rfl ?_); at_builtin; refine Kd.R_append_rows (Kd.int .u8) (w0 := w) w.heap.size rfl (.tmp 5) (.tmp 6) 22 5 (.int .u8 0) 1 rfl Tryd.underlying22 info5 rfl (by decide) (by omega) v108 [] l0 _ _ _ (fun _ => True) (fun _ => False) rfl rfl ?aO ?aR (fun _ _ h => h) (fun _ h => h.elim) ?aF ?aB ?aS ?aL ?_; (case aR => exact Kd.C_below HR0.out HB3.out); (case aB => exact HB3.out); (case aF => exact (fun _ _ => trivial)); (case aO => exact HO109.out); (case aS => exact HB3.out.size); (case aL => have := LM.out; simp; omega); intro v111 w5 ho hb hg hat; rw [List.nil_append] at ho; have HOA := Aside0.mk ho; have HBA := Aside0.mk hb; clear ho hb hg hat))
   go_ret
   exact ⟨_, rfl, HOA.out, HBA.out⟩
 ·rw [if_neg hl] at h
  cases h
def slices_Grow_byte_byte.f (l0 : List Int) (a1 : Int) : Option (List Int) := if 0 ≤ a1 ∧ (l0.length : Int) + a1 ≤ 140737488355328 then some l0 else none
theorem slices_Grow_byte_byte.calls (P0_ : Nat → Prop) (u9000_ : Value) (l0 : List Int) (a1 : Int) (r : List Int) (w0 w : World) (hB : Below w0.heap.size w0 w) (ho0 : Kd.R (Kd.int .u8) 5 w w0.heap.size P0_ u9000_ l0) (h : slices_Grow_byte_byte.f l0 a1 = some r) :
  Calls Tryd.prog 62 #[u9000_, .int .i64 a1] w fun e w' => ∃ v0_ : Value, e = .returned (v0_) ∧ Kd.R (Kd.int .u8) 5 w' w0.heap.size (fun k_ => (P0_ k_ ∨ w.heap.size ≤ k_)) v0_ r ∧ Below w0.heap.size w0 w' ∧ Kept w w' (fun k_ => P0_ k_) := by
 unfold slices_Grow_byte_byte.f at h
 by_cases hb : 0 ≤ a1 ∧ (l0.length : Int) + a1 ≤ 140737488355328
 case neg => rw [if_neg hb] at h; cases h
 rw [if_pos hb] at h
 obtain rfl := Option.some.inj h
 obtain ⟨h0, h1⟩ := hb
 obtain ⟨n, rfl⟩ := Int.eq_ofNat_of_zero_le h0
 obtain ⟨hl, hown⟩ := Kd.own_of_R (enc := Value.int .u8) (h1 := fun _ => rfl) ho0
 have hinfo : ∃ i0 : TypeInfo, Tryd.prog.info? 5 = some i0 ∧ i0.zero = some (.int .u8 0) ∧ i0.size = 1 ∧ i0.bytes = 1 := by
  obtain ⟨i0, hi, hz⟩ := Option.map_eq_some_iff.1 info5
  simp only [Prod.mk.injEq] at hz
  exact ⟨i0, hi, hz⟩
 obtain ⟨i0, hi, hz0, hz1, hz2⟩ := hinfo
 have grow : ∀ (base : Option Addr) (c : Nat) (cs : List Value), l0.length ≤ c → c < l0.length + n → cs.length = c → (base = none → c = 0) → (∀ a, base = some a → ∀ j v, cs[j]? = some v → w.cell? (a.add j) = some v) → cs.take l0.length = encs (Value.int .u8) l0 →
   Calls Tryd.prog 62 #[.slice base l0.length c, .int .i64 n] w fun e w' => ∃ v0_ : Value, e = .returned (v0_) ∧ Kd.R (Kd.int .u8) 5 w' w0.heap.size (fun k_ => (P0_ k_ ∨ w.heap.size ≤ k_)) v0_ l0 ∧ Below w0.heap.size w0 w' ∧ Kept w w' (fun k_ => P0_ k_) := by
  intro base c cs hlc hroom hcl hnil hcs htk
  have H : Calls Tryd.prog 62 #[.slice base l0.length c, .int .i64 n] w fun e w' => e = .returned (.slice (some ⟨w.heap.size, 0, none⟩) l0.length (grownCap w (l0.length + n) c 5)) ∧ w' = w.drew.alloc (.cells (cs.toArray ++ Builtin.zeroCells (Value.int .u8 0).cells (l0.length + n - c) ++ Builtin.zeroCells (Value.int .u8 0).cells (grownCap w (l0.length + n) c 5 - (l0.length + n))) 5) :=
   Any8.slices_Grow_grow Tryd.growU8 i0 (.int .u8 0) hi hz0 (by omega) base l0.length c n cs w hlc hroom (by rw [hz2]; omega) (by omega) (by rw [hz1]; omega) hnil hcs
  refine H.mono ?_
  rintro e w' ⟨rfl, rfl⟩
  have hbn : Below w.heap.size w (w.drew.alloc (.cells (cs.toArray ++ Builtin.zeroCells (Value.int .u8 0).cells (l0.length + n - c) ++ Builtin.zeroCells (Value.int .u8 0).cells (grownCap w (l0.length + n) c 5 - (l0.length + n))) 5 (0, 0))) := below_alloc (below_drew1 (Below.refl _ _)) _
  have hge := grownCap_ge w (l0.length + n) c 5
  have hle := grownCap_le_maxLen w (l0.length + n) c 5 (by unfold maxLen; omega)
  refine ⟨_, rfl, Kd.R_of_own (enc := Value.int .u8) (h1 := fun _ => rfl) ⟨hl, .inr ⟨w.heap.size, _, _, rfl, hB.size, blk_new w.drew _, by omega, hle, ?_, ?_⟩⟩ (fun k hk => .inr ?_), below_step hB hbn, Kept.of_below hbn _⟩
  ·simp only [Array.size_append, List.size_toArray, Builtin.zeroCells, Value.cells]
   simp
   omega
  ·rw [Nat.mul_one, Array.toList_append, Array.toList_append, List.append_assoc, List.take_append_of_le_length (by simp; omega)]
   exact htk
  ·simp [Value.ownBlock] at hk
   omega
 rcases hown with ⟨rfl, hn⟩ | ⟨g, c, cur, rfl, hg, hh, hlc, hcm, hcs, htk⟩
 ·have hz : l0.length = 0 := hn
  by_cases hn0 : n = 0
  ·subst hn0
   refine (Any8.slices_Grow_room Tryd.growU8 none 0 0 0 w (Nat.le_refl _) (by omega) (by omega) (by omega)).mono ?_
   rintro e w' ⟨rfl, rfl⟩
   exact ⟨_, rfl, Kd.R_mono ho0 (fun k hk => .inl hk), hB, Kept.refl _ _⟩
  ·have := grow none 0 [] (by omega) (by omega) rfl (fun _ => rfl) (fun a ha => by cases ha) (by rw [List.length_eq_zero_iff.1 hz]; rfl)
   rw [hz] at this
   exact this
 ·by_cases hr : l0.length + n ≤ c
  ·refine (Any8.slices_Grow_room Tryd.growU8 (some ⟨g, 0, none⟩) l0.length c n w hlc (by unfold maxLen at hcm; omega) (by omega) hr).mono ?_
   rintro e w' ⟨rfl, rfl⟩
   exact ⟨_, rfl, Kd.R_mono ho0 (fun k hk => .inl hk), hB, Kept.refl _ _⟩
  ·refine grow (some ⟨g, 0, none⟩) c cur.toList hlc (by omega) (by rw [Array.length_toList]; omega) (fun hx => by cases hx) (fun a ha j v hj => ?_) (by rw [Nat.mul_one] at htk; exact htk)
   obtain rfl := Option.some.inj ha
   have := blk_cell hh j
   rw [← Array.getElem?_toList, hj] at this
   rcases j with _ | j
   ·simpa [Addr.add] using this
   ·simpa [Addr.add] using this
def bits_Len64.f (a0 : Int) : Option Int := if 0 ≤ a0 ∧ a0 ≤ 18446744073709551615 then some (Lib.bitLen a0.toNat : Int) else none
theorem bits_Len64.calls (a0 : Int) (r : Int) (w : World) (h : bits_Len64.f a0 = some r) :
  Calls Tryd.prog 80 #[.int .u64 a0] w fun e w' => e = .returned (.int .i64 r) ∧ Drawn0 w w' := by
 unfold bits_Len64.f at h
 by_cases hb : 0 ≤ a0 ∧ a0 ≤ 18446744073709551615
 ·rw [if_pos hb] at h
  obtain rfl := Option.some.inj h
  refine (Tryd.bits_Len64 a0 w hb.1 hb.2).mono ?_
  rintro e w' ⟨rfl, rfl⟩
  exact ⟨rfl, Drawn0.refl _⟩
 ·rw [if_neg hb] at h
  cases h
def num_size.f (a0 : Int) : Option (Int) := (bits_Len64.f a0).bind fun t121 => (some (wrap64 (Int.tdiv (wrap64 (t121 + 7)) 8)))
set_option maxHeartbeats 8000000 in
set_option maxRecDepth 100000 in
theorem num_size.calls (a0 : Int) (r : Int) (w : World) (h : num_size.f a0 = some r) :
  Calls Tryd.prog 63 #[.int .u64 a0] w fun e w' => e = .returned (.int .i64 r) ∧ Drawn0 w w' := by
 have H : ((bits_Len64.f a0).bind fun t121 => (some (wrap64 (Int.tdiv (wrap64 (t121 + 7)) 8)))) = some r := h
 clear h
 replace H := Option.bind_eq_some_iff.mp H
 obtain ⟨t121, A20, H⟩ := H
 replace H : (some (wrap64 (Int.tdiv (wrap64 (t121 + 7)) 8))) = some r := H
 have A2 := Aside0.mk A20
 clear A20
 obtain rfl := Option.some.inj H
 go_enter Tryd.func63, Tryd.ntmps63
 go_wp2_with (first | ((with_reducible refine gate_callee (f := 80) rfl ?_); refine goesL_ (some 4) rfl rfl Tryd.func80 (by kernel_rfl) rfl #[.int .u64 a0] rfl (by (try simp only [List.map_toArray, List.map_cons, List.map_nil]); first | done | rfl | (simp only [List.length_drop, List.length_take]; rfl)) ?_; (with_reducible refine (bits_Len64.calls a0 t121 _ A2.out).mono ?_); rintro e w' ⟨rfl, ⟨nd, rfl⟩⟩; refine ⟨_, rfl, ?_⟩))
 go_ret
 exact ⟨by first | rfl | (simp; done) | (simp [*]; done), by repeat (first | exact Drawn0.refl _ | apply Drawn0.step)⟩
def num_Put.l0 : Nat → Int → List Int → Int → Int → Option (List Int)
 | 0, _, _, _, _ => none
 | k + 1, x1, x5, x25, x26 => if x26 < x25 then (if x5.length < 140737488355328 then (num_Put.l0 k (x1 / 256) (x5 ++ [(x1) % 256]) x25 (wrap64 (x26 + 1))) else (none)) else (some x5)
def num_Put.f (k : Nat) (l0 : List Int) (a1 : Int) : Option (List Int) := (slices_Clone_byte_byte.f l0).bind fun t122 => ((slices_Grow_byte_byte.f t122 9).bind fun t125 => (if a1 ≤ 247 then (if t125.length < 140737488355328 then (some (t125 ++ [(a1) % 256])) else (none)) else ((num_size.f a1).bind fun t131 => (if t125.length < 140737488355328 then (num_Put.l0 k a1 (t125 ++ [(wrap64 (247 + t131)) % 256]) t131 0) else (none)))))
set_option maxHeartbeats 8000000 in
set_option maxRecDepth 100000 in
theorem num_Put.calls (k : Nat) (A0 : Option Addr) (c0 : Nat) (l0 : List Int) (a1 : Int) (r : List Int) (w : World) (hr0 : Kd.C (Kd.int .u8) w A0 l0.length l0) (hc0 : l0.length ≤ c0) (h : num_Put.f k l0 a1 = some r) :
  Calls Tryd.prog 38 #[.slice A0 l0.length c0, .int .u64 a1] w fun e w' => ∃ v0_ : Value, e = .returned (v0_) ∧ Kd.R (Kd.int .u8) 5 w' w.heap.size (fun _ => True) v0_ r ∧ Below w.heap.size w w' := by
 have HR0 := Aside0.mk hr0
 have HC0 := Aside0.mk hc0
 clear hr0 hc0
 have HB := Aside0.mk (Below.refl w.heap.size w)
 have H : ((slices_Clone_byte_byte.f l0).bind fun t122 => ((slices_Grow_byte_byte.f t122 9).bind fun t125 => (if a1 ≤ 247 then (if t125.length < 140737488355328 then (some (t125 ++ [(a1) % 256])) else (none)) else ((num_size.f a1).bind fun t131 => (if t125.length < 140737488355328 then (num_Put.l0 k a1 (t125 ++ [(wrap64 (247 + t131)) % 256]) t131 0) else (none)))))) = some r := h
 clear h
 replace H := Option.bind_eq_some_iff.mp H
 obtain ⟨t122, A30, H⟩ := H
 replace H : ((slices_Grow_byte_byte.f t122 9).bind fun t125 => (if a1 ≤ 247 then (if t125.length < 140737488355328 then (some (t125 ++ [(a1) % 256])) else (none)) else ((num_size.f a1).bind fun t131 => (if t125.length < 140737488355328 then (num_Put.l0 k a1 (t125 ++ [(wrap64 (247 + t131)) % 256]) t131 0) else (none))))) = some r := H
 have A3 := Aside0.mk A30
 clear A30
 replace H := Option.bind_eq_some_iff.mp H
 obtain ⟨t125, A40, H⟩ := H
 replace H : (if a1 ≤ 247 then (if t125.length < 140737488355328 then (some (t125 ++ [(a1) % 256])) else (none)) else ((num_size.f a1).bind fun t131 => (if t125.length < 140737488355328 then (num_Put.l0 k a1 (t125 ++ [(wrap64 (247 + t131)) % 256]) t131 0) else (none)))) = some r := H
 have A4 := Aside0.mk A40
 clear A40
 by_cases c5 : a1 ≤ 247
 ·rw [if_pos c5] at H
  have c5b0 : decide (a1 ≤ 247) = true := decide_eq_true c5
  clear c5
  by_cases c6 : t125.length < 140737488355328
  ·rw [if_pos c6] at H
   have LMc6 := Aside0.mk c6
   clear c6
   obtain ⟨y128, hy128⟩ : ∃ y_ : List Int, y_ = (t125 ++ [(a1) % 256]) := ⟨_, rfl⟩
   replace H : (some y128) = some r := by first | (rw [hy128]; with_reducible exact H) | (have H2_ := (Option.bind_some _ _).symm.trans H; rw [hy128]; with_reducible exact H2_) | (have H2_ := (Option.bind_some _ _).symm.trans H; with_reducible exact H2_) | with_reducible exact H | (rw [hy128]; exact H) | exact H
   have Ny128 := Aside0.mk hy128
   clear hy128
   obtain rfl := Option.some.inj H
   go_enter Tryd.func38, Tryd.ntmps38
   go_wp2_with (first | ((with_reducible refine gate_callee (f := 55) rfl ?_); refine goesL_ (some 8) rfl rfl Tryd.func55 (by kernel_rfl) rfl #[.slice A0 l0.length c0] rfl (by (try simp only [List.map_toArray, List.map_cons, List.map_nil]); first | done | rfl | (simp only [List.length_drop, List.length_take]; rfl)) ?_; (with_reducible refine (slices_Clone_byte_byte.calls _ _ l0 t122 _ ?side1 ?side2 A3.out).mono ?_); (case side1 => repeat (first | exact HR0.out | (with_reducible refine Kd.C_alloc ?_ _) | (with_reducible refine Kd.C_drewN ?_ _) | (with_reducible refine Kd.C_drew ?_))); (case side2 => exact HC0.out); rintro e w7 ⟨v123, rfl, ho0, hb⟩; refine ⟨_, rfl, ?_⟩; have n0_ := Aside0.mk (Kd.R_lower ho0 (below_size (by repeat (first | (with_reducible first | exact HB.out | apply below_alloc | apply pw_below_drewN | apply below_drew1) | exact HB.out)))); have n1_ := Aside0.mk (below_step (by repeat (first | (with_reducible first | exact HB.out | apply below_alloc | apply pw_below_drewN | apply below_drew1) | exact HB.out)) hb); clear HB; have HO124 := n0_; have HB := n1_; clear n0_ n1_; (try clear hb); (try clear hb2); (try clear hk); (try clear hi); (try clear ho0); obtain ⟨Ao8, co8, eo8⟩ := Kd.R_slice HO124.out; subst eo8) | ((with_reducible refine gate_callee (f := 62) rfl ?_); refine goesL_ (some 9) rfl rfl Tryd.func62 (by kernel_rfl) rfl #[.slice Ao8 t122.length co8, .int .i64 9] rfl (by (try simp only [List.map_toArray, List.map_cons, List.map_nil]); first | done | rfl | (simp only [List.length_drop, List.length_take]; rfl)) ?_; (with_reducible refine (slices_Grow_byte_byte.calls (fun k_ => some k_ = (.slice Ao8 t122.length co8 : Value).ownBlock) (.slice Ao8 t122.length co8) t122 9 t125 w _ ?side1 ?side2 A4.out).mono ?_); (case side1 => repeat (first | (with_reducible first | exact HB.out | apply below_alloc | apply pw_below_drewN | apply below_drew1) | exact HB.out)); (case side2 => exact Kd.R_tight rfl HO124.out); rintro e w9 ⟨v126, rfl, ho0, hb, hkp⟩; refine ⟨_, rfl, ?_⟩; have n0_ := Aside0.mk (Kd.R_mono (ok' := fun k_ => True) ho0 (fun k_ hk_ => trivial)); have n1_ := Aside0.mk (hb); clear HB; clear HO124; have HO127 := n0_; have HB := n1_; clear n0_ n1_; (try clear hb); (try clear hkp); (try clear ho0)) | ((with_reducible refine gate_builtin (b := .append) (xs := #[.tmp 12, .tmp 15]) rfl ?_); at_builtin; refine Kd.R_append (Kd.int .u8) (w0 := w) w.heap.size rfl (.tmp 12) (.tmp 15) 22 5 (.int .u8 0) 1 rfl Tryd.underlying22 info5 rfl (by decide) (by omega) v126 t125 ((a1) % 256) [.int .u8 ((a1) % 256)] (fun _ => True) (fun _ => False) rfl rfl ?aP (fun _ hk => hk.elim) ?aF ?aO ?aB ?aS ?aL ?_; (case aP => exact rfl); (case aB => exact (by repeat (first | (with_reducible first | exact HB.out | apply below_alloc | apply pw_below_drewN | apply below_drew1) | exact HB.out))); (case aF => exact (fun _ _ => trivial)); (case aO => exact (by (with_reducible repeat (first | apply Kd.R_alloc | apply Kd.R_drewN | apply Kd.R_drew)); exact HO127.out)); (case aS => exact (below_size (by repeat (first | (with_reducible first | exact HB.out | apply below_alloc | apply pw_below_drewN | apply below_drew1) | exact HB.out)))); (case aL => have := LMc6.out; omega); intro v129 w10 ho hb hg hat; rw [← Ny128.out] at ho; have n0_ := Aside0.mk (hb); have n1_ := Aside0.mk (ho); clear HB; clear HO127; have HB := n0_; have HO130 := n1_; clear n0_ n1_; clear ho hb hg hat))
   go_ret
   exact ⟨_, by first | rfl | (simp [errW_none, errW_some] <;> rfl) | (simp [*, errW_none, errW_some] <;> rfl), by (with_reducible repeat (first | apply Kd.R_alloc | apply Kd.R_drewN | apply Kd.R_drew)); exact HO130.out, by repeat (first | (with_reducible first | exact HB.out | apply below_alloc | apply pw_below_drewN | apply below_drew1) | exact HB.out)⟩
  ·rw [if_neg c6] at H
   exact absurd H (by simp)
 ·rw [if_neg c5] at H
  have c5b0 : decide (a1 ≤ 247) = false := decide_eq_false c5
  clear c5
  replace H := Option.bind_eq_some_iff.mp H
  obtain ⟨t131, A110, H⟩ := H
  replace H : (if t125.length < 140737488355328 then (num_Put.l0 k a1 (t125 ++ [(wrap64 (247 + t131)) % 256]) t131 0) else (none)) = some r := H
  have A11 := Aside0.mk A110
  clear A110
  by_cases c12 : t125.length < 140737488355328
  ·rw [if_pos c12] at H
   have LMc12 := Aside0.mk c12
   clear c12
   obtain ⟨y132, hy132⟩ : ∃ y_ : List Int, y_ = (t125 ++ [(wrap64 (247 + t131)) % 256]) := ⟨_, rfl⟩
   replace H : (num_Put.l0 k a1 y132 t131 0) = some r := by first | (rw [hy132]; with_reducible exact H) | (have H2_ := (Option.bind_some _ _).symm.trans H; rw [hy132]; with_reducible exact H2_) | (have H2_ := (Option.bind_some _ _).symm.trans H; with_reducible exact H2_) | with_reducible exact H | (rw [hy132]; exact H) | exact H
   have Ny132 := Aside0.mk hy132
   clear hy132
   have H' := Aside0.mk H
   clear H
   go_enter Tryd.func38, Tryd.ntmps38
   go_wp2_with (first | ((with_reducible refine gate_callee (f := 55) rfl ?_); refine goesL_ (some 8) rfl rfl Tryd.func55 (by kernel_rfl) rfl #[.slice A0 l0.length c0] rfl (by (try simp only [List.map_toArray, List.map_cons, List.map_nil]); first | done | rfl | (simp only [List.length_drop, List.length_take]; rfl)) ?_; (with_reducible refine (slices_Clone_byte_byte.calls _ _ l0 t122 _ ?side1 ?side2 A3.out).mono ?_); (case side1 => repeat (first | exact HR0.out | (with_reducible refine Kd.C_alloc ?_ _) | (with_reducible refine Kd.C_drewN ?_ _) | (with_reducible refine Kd.C_drew ?_))); (case side2 => exact HC0.out); rintro e w13 ⟨v123, rfl, ho0, hb⟩; refine ⟨_, rfl, ?_⟩; have n0_ := Aside0.mk (Kd.R_lower ho0 (below_size (by repeat (first | (with_reducible first | exact HB.out | apply below_alloc | apply pw_below_drewN | apply below_drew1) | exact HB.out)))); have n1_ := Aside0.mk (below_step (by repeat (first | (with_reducible first | exact HB.out | apply below_alloc | apply pw_below_drewN | apply below_drew1) | exact HB.out)) hb); clear HB; have HO124 := n0_; have HB := n1_; clear n0_ n1_; (try clear hb); (try clear hb2); (try clear hk); (try clear hi); (try clear ho0); obtain ⟨Ao14, co14, eo14⟩ := Kd.R_slice HO124.out; subst eo14) | ((with_reducible refine gate_callee (f := 62) rfl ?_); refine goesL_ (some 9) rfl rfl Tryd.func62 (by kernel_rfl) rfl #[.slice Ao14 t122.length co14, .int .i64 9] rfl (by (try simp only [List.map_toArray, List.map_cons, List.map_nil]); first | done | rfl | (simp only [List.length_drop, List.length_take]; rfl)) ?_; (with_reducible refine (slices_Grow_byte_byte.calls (fun k_ => some k_ = (.slice Ao14 t122.length co14 : Value).ownBlock) (.slice Ao14 t122.length co14) t122 9 t125 w _ ?side1 ?side2 A4.out).mono ?_); (case side1 => repeat (first | (with_reducible first | exact HB.out | apply below_alloc | apply pw_below_drewN | apply below_drew1) | exact HB.out)); (case side2 => exact Kd.R_tight rfl HO124.out); rintro e w15 ⟨v126, rfl, ho0, hb, hkp⟩; refine ⟨_, rfl, ?_⟩; have n0_ := Aside0.mk (Kd.R_mono (ok' := fun k_ => True) ho0 (fun k_ hk_ => trivial)); have n1_ := Aside0.mk (hb); clear HB; clear HO124; have HO127 := n0_; have HB := n1_; clear n0_ n1_; (try clear hb); (try clear hkp); (try clear ho0)) | ((with_reducible refine gate_callee (f := 63) rfl ?_); refine goesL_ (some 18) rfl rfl Tryd.func63 (by kernel_rfl) rfl #[.int .u64 a1] rfl (by (try simp only [List.map_toArray, List.map_cons, List.map_nil]); first | done | rfl | (simp only [List.length_drop, List.length_take]; rfl)) ?_; (with_reducible refine (num_size.calls a1 t131 _ A11.out).mono ?_); rintro e w' ⟨rfl, ⟨nd, rfl⟩⟩; refine ⟨_, rfl, ?_⟩) | ((with_reducible refine gate_builtin (b := .append) (xs := #[.tmp 19, .tmp 23]) rfl ?_); at_builtin; refine Kd.R_append (Kd.int .u8) (w0 := w) w.heap.size rfl (.tmp 19) (.tmp 23) 22 5 (.int .u8 0) 1 rfl Tryd.underlying22 info5 rfl (by decide) (by omega) v126 t125 ((wrap64 (247 + t131)) % 256) [.int .u8 ((wrap64 (247 + t131)) % 256)] (fun _ => True) (fun _ => False) rfl rfl ?aP (fun _ hk => hk.elim) ?aF ?aO ?aB ?aS ?aL ?_; (case aP => exact rfl); (case aB => exact (by repeat (first | (with_reducible first | exact HB.out | apply below_alloc | apply pw_below_drewN | apply below_drew1) | exact HB.out))); (case aF => exact (fun _ _ => trivial)); (case aO => exact (by (with_reducible repeat (first | apply Kd.R_alloc | apply Kd.R_drewN | apply Kd.R_drew)); exact HO127.out)); (case aS => exact (below_size (by repeat (first | (with_reducible first | exact HB.out | apply below_alloc | apply pw_below_drewN | apply below_drew1) | exact HB.out)))); (case aL => have := LMc12.out; omega); intro v133 w16 ho hb hg hat; rw [← Ny132.out] at ho; have n0_ := Aside0.mk (hb); have n1_ := Aside0.mk (ho); clear HB; clear HO127; have HB := n0_; have HO134 := n1_; clear n0_ n1_; clear ho hb hg hat))
   go_loopg [1, 5, 26] k (fun kq v1 v5 v26 w' => ∃ (x1_1 : Int) (x5_1 : List Int) (x26_1 : Int), v1 = .int .u64 x1_1 ∧ v26 = .int .i64 x26_1 ∧ Aside0 (num_Put.l0 kq x1_1 x5_1 t131 x26_1 = some r) ∧ Aside0 (kq ≤ k) ∧ Aside0 (Kd.R (Kd.int .u8) 5 w' w.heap.size (fun _ => True) v5 x5_1) ∧ Aside0 (Below w.heap.size w w'))
   case atStart => exact ⟨(a1), (y132), (0), (by first | rfl | (simp; done) | (simp [*]; done)), (by first | rfl | (simp; done) | (simp [*]; done)), H', ⟨Nat.le_refl _⟩, ⟨by (with_reducible repeat (first | apply Kd.R_alloc | apply Kd.R_drewN | apply Kd.R_drew)); exact HO134.out⟩, ⟨by repeat (first | (with_reducible first | exact HB.out | apply below_alloc | apply pw_below_drewN | apply below_drew1) | exact HB.out)⟩⟩
   case round =>
    clear H'
    try clear c1
    try clear p2
    try clear c3
    try clear c5
    try clear c5b0
    try clear c6
    try clear p6
    try clear c12
    obtain ⟨x1_1, x5_1, x26_1, rfl, rfl, HA, HK1, HO_5, HB⟩ := hrel
    cases gk with
    | zero => exact absurd HA.out (by simp [num_Put.l0])
    | succ k1 =>
     have H := HA.out
     clear HA
     simp only [num_Put.l0] at H
     by_cases c17 : x26_1 < t131
     ·rw [if_pos c17] at H
      have c17b0 : decide (x26_1 < t131) = true := decide_eq_true c17
      clear c17
      by_cases c18 : x5_1.length < 140737488355328
      ·rw [if_pos c18] at H
       have LMc18 := Aside0.mk c18
       clear c18
       obtain ⟨y135, hy135⟩ : ∃ y_ : List Int, y_ = (x5_1 ++ [(x1_1) % 256]) := ⟨_, rfl⟩
       replace H : (num_Put.l0 k1 (x1_1 / 256) y135 t131 (wrap64 (x26_1 + 1))) = some r := by first | (rw [hy135]; with_reducible exact H) | (have H2_ := (Option.bind_some _ _).symm.trans H; rw [hy135]; with_reducible exact H2_) | (have H2_ := (Option.bind_some _ _).symm.trans H; with_reducible exact H2_) | with_reducible exact H | (rw [hy135]; exact H) | exact H
       have Ny135 := Aside0.mk hy135
       clear hy135
       have H' := Aside0.mk H
       clear H
       go_wp2_with (first | ((with_reducible refine gate_builtin (b := .append) (xs := #[.tmp 28, .tmp 31]) rfl ?_); at_builtin; refine Kd.R_append (Kd.int .u8) (w0 := w) w.heap.size rfl (.tmp 28) (.tmp 31) 22 5 (.int .u8 0) 1 rfl Tryd.underlying22 info5 rfl (by decide) (by omega) u5 x5_1 ((x1_1) % 256) [.int .u8 ((x1_1) % 256)] (fun _ => True) (fun _ => False) rfl rfl ?aP (fun _ hk => hk.elim) ?aF ?aO ?aB ?aS ?aL ?_; (case aP => exact rfl); (case aB => exact (by repeat (first | (with_reducible first | exact HB.out | apply below_alloc | apply pw_below_drewN | apply below_drew1) | exact HB.out))); (case aF => exact (fun _ _ => trivial)); (case aO => exact (by (with_reducible repeat (first | apply Kd.R_alloc | apply Kd.R_drewN | apply Kd.R_drew)); exact HO_5.out)); (case aS => exact (below_size (by repeat (first | (with_reducible first | exact HB.out | apply below_alloc | apply pw_below_drewN | apply below_drew1) | exact HB.out)))); (case aL => have := LMc18.out; omega); intro v136 w19 ho hb hg hat; rw [← Ny135.out] at ho; have n0_ := Aside0.mk (hb); have n1_ := Aside0.mk (ho); clear HB; clear HO_5; have HB := n0_; have HO137 := n1_; clear n0_ n1_; clear ho hb hg hat))
       go_roundg k1
       case measure => have := HK1.out; omega
       case rel => exact ⟨(x1_1 / 256), (y135), (wrap64 (x26_1 + 1)), (by first | rfl | (simp; done) | (simp [*]; done)), (by first | rfl | (simp; done) | (simp [*]; done)), H', ⟨by have := HK1.out; omega⟩, ⟨by (with_reducible repeat (first | apply Kd.R_alloc | apply Kd.R_drewN | apply Kd.R_drew)); exact HO137.out⟩, ⟨by repeat (first | (with_reducible first | exact HB.out | apply below_alloc | apply pw_below_drewN | apply below_drew1) | exact HB.out)⟩⟩
      ·rw [if_neg c18] at H
       exact absurd H (by simp)
     ·rw [if_neg c17] at H
      have c17b0 : decide (x26_1 < t131) = false := decide_eq_false c17
      clear c17
      obtain rfl := Option.some.inj H
      go_wp2
      go_ret
      exact ⟨_, by first | rfl | (simp [errW_none, errW_some] <;> rfl) | (simp [*, errW_none, errW_some] <;> rfl), by (with_reducible repeat (first | apply Kd.R_alloc | apply Kd.R_drewN | apply Kd.R_drew)); exact HO_5.out, by repeat (first | (with_reducible first | exact HB.out | apply below_alloc | apply pw_below_drewN | apply below_drew1) | exact HB.out)⟩
  ·rw [if_neg c12] at H
   exact absurd H (by simp)
theorem info63x : (Tryd.prog.info? 63).map (fun i => (i.zero, i.size, i.bytes)) = some (some (.agg #[.int .i64 0, .int .i64 0, .int .i64 0, .int .i64 0]), 4, 32) := by kernel_rfl
def endC (l : List S63) (i : Nat) : Int := if i = 0 then -1 else (rd_T63 l ((i - 1 : Nat) : Int)).f2
def okC (l : List S63) (next seq : Int) (i : Nat) : Prop := 0 ≤ (rd_T63 l (i : Int)).f0 ∧ (rd_T63 l (i : Int)).f0 < next ∧ (∀ k, k < i → (rd_T63 l (k : Int)).f0 ≠ (rd_T63 l (i : Int)).f0) ∧ endC l i < (rd_T63 l (i : Int)).f1 ∧ (rd_T63 l (i : Int)).f1 ≤ (rd_T63 l (i : Int)).f2 ∧ (rd_T63 l (i : Int)).f2 < seq ∧ 1 ≤ (rd_T63 l (i : Int)).f3 ∧ (rd_T63 l (i : Int)).f3 ≤ 4096 ∧ (rd_T63 l (i : Int)).f3 ≤ (rd_T63 l (i : Int)).f2 - (rd_T63 l (i : Int)).f1 + 1
instance (l : List S63) (next seq : Int) (i : Nat) : Decidable (okC l next seq i) := by unfold okC; exact inferInstance
def FormedC (l : List S63) (next seq : Int) : Prop := l.length ≤ 64 ∧ 0 ≤ next ∧ next ≤ 2147483647 ∧ 0 ≤ seq ∧ seq ≤ 1099511627776 ∧ ∀ i, i < l.length → okC l next seq i
instance (l : List S63) (next seq : Int) : Decidable (FormedC l next seq) := by unfold FormedC; exact inferInstance
theorem endC_ge {l : List S63} {next seq : Int} {i : Nat} (h : ∀ j, j < i → okC l next seq j) : -1 ≤ endC l i := by
 unfold endC
 by_cases h0 : i = 0
 ·rw [if_pos h0]
  exact Int.le_refl _
 ·rw [if_neg h0]
  induction i with
  | zero => exact absurd rfl h0
  | succ i ih =>
   have h1 := h i (Nat.lt_succ_self i)
   unfold okC at h1
   have h2 : -1 ≤ endC l i := by
    unfold endC
    by_cases h3 : i = 0
    ·rw [if_pos h3]
     exact Int.le_refl _
    ·rw [if_neg h3]
     exact ih (fun j hj => h j (by omega)) h3
   show -1 ≤ (rd_T63 l (i : Int)).f2
   omega
theorem formed_not {l : List S63} {next seq : Int} {i : Nat} (hi : i < l.length) (h : ¬ okC l next seq i) : decide (FormedC l next seq) = false := decide_eq_false fun hf => h (hf.2.2.2.2.2 i hi)
open Go.Maps
theorem keyLaw3 : Keyed Tryd.prog 3 := int_keyed Tryd.underlying3
theorem zeroB4 (w : World) : (zeroValue 4).run Tryd.prog w = .ok (.bool false) w := by kernel_rfl
theorem i64_wfJ {q : Int} (h0 : -9223372036854775808 ≤ q) (h1 : q ≤ 9223372036854775807) : (Lit.int .i64 q).wf = true := by
 simp [Lit.wf, IntKind.min, IntKind.max, IntKind.signed, IntKind.bits]
 omega
def NumOf (D : DataW Unit) (l : List S63) (i : Nat) : Prop := IsMap D ∧ ∀ q : Int, D.atKey (.int .i64 q) (.lit (.bool false)) = .lit (.bool (decide (∃ j, j < i ∧ (rd_T63 l (j : Int)).f0 = q)))
theorem NumOf.start (l : List S63) : NumOf (.map []) l 0 := ⟨isMap_empty, fun q => by
 rw [decide_eq_false (fun ⟨j, hj, _⟩ => Nat.not_lt_zero j hj)]
 rfl⟩
theorem NumOf.step {D : DataW Unit} {l : List S63} {i : Nat} (h : NumOf D l i) : NumOf (D.put (.int .i64 (rd_T63 l (i : Int)).f0) (.lit (.bool true))) l (i + 1) := by
 refine ⟨h.1.put _ _, fun q => ?_⟩
 by_cases hq : (rd_T63 l (i : Int)).f0 = q
 ·subst hq
  rw [decide_eq_true ⟨i, Nat.lt_succ_self i, rfl⟩]
  exact atKey_put_same h.1 (show WideAt.IsKeyLit (.int .i64 _) from trivial) _ _
 ·have hne : (Lit.int .i64 q) ≠ .int .i64 (rd_T63 l (i : Int)).f0 := fun e => by
   injection e with _ e
   exact hq e.symm
  rw [atKey_put_other hne, h.2 q]
  congr 3
  apply propext
  constructor
  ·rintro ⟨j, hj, h2⟩
   exact ⟨j, by omega, h2⟩
  ·rintro ⟨j, hj, h2⟩
   refine ⟨j, ?_, h2⟩
   rcases Nat.lt_or_eq_of_le (Nat.lt_succ_iff.1 hj) with h3 | h3
   ·exact h3
   ·exact absurd (h3 ▸ h2) hq
theorem ownsMap_KeptM {P : Program} {k : TypeId} {R : Value → Option (DataW Unit × List MemPlace)} {W W' : World} {b n : Nat} {D : DataW Unit} {S : Nat → Prop} (h : W.ownsMap P k R b n D) (hk : Kept W W' S) (hn : ¬ S b) : W'.ownsMap P k R b n D := by
 have hlt := h.lt
 obtain ⟨es, clock, hb, r⟩ := h
 exact ⟨es, clock, (hk.2 b hlt hn).trans hb, r⟩
theorem ownsMap_belowM {P : Program} {k : TypeId} {R : Value → Option (DataW Unit × List MemPlace)} {W W' : World} {b n : Nat} {D : DataW Unit} (h : W.ownsMap P k R b n D) (hk : Below W.heap.size W W') : W'.ownsMap P k R b n D :=
 ownsMap_KeptM h (Kept.of_below hk (fun _ => False)) (fun h => h)
theorem look_bool {D : DataW Unit} {gm n : Nat} {W : World} (h : W.ownsMap Tryd.prog 3 (plainElem (H := Unit) Tryd.prog 4) gm n D) (x : Int) (h0 : -9223372036854775808 ≤ x) (h1 : x ≤ 9223372036854775807) (b : Bool) (hD : D.atKey (.int .i64 x) (.lit (.bool false)) = .lit (.bool b)) :
  (Instr.lookup 80 (.map (some gm)) (.int .i64 x) false).run Tryd.prog W = .ok (.bool b) W := by
 obtain ⟨v, ps, h2, h3⟩ := h.lookup keyLaw3 Tryd.underlying80 (zeroB4 W) (plainElem_bool Tryd.underlying4 false) (Maps.keyOf_int_mk Tryd.underlying3 (i64_wfJ h0 h1))
 rw [hD] at h3
 rw [h2]
 have h4 : v = .bool b := by
  unfold plainElem at h3
  simp only [Tryd.underlying4] at h3
  cases v <;> simp at h3
  rw [h3.1]
 rw [h4]
def manifest_Formed.f (l0_0 : List S63) (a0_1 : Int) (a0_2 : Int) : Option Bool := if l0_0.length < 140737488355328 then some (decide (FormedC l0_0 a0_1 a0_2)) else none
set_option maxHeartbeats 8000000 in
set_option maxRecDepth 100000 in
theorem manifest_Formed.calls (A0_0 : Option Addr) (c0_0 : Nat) (l0_0 : List (S63)) (a0_1 : Int) (a0_2 : Int) (r : Bool) (w : World) (hr0_0 : Kd.C k63 w A0_0 l0_0.length l0_0) (hc0_0 : l0_0.length ≤ c0_0) (h : manifest_Formed.f l0_0 a0_1 a0_2 = some r) :
  Calls Tryd.prog 21 #[.agg #[.slice A0_0 l0_0.length c0_0, .int .i64 a0_1, .int .i64 a0_2]] w fun e w' => e = .returned (.bool r) ∧ Below w.heap.size w w' := by
 unfold manifest_Formed.f at h
 by_cases hl : l0_0.length < 140737488355328
 case neg => rw [if_neg hl] at h; cases h
 rw [if_pos hl] at h
 have HRR := Aside0.mk (Option.some.inj h)
 clear h
 have HR := Aside0.mk hr0_0
 have HC := Aside0.mk hc0_0
 have HB := Aside0.mk (Below.refl w.heap.size w)
 have HL := Aside0.mk hl
 clear hr0_0 hc0_0 hl
 have hu27 := Tryd.underlying27
 have hu63 := Tryd.underlying63
 have hu25 := Tryd.underlying25
 by_cases c0 : 64 < (l0_0.length : Int)
 ·have c0b : decide (64 < (l0_0.length : Int)) = true := decide_eq_true c0
  have hno : decide (FormedC l0_0 a0_1 a0_2) = false := decide_eq_false (fun h => by have := h.1; omega)
  clear c0
  obtain rfl : r = false := HRR.out.symm.trans hno
  go_enter Tryd.func21, Tryd.ntmps21
  go_wp2_with (first
   | ((with_reducible refine gate_dst (N := 1) rfl ?_); refine box_event ?hg (N := 1) ?hd (cs := #[.slice A0_0 l0_0.length c0_0, .int .i64 a0_1, .int .i64 a0_2]) (t := 27) ?hr ?_; (case hd => rfl); (case hg => rfl); (case hr => first | (go_simp; done) | (go_simp; rfl)); intro g1 hg1 w1 hbox hb; have HB_ := Aside0.mk (below_step HB.out hb); have CB1 := Aside0.mk hbox; clear hb hbox hg1 HB; have HB := HB_; clear HB_; have v10 : w1.cell? ⟨g1, 0, none⟩ = some (.slice A0_0 l0_0.length c0_0) := (blk_cell CB1.out 0).trans rfl; have v11 : w1.cell? ⟨g1, 1, none⟩ = some (.int .i64 a0_1) := (blk_cell CB1.out 1).trans rfl; have v12 : w1.cell? ⟨g1, 2, none⟩ = some (.int .i64 a0_2) := (blk_cell CB1.out 2).trans rfl))
  go_ret
  exact ⟨rfl, HB.out⟩
 ·have c0b : decide (64 < (l0_0.length : Int)) = false := decide_eq_false c0
  have C0 := Aside0.mk c0
  clear c0
  by_cases c1 : a0_1 < 0
  ·have c1b : decide (a0_1 < 0) = true := decide_eq_true c1
   have hno : decide (FormedC l0_0 a0_1 a0_2) = false := decide_eq_false (fun h => by have := h.2.1; omega)
   clear c1
   obtain rfl : r = false := HRR.out.symm.trans hno
   go_enter Tryd.func21, Tryd.ntmps21
   go_wp2_with (first
    | ((with_reducible refine gate_dst (N := 1) rfl ?_); refine box_event ?hg (N := 1) ?hd (cs := #[.slice A0_0 l0_0.length c0_0, .int .i64 a0_1, .int .i64 a0_2]) (t := 27) ?hr ?_; (case hd => rfl); (case hg => rfl); (case hr => first | (go_simp; done) | (go_simp; rfl)); intro g1 hg1 w1 hbox hb; have HB_ := Aside0.mk (below_step HB.out hb); have CB1 := Aside0.mk hbox; clear hb hbox hg1 HB; have HB := HB_; clear HB_; have v10 : w1.cell? ⟨g1, 0, none⟩ = some (.slice A0_0 l0_0.length c0_0) := (blk_cell CB1.out 0).trans rfl; have v11 : w1.cell? ⟨g1, 1, none⟩ = some (.int .i64 a0_1) := (blk_cell CB1.out 1).trans rfl; have v12 : w1.cell? ⟨g1, 2, none⟩ = some (.int .i64 a0_2) := (blk_cell CB1.out 2).trans rfl))
   go_ret
   exact ⟨rfl, HB.out⟩
  ·have c1b : decide (a0_1 < 0) = false := decide_eq_false c1
   have C1 := Aside0.mk c1
   clear c1
   by_cases c2 : 2147483647 < a0_1
   ·have c2b : decide (2147483647 < a0_1) = true := decide_eq_true c2
    have hno : decide (FormedC l0_0 a0_1 a0_2) = false := decide_eq_false (fun h => by have := h.2.2.1; omega)
    clear c2
    obtain rfl : r = false := HRR.out.symm.trans hno
    go_enter Tryd.func21, Tryd.ntmps21
    go_wp2_with (first
     | ((with_reducible refine gate_dst (N := 1) rfl ?_); refine box_event ?hg (N := 1) ?hd (cs := #[.slice A0_0 l0_0.length c0_0, .int .i64 a0_1, .int .i64 a0_2]) (t := 27) ?hr ?_; (case hd => rfl); (case hg => rfl); (case hr => first | (go_simp; done) | (go_simp; rfl)); intro g1 hg1 w1 hbox hb; have HB_ := Aside0.mk (below_step HB.out hb); have CB1 := Aside0.mk hbox; clear hb hbox hg1 HB; have HB := HB_; clear HB_; have v10 : w1.cell? ⟨g1, 0, none⟩ = some (.slice A0_0 l0_0.length c0_0) := (blk_cell CB1.out 0).trans rfl; have v11 : w1.cell? ⟨g1, 1, none⟩ = some (.int .i64 a0_1) := (blk_cell CB1.out 1).trans rfl; have v12 : w1.cell? ⟨g1, 2, none⟩ = some (.int .i64 a0_2) := (blk_cell CB1.out 2).trans rfl))
    go_ret
    exact ⟨rfl, HB.out⟩
   ·have c2b : decide (2147483647 < a0_1) = false := decide_eq_false c2
    have C2 := Aside0.mk c2
    clear c2
    by_cases c3 : a0_2 < 0
    ·have c3b : decide (a0_2 < 0) = true := decide_eq_true c3
     have hno : decide (FormedC l0_0 a0_1 a0_2) = false := decide_eq_false (fun h => by have := h.2.2.2.1; omega)
     clear c3
     obtain rfl : r = false := HRR.out.symm.trans hno
     go_enter Tryd.func21, Tryd.ntmps21
     go_wp2_with (first
      | ((with_reducible refine gate_dst (N := 1) rfl ?_); refine box_event ?hg (N := 1) ?hd (cs := #[.slice A0_0 l0_0.length c0_0, .int .i64 a0_1, .int .i64 a0_2]) (t := 27) ?hr ?_; (case hd => rfl); (case hg => rfl); (case hr => first | (go_simp; done) | (go_simp; rfl)); intro g1 hg1 w1 hbox hb; have HB_ := Aside0.mk (below_step HB.out hb); have CB1 := Aside0.mk hbox; clear hb hbox hg1 HB; have HB := HB_; clear HB_; have v10 : w1.cell? ⟨g1, 0, none⟩ = some (.slice A0_0 l0_0.length c0_0) := (blk_cell CB1.out 0).trans rfl; have v11 : w1.cell? ⟨g1, 1, none⟩ = some (.int .i64 a0_1) := (blk_cell CB1.out 1).trans rfl; have v12 : w1.cell? ⟨g1, 2, none⟩ = some (.int .i64 a0_2) := (blk_cell CB1.out 2).trans rfl))
     go_ret
     exact ⟨rfl, HB.out⟩
    ·have c3b : decide (a0_2 < 0) = false := decide_eq_false c3
     have C3 := Aside0.mk c3
     clear c3
     by_cases c4 : 1099511627776 < a0_2
     ·have c4b : decide (1099511627776 < a0_2) = true := decide_eq_true c4
      have hno : decide (FormedC l0_0 a0_1 a0_2) = false := decide_eq_false (fun h => by have := h.2.2.2.2.1; omega)
      clear c4
      obtain rfl : r = false := HRR.out.symm.trans hno
      go_enter Tryd.func21, Tryd.ntmps21
      go_wp2_with (first
       | ((with_reducible refine gate_dst (N := 1) rfl ?_); refine box_event ?hg (N := 1) ?hd (cs := #[.slice A0_0 l0_0.length c0_0, .int .i64 a0_1, .int .i64 a0_2]) (t := 27) ?hr ?_; (case hd => rfl); (case hg => rfl); (case hr => first | (go_simp; done) | (go_simp; rfl)); intro g1 hg1 w1 hbox hb; have HB_ := Aside0.mk (below_step HB.out hb); have CB1 := Aside0.mk hbox; clear hb hbox hg1 HB; have HB := HB_; clear HB_; have v10 : w1.cell? ⟨g1, 0, none⟩ = some (.slice A0_0 l0_0.length c0_0) := (blk_cell CB1.out 0).trans rfl; have v11 : w1.cell? ⟨g1, 1, none⟩ = some (.int .i64 a0_1) := (blk_cell CB1.out 1).trans rfl; have v12 : w1.cell? ⟨g1, 2, none⟩ = some (.int .i64 a0_2) := (blk_cell CB1.out 2).trans rfl))
      go_ret
      exact ⟨rfl, HB.out⟩
     ·have c4b : decide (1099511627776 < a0_2) = false := decide_eq_false c4
      have C4 := Aside0.mk c4
      clear c4
      have hmm := @run_makeMap Tryd.prog
      go_enter Tryd.func21, Tryd.ntmps21
      go_upto_region 4 with (first
       | ((with_reducible refine gate_dst (N := 1) rfl ?_); refine box_event ?hg (N := 1) ?hd (cs := #[.slice A0_0 l0_0.length c0_0, .int .i64 a0_1, .int .i64 a0_2]) (t := 27) ?hr ?_; (case hd => rfl); (case hg => rfl); (case hr => first | (go_simp; done) | (go_simp; rfl)); intro g1 hg1 w1 hbox hb; have HB_ := Aside0.mk (below_step HB.out hb); have CB1 := Aside0.mk hbox; clear hb hbox hg1 HB; have HB := HB_; clear HB_; have v10 : w1.cell? ⟨g1, 0, none⟩ = some (.slice A0_0 l0_0.length c0_0) := (blk_cell CB1.out 0).trans rfl; have v11 : w1.cell? ⟨g1, 1, none⟩ = some (.int .i64 a0_1) := (blk_cell CB1.out 1).trans rfl; have v12 : w1.cell? ⟨g1, 2, none⟩ = some (.int .i64 a0_2) := (blk_cell CB1.out 2).trans rfl))
      clear hmm
      have HM := Aside0.mk (World.ownsMap_made (H := Unit) w1 Tryd.prog 3 (plainElem (H := Unit) Tryd.prog 4))
      have CB1_ := Aside0.mk (blk_alloc CB1.out (.map #[] 0))
      have HB_ := Aside0.mk (below_alloc HB.out (.map #[] 0))
      have GM1 : Aside0 (g1 < w1.heap.size) := ⟨blk_lt CB1.out⟩
      have GMB := Aside0.mk (below_size HB.out)
      clear HB CB1 v10 v11 v12
      generalize hgm : w1.heap.size = gm at *
      generalize w1.alloc (.map #[] 0) = W1 at *
      clear hgm
      have HB := HB_
      have CB1 := CB1_
      clear HB_ CB1_
      have v10 : W1.cell? ⟨g1, 0, none⟩ = some (.slice A0_0 l0_0.length c0_0) := (blk_cell CB1.out 0).trans rfl
      have v11 : W1.cell? ⟨g1, 1, none⟩ = some (.int .i64 a0_1) := (blk_cell CB1.out 1).trans rfl
      have v12 : W1.cell? ⟨g1, 2, none⟩ = some (.int .i64 a0_2) := (blk_cell CB1.out 2).trans rfl
      go_wp2
      go_loopw [4, 35] (fun v4 v35 w' => ∃ (i : Nat) (D : DataW Unit), v4 = .int .i64 (endC l0_0 i) ∧ v35 = .int .i64 i ∧ i ≤ l0_0.length ∧ Aside0 (w'.ownsMap Tryd.prog 3 (plainElem (H := Unit) Tryd.prog 4) gm i D) ∧ Aside0 (NumOf D l0_0 i) ∧ Aside0 (∀ j, j < i → okC l0_0 a0_1 a0_2 j) ∧ Aside0 (w'.heap[g1]? = some (.cells #[.slice A0_0 l0_0.length c0_0, .int .i64 a0_1, .int .i64 a0_2] 27 (0, 0))) ∧ Aside0 (Below w.heap.size w w')) (fun _ v35 _ => l0_0.length - (intOf v35).toNat)
      case atStart => exact ⟨0, .map [], rfl, rfl, Nat.zero_le _, HM, ⟨NumOf.start l0_0⟩, ⟨fun j hj => absurd hj (Nat.not_lt_zero j)⟩, CB1, HB⟩
      case round =>
       clear HM CB1 HB v10 v11 v12 c0b c1b c2b c3b c4b
       obtain ⟨i, D, rfl, rfl, hil, HM, HN, HOK, CB1, HB⟩ := hrel
       have v10 : wr.cell? ⟨g1, 0, none⟩ = some (.slice A0_0 l0_0.length c0_0) := (blk_cell CB1.out 0).trans rfl
       have v11 : wr.cell? ⟨g1, 1, none⟩ = some (.int .i64 a0_1) := (blk_cell CB1.out 1).trans rfl
       have v12 : wr.cell? ⟨g1, 2, none⟩ = some (.int .i64 a0_2) := (blk_cell CB1.out 2).trans rfl
       by_cases cs : i < l0_0.length
       ·have csd := decide_eq_true (show (i : Int) < (l0_0.length : Int) by omega)
        obtain ⟨ad, rfl, hx0, hx1, hx2, hx3⟩ := at_T63 HR.out (i : Int) (by omega) (by omega)
        obtain ⟨x, hx⟩ : ∃ x, x = rd_T63 l0_0 (i : Int) := ⟨_, rfl⟩
        have HX := Aside0.mk hx
        rw [← hx] at hx0 hx1 hx2 hx3
        replace hx0 := (HB.out.cell (World.block_lt_of_cell? w _ hx0)).trans hx0
        replace hx1 := (HB.out.cell (World.block_lt_of_cell? w _ hx1)).trans hx1
        replace hx2 := (HB.out.cell (World.block_lt_of_cell? w _ hx2)).trans hx2
        replace hx3 := (HB.out.cell (World.block_lt_of_cell? w _ hx3)).trans hx3
        rw [Int.toNat_natCast] at hx0 hx1 hx2 hx3
        clear hx
        have q0 := eq_true (show (0 : Int) ≤ (i : Int) by omega)
        have q1 := eq_true (show (i : Int) < (l0_0.length : Int) by omega)
        have hwr : IntKind.i64.wrap ((i : Int) + 1) = ((i + 1 : Nat) : Int) := by rw [IntKind.wrap_i64]; have := HL.out; omega
        have HE := Aside0.mk (endC_ge HOK.out)
        have HEE := Aside0.mk (rfl : endC l0_0 i = endC l0_0 i)
        obtain ⟨E, hE⟩ : ∃ E, E = endC l0_0 i := ⟨_, rfl⟩
        rw [← hE] at HE ⊢
        have HEQ := Aside0.mk hE
        clear hE HEE
        go_upto_region 8 with (first
         | fail)
        have BX := Aside0.mk (blk_new wr (.cells #[.int .i64 x.f0, .int .i64 x.f1, .int .i64 x.f2, .int .i64 x.f3] 63 (0, 0)))
        have CB1_ := Aside0.mk (blk_alloc CB1.out (.cells #[.int .i64 x.f0, .int .i64 x.f1, .int .i64 x.f2, .int .i64 x.f3] 63 (0, 0)))
        have HB_ := Aside0.mk (below_alloc HB.out (.cells #[.int .i64 x.f0, .int .i64 x.f1, .int .i64 x.f2, .int .i64 x.f3] 63 (0, 0)))
        have HM_ := Aside0.mk (ownsMap_belowM HM.out (below_alloc (Below.refl _ _) (.cells #[.int .i64 x.f0, .int .i64 x.f1, .int .i64 x.f2, .int .i64 x.f3] 63 (0, 0))))
        have hg6m := HM.out.lt
        clear CB1 HB HM hx0 hx1 hx2 hx3 v10 v11 v12
        generalize wr.alloc (.cells #[.int .i64 x.f0, .int .i64 x.f1, .int .i64 x.f2, .int .i64 x.f3] 63 (0, 0)) = W2 at *
        generalize wr.heap.size = g6 at *
        have G6M := Aside0.mk hg6m
        clear hg6m
        have HB := HB_
        have CB1 := CB1_
        have HM := HM_
        clear HB_ CB1_ HM_
        have v10 : W2.cell? ⟨g1, 0, none⟩ = some (.slice (some ad) l0_0.length c0_0) := (blk_cell CB1.out 0).trans rfl
        have v11 : W2.cell? ⟨g1, 1, none⟩ = some (.int .i64 a0_1) := (blk_cell CB1.out 1).trans rfl
        have v12 : W2.cell? ⟨g1, 2, none⟩ = some (.int .i64 a0_2) := (blk_cell CB1.out 2).trans rfl
        have y0 : W2.cell? ⟨g6, 0, none⟩ = some (.int .i64 x.f0) := (blk_cell BX.out 0).trans rfl
        have y1 : W2.cell? ⟨g6, 1, none⟩ = some (.int .i64 x.f1) := (blk_cell BX.out 1).trans rfl
        have y2 : W2.cell? ⟨g6, 2, none⟩ = some (.int .i64 x.f2) := (blk_cell BX.out 2).trans rfl
        have y3 : W2.cell? ⟨g6, 3, none⟩ = some (.int .i64 x.f3) := (blk_cell BX.out 3).trans rfl
        by_cases d0 : x.f0 < 0
        ·have d0b : decide (x.f0 < 0) = true := decide_eq_true d0
         have hno : decide (FormedC l0_0 a0_1 a0_2) = false := formed_not cs (fun h => by unfold okC at h; rw [← HX.out] at h; have := h.1; omega)
         clear d0
         go_wp2
         go_ret
         obtain rfl : r = false := HRR.out.symm.trans hno
         exact ⟨rfl, HB.out⟩
        ·have d0b : decide (x.f0 < 0) = false := decide_eq_false d0
         have D0 := Aside0.mk d0
         clear d0
         by_cases d1 : a0_1 ≤ x.f0
         ·have d1b : decide (a0_1 ≤ x.f0) = true := decide_eq_true d1
          have hno : decide (FormedC l0_0 a0_1 a0_2) = false := formed_not cs (fun h => by unfold okC at h; rw [← HX.out] at h; have := h.2.1; omega)
          clear d1
          go_wp2
          go_ret
          obtain rfl : r = false := HRR.out.symm.trans hno
          exact ⟨rfl, HB.out⟩
         ·have d1b : decide (a0_1 ≤ x.f0) = false := decide_eq_false d1
          have D1 := Aside0.mk d1
          clear d1
          have hbd0 : -9223372036854775808 ≤ x.f0 := by have := D0.out; omega
          have hbd1 : x.f0 ≤ 9223372036854775807 := by have := D1.out; have := C2.out; omega
          by_cases d2 : ∃ j, j < i ∧ (rd_T63 l0_0 (j : Int)).f0 = x.f0
          ·have hlk := look_bool HM.out x.f0 hbd0 hbd1 true (by rw [HN.out.2, decide_eq_true d2])
           have hno : decide (FormedC l0_0 a0_1 a0_2) = false := formed_not cs (fun h => by unfold okC at h; rw [← HX.out] at h; obtain ⟨j, hj, h2⟩ := d2; exact h.2.2.1 j hj h2)
           clear d2 hbd0 hbd1
           go_wp2
           go_ret
           obtain rfl : r = false := HRR.out.symm.trans hno
           exact ⟨rfl, HB.out⟩
          ·have hlk := look_bool HM.out x.f0 hbd0 hbd1 false (by rw [HN.out.2, decide_eq_false d2])
           have D2 := Aside0.mk d2
           clear d2 hbd0 hbd1
           by_cases d3 : x.f1 ≤ E
           ·have d3b : decide (x.f1 ≤ E) = true := decide_eq_true d3
            have hno : decide (FormedC l0_0 a0_1 a0_2) = false := formed_not cs (fun h => by unfold okC at h; rw [← HX.out] at h; have := h.2.2.2.1; rw [← HEQ.out] at this; omega)
            clear d3
            go_wp2
            go_ret
            obtain rfl : r = false := HRR.out.symm.trans hno
            exact ⟨rfl, HB.out⟩
           ·have d3b : decide (x.f1 ≤ E) = false := decide_eq_false d3
            have D3 := Aside0.mk d3
            clear d3
            by_cases d4 : x.f2 < x.f1
            ·have d4b : decide (x.f2 < x.f1) = true := decide_eq_true d4
             have hno : decide (FormedC l0_0 a0_1 a0_2) = false := formed_not cs (fun h => by unfold okC at h; rw [← HX.out] at h; have := h.2.2.2.2.1; omega)
             clear d4
             go_wp2
             go_ret
             obtain rfl : r = false := HRR.out.symm.trans hno
             exact ⟨rfl, HB.out⟩
            ·have d4b : decide (x.f2 < x.f1) = false := decide_eq_false d4
             have D4 := Aside0.mk d4
             clear d4
             by_cases d5 : a0_2 ≤ x.f2
             ·have d5b : decide (a0_2 ≤ x.f2) = true := decide_eq_true d5
              have hno : decide (FormedC l0_0 a0_1 a0_2) = false := formed_not cs (fun h => by unfold okC at h; rw [← HX.out] at h; have := h.2.2.2.2.2.1; omega)
              clear d5
              go_wp2
              go_ret
              obtain rfl : r = false := HRR.out.symm.trans hno
              exact ⟨rfl, HB.out⟩
             ·have d5b : decide (a0_2 ≤ x.f2) = false := decide_eq_false d5
              have D5 := Aside0.mk d5
              clear d5
              by_cases d6 : x.f3 < 1
              ·have d6b : decide (x.f3 < 1) = true := decide_eq_true d6
               have hno : decide (FormedC l0_0 a0_1 a0_2) = false := formed_not cs (fun h => by unfold okC at h; rw [← HX.out] at h; have := h.2.2.2.2.2.2.1; omega)
               clear d6
               go_wp2
               go_ret
               obtain rfl : r = false := HRR.out.symm.trans hno
               exact ⟨rfl, HB.out⟩
              ·have d6b : decide (x.f3 < 1) = false := decide_eq_false d6
               have D6 := Aside0.mk d6
               clear d6
               have hsb : wrap64 (x.f2 - x.f1) = x.f2 - x.f1 := by have := HE.out; have := D3.out; have := D4.out; have := D5.out; have := C4.out; unfold wrap64; omega
               have had : wrap64 (x.f2 - x.f1 + 1) = x.f2 - x.f1 + 1 := by have := HE.out; have := D3.out; have := D4.out; have := D5.out; have := C4.out; unfold wrap64; omega
               by_cases hm : x.f2 - x.f1 + 1 < 4096
               ·have hmn := eq_true hm
                have HMN := Aside0.mk hm
                clear hm
                by_cases d7 : x.f2 - x.f1 + 1 < x.f3
                ·have d7b : decide (x.f2 - x.f1 + 1 < x.f3) = true := decide_eq_true d7
                 have hno : decide (FormedC l0_0 a0_1 a0_2) = false := formed_not cs (fun h => by unfold okC at h; rw [← HX.out] at h; have h8 := h.2.2.2.2.2.2.2.1; have h9 := h.2.2.2.2.2.2.2.2; omega)
                 clear d7
                 go_wp2
                 go_ret
                 obtain rfl : r = false := HRR.out.symm.trans hno
                 exact ⟨rfl, HB.out⟩
                ·have d7b : decide (x.f2 - x.f1 + 1 < x.f3) = false := decide_eq_false d7
                 have D7 : Aside0 (x.f3 ≤ 4096 ∧ x.f3 ≤ x.f2 - x.f1 + 1) := ⟨by have := HMN.out; omega⟩
                 clear d7
                 have hok : okC l0_0 a0_1 a0_2 i := by
                  unfold okC
                  rw [← HX.out, ← HEQ.out]
                  have := D0.out
                  have := D1.out
                  have := D3.out
                  have := D4.out
                  have := D5.out
                  have := D6.out
                  have D7a := D7.out.1
                  have D7b := D7.out.2
                  exact ⟨by omega, by omega, fun k hk h2 => D2.out ⟨k, hk, h2⟩, by omega, by omega, by omega, by omega, by omega, by omega⟩
                 have HOK2 := Aside0.mk hok
                 clear hok
                 go_wp2_with (at_mapUpdate; refine wpList_mapUpdate_own _ rfl _ _ _ 80 rfl 3 4 keyLaw3 Tryd.underlying80 (plainElem (H := Unit) Tryd.prog 4) gm i D rfl HM.out (by unfold maxLen; have := C0.out; omega) _ _ (.int .i64 x.f0) rfl rfl (Maps.keyOf_int_mk Tryd.underlying3 (i64_wfJ (by have := D0.out; omega) (by have := D1.out; have := C2.out; omega))) (.lit (.bool true)) [] (plainElem_bool Tryd.underlying4 true) ?_; intro w2 hown hgrow; have HM2 := Aside0.mk hown; have HG2 := Aside0.mk hgrow; clear hown hgrow; have y2 : w2.cell? ⟨g6, 2, none⟩ = some (.int .i64 x.f2) := (blk_cell (blk_grown BX.out HG2.out (fun e => by injection e with e; have := HM.out.lt; have := blk_lt BX.out; exact absurd e (fun h => by have := G6M.out; omega))) 2).trans rfl)
                 go_roundw
                 ·exact ⟨i + 1, _, by show Value.int .i64 x.f2 = .int .i64 (endC l0_0 (i + 1)); unfold endC; rw [if_neg (Nat.succ_ne_zero i), show i + 1 - 1 = i from rfl, ← HX.out], rfl, cs, HM2, ⟨by rw [HX.out]; exact NumOf.step HN.out⟩, ⟨fun j hj => by rcases Nat.lt_or_eq_of_le (Nat.lt_succ_iff.1 hj) with h3 | h3; exact HOK.out j h3; rw [h3]; exact HOK2.out⟩, ⟨blk_grown CB1.out HG2.out (fun e => by injection e with e; have := GM1.out; omega)⟩, ⟨HB.out.grown HG2.out HB.out.size (fun k hk => by injection hk with hk; subst hk; exact GMB.out)⟩⟩
                 ·show l0_0.length - (((i + 1 : Nat) : Int)).toNat < l0_0.length - (i : Int).toNat
                  omega
               ·have hmn := eq_false hm
                have HMN := Aside0.mk hm
                clear hm
                by_cases d7 : 4096 < x.f3
                ·have d7b : decide (4096 < x.f3) = true := decide_eq_true d7
                 have hno : decide (FormedC l0_0 a0_1 a0_2) = false := formed_not cs (fun h => by unfold okC at h; rw [← HX.out] at h; have h8 := h.2.2.2.2.2.2.2.1; have h9 := h.2.2.2.2.2.2.2.2; omega)
                 clear d7
                 go_wp2
                 go_ret
                 obtain rfl : r = false := HRR.out.symm.trans hno
                 exact ⟨rfl, HB.out⟩
                ·have d7b : decide (4096 < x.f3) = false := decide_eq_false d7
                 have D7 : Aside0 (x.f3 ≤ 4096 ∧ x.f3 ≤ x.f2 - x.f1 + 1) := ⟨by have := HMN.out; omega⟩
                 clear d7
                 have hok : okC l0_0 a0_1 a0_2 i := by
                  unfold okC
                  rw [← HX.out, ← HEQ.out]
                  have := D0.out
                  have := D1.out
                  have := D3.out
                  have := D4.out
                  have := D5.out
                  have := D6.out
                  have D7a := D7.out.1
                  have D7b := D7.out.2
                  exact ⟨by omega, by omega, fun k hk h2 => D2.out ⟨k, hk, h2⟩, by omega, by omega, by omega, by omega, by omega, by omega⟩
                 have HOK2 := Aside0.mk hok
                 clear hok
                 go_wp2_with (at_mapUpdate; refine wpList_mapUpdate_own _ rfl _ _ _ 80 rfl 3 4 keyLaw3 Tryd.underlying80 (plainElem (H := Unit) Tryd.prog 4) gm i D rfl HM.out (by unfold maxLen; have := C0.out; omega) _ _ (.int .i64 x.f0) rfl rfl (Maps.keyOf_int_mk Tryd.underlying3 (i64_wfJ (by have := D0.out; omega) (by have := D1.out; have := C2.out; omega))) (.lit (.bool true)) [] (plainElem_bool Tryd.underlying4 true) ?_; intro w2 hown hgrow; have HM2 := Aside0.mk hown; have HG2 := Aside0.mk hgrow; clear hown hgrow; have y2 : w2.cell? ⟨g6, 2, none⟩ = some (.int .i64 x.f2) := (blk_cell (blk_grown BX.out HG2.out (fun e => by injection e with e; have := HM.out.lt; have := blk_lt BX.out; exact absurd e (fun h => by have := G6M.out; omega))) 2).trans rfl)
                 go_roundw
                 ·exact ⟨i + 1, _, by show Value.int .i64 x.f2 = .int .i64 (endC l0_0 (i + 1)); unfold endC; rw [if_neg (Nat.succ_ne_zero i), show i + 1 - 1 = i from rfl, ← HX.out], rfl, cs, HM2, ⟨by rw [HX.out]; exact NumOf.step HN.out⟩, ⟨fun j hj => by rcases Nat.lt_or_eq_of_le (Nat.lt_succ_iff.1 hj) with h3 | h3; exact HOK.out j h3; rw [h3]; exact HOK2.out⟩, ⟨blk_grown CB1.out HG2.out (fun e => by injection e with e; have := GM1.out; omega)⟩, ⟨HB.out.grown HG2.out HB.out.size (fun k hk => by injection hk with hk; subst hk; exact GMB.out)⟩⟩
                 ·show l0_0.length - (((i + 1 : Nat) : Int)).toNat < l0_0.length - (i : Int).toNat
                  omega
       ·obtain rfl : i = l0_0.length := by omega
        have csd : decide ((l0_0.length : Int) < (l0_0.length : Int)) = false := decide_eq_false (Int.lt_irrefl _)
        have hyes : decide (FormedC l0_0 a0_1 a0_2) = true := decide_eq_true ⟨by have := C0.out; omega, by have := C1.out; omega, by have := C2.out; omega, by have := C3.out; omega, by have := C4.out; omega, HOK.out⟩
        go_wp2
        go_ret
        obtain rfl : r = true := HRR.out.symm.trans hyes
        exact ⟨rfl, HB.out⟩
end Go.Proofs.YtdcifmonhaklcaaDoor.A
