/- Walks by hand. -/
import Derived.Test.YtopjdjljpkcdlaaTdDx0
import Derived.Test.YtopjdjljpkcdlaaTdDx3
import Derived.Test.YtopjdjljpkcdlaaTdDx5
import Derived.Test.YtopjdjljpkcdlaaTdDx6
import Derived.Test.YtopjdjljpkcdlaaTdDx7
import Derived.Test.YtopjdjljpkcdlaaTdDx8
import Derived.Test.YtopjdjljpkcdlaaTdDx11
import Derived.Test.YtopjdjljpkcdlaaTdDx12
import Derived.Test.YtopjdjljpkcdlaaTdDx13
import Derived.Test.YtopjdjljpkcdlaaTdPlD
namespace Go.Proofs.Ytopjdjljpkcdlaa.D
open Go.RowKit Go.Proofs.YtopjdjljpkcdlaaW.PrintWords Go.Proofs.YtopjdjljpkcdlaaW.PrintLast Go.Proofs.YtopjdjljpkcdlaaW.PrintMore
attribute [local go_sem] max2_int min2_int max_two min_two -- for this text's walks alone
set_option linter.unusedVariables false
set_option linter.unusedSimpArgs false
attribute [local go_sem] gtr_str geq_str
def dragnetlaw16_StoreDoes.T3 : Bool × List (List Nat × List Nat) := (true, [([], []), ([0], [0]), ([], []), ([2], [2]), ([3, 1], [3]), ([], []), ([5, 1, 4, 0, 1, 5], [1, 5]), ([4, 6, 0, 1, 2, 3, 4, 5, 6], [4])])
def dragnetlaw16_StoreDoes.B3 : List Nat := [0, 1, 0, 4, 15, 0, 63, 127]
theorem dragnetlaw16_StoreDoes.tab3 : rtab .any (opsOf Try.f3 3) = dragnetlaw16_StoreDoes.T3 := by kernel_rfl
theorem dragnetlaw16_StoreDoes.bits3 : waitsOk dragnetlaw16_StoreDoes.T3.2 dragnetlaw16_StoreDoes.B3 = true := by kernel_rfl
structure LX (w W : World) (g2 g3 g5 : Nat) (d o e : Array Value) (Ao Ab : Option Addr) (l : List S61) (b : List Int) : Prop where
  B : Below w.heap.size w W
  c2 : W.heap[g2]? = some (.cells d 24 (0, 0))
  c3 : W.heap[g3]? = some (.cells o 27 (0, 0))
  c5 : W.heap[g5]? = some (.cells e 24 (0, 0))
  ho : Kd.C k61 W Ao l.length l
  hb : Kd.C (Kd.int .u8) W Ab b.length b
theorem LX.step {w W W1 : World} {g2 g3 g5 : Nat} {d o e : Array Value} {Ao Ab : Option Addr} {l : List S61} {b : List Int} (h : LX w W g2 g3 g5 d o e Ao Ab l b) (hb : Below W.heap.size W W1) : LX w W1 g2 g3 g5 d o e Ao Ab l b := ⟨below_step h.B hb, blk_below h.c2 hb, blk_below h.c3 hb, blk_below h.c5 hb, Kd.C_below h.ho hb, Kd.C_below h.hb hb⟩
theorem LX.vis {w W : World} {g2 g3 g5 : Nat} {d0 d1 o0 o1 o2 o3 e0 e1 : Value} {Ao Ab : Option Addr} {l : List S61} {b : List Int} (h : LX w W g2 g3 g5 #[d0, d1] #[o0, o1, o2, o3] #[e0, e1] Ao Ab l b) :
    W.cell? ⟨g2, 0, none⟩ = some d0 ∧ W.cell? ⟨g2, 1, none⟩ = some d1 ∧ W.cell? ⟨g3, 0, none⟩ = some o0 ∧ W.cell? ⟨g3, 1, none⟩ = some o1 ∧ W.cell? ⟨g3, 2, none⟩ = some o2 ∧ W.cell? ⟨g3, 3, none⟩ = some o3 ∧ W.cell? ⟨g5, 0, none⟩ = some e0 ∧ W.cell? ⟨g5, 1, none⟩ = some e1 :=
  ⟨(blk_cell h.c2 0).trans rfl, (blk_cell h.c2 1).trans rfl, (blk_cell h.c3 0).trans rfl, (blk_cell h.c3 1).trans rfl, (blk_cell h.c3 2).trans rfl, (blk_cell h.c3 3).trans rfl, (blk_cell h.c5 0).trans rfl, (blk_cell h.c5 1).trans rfl⟩
theorem vis24 {W : World} {g : Nat} {z0 z1 : Value} (h : W.heap[g]? = some (.cells #[z0, z1] 24 (0, 0))) : W.cell? ⟨g, 0, none⟩ = some z0 ∧ W.cell? ⟨g, 1, none⟩ = some z1 ∧ W.frozen? ⟨g, 0, none⟩ = false ∧ W.frozen? ⟨g, 1, none⟩ = false := ⟨(blk_cell h 0).trans rfl, (blk_cell h 1).trans rfl, blk_frozen h 0, blk_frozen h 1⟩
def dragnetlaw16_StoreDoes.f (a0_0 : Int) (l0_1 : List S61) (a1_0 : Int) (a1_1 : ByteArray) (a1_2 : ByteArray) (l1_3 : List Int) : Option Bool := if (l0_1.length < 2932031007401 ∧ ∀ x ∈ l0_1, x.f1.length ≤ 140737488351232) ∧ l1_3.length ≤ 140737488351232 then some true else none
set_option maxHeartbeats 8000000 in
set_option maxRecDepth 100000 in
theorem dragnetlaw16_StoreDoes.calls (a0_0 : Int) (A0_1 : Option Addr) (c0_1 : Nat) (l0_1 : List (S61)) (a1_0 : Int) (a1_1 : ByteArray) (a1_2 : ByteArray) (A1_3 : Option Addr) (c1_3 : Nat) (l1_3 : List Int) (r : Bool) (w : World) (hr0_1 : Kd.C k61 w A0_1 l0_1.length l0_1) (hc0_1 : l0_1.length ≤ c0_1) (hr1_3 : Kd.C (Kd.int .u8) w A1_3 l1_3.length l1_3) (hc1_3 : l1_3.length ≤ c1_3) (h : dragnetlaw16_StoreDoes.f a0_0 l0_1 a1_0 a1_1 a1_2 l1_3 = some r) :
    Calls Try.prog 3 #[.agg #[.int .i64 a0_0, .slice A0_1 l0_1.length c0_1], .agg #[.int .i64 a1_0, .string a1_1, .string a1_2, .slice A1_3 l1_3.length c1_3]] w fun e w' => e = .returned (.bool r) ∧ Below w.heap.size w w' := by
  have hu24 := Try.underlying24
  have hu27 := Try.underlying27
  have HR0_1 := Aside0.mk hr0_1
  have HC0_1 := Aside0.mk hc0_1
  clear hr0_1 hc0_1
  have HR1_3 := Aside0.mk hr1_3
  have HC1_3 := Aside0.mk hc1_3
  clear hr1_3 hc1_3
  have HB := Aside0.mk (Below.refl w.heap.size w)
  unfold dragnetlaw16_StoreDoes.f at h
  by_cases hb : (l0_1.length < 2932031007401 ∧ ∀ x ∈ l0_1, x.f1.length ≤ 140737488351232) ∧ l1_3.length ≤ 140737488351232
  case neg => rw [if_neg hb] at h; cases h
  rw [if_pos hb] at h
  obtain rfl := Option.some.inj h
  clear h
  obtain ⟨hs, hm⟩ := hb
  have hs : Far l0_1 := hs
  obtain ⟨k, hk⟩ : ∃ k, k = 3 * l0_1.length + 3 * 300 := ⟨_, rfl⟩
  obtain ⟨t205, t206, t209, hd⟩ : ∃ a b c, doR a0_0 l0_1 a1_0 a1_1 a1_2 l1_3 = (a, b, c) := ⟨_, _, _, rfl⟩
  obtain ⟨hd1, hd2⟩ := doR_ok hd
  have A3 := Aside0.mk (show dragnetlaw16_alive.f = some true from rfl)
  have A5 := Aside0.mk (show dragnetref16_Copy.f k a0_0 l0_1 = some (a0_0, l0_1) from at_rounds (fun k => dragnetref16_Copy.mono _ _ k) (by omega) (copy_plain a0_0 l0_1 hs.reach))
  have A6 := Aside0.mk (copy1 l1_3 hm)
  have A7 := Aside0.mk (show store_Do.f a0_0 l0_1 a1_0 a1_1 a1_2 l1_3 = some (t205, t206, t209) by unfold store_Do.f; rw [if_pos ⟨hs.reach.small, hm⟩, hd])
  have A8 := Aside0.mk (show dragnetref16_Do.f a0_0 l0_1 a1_0 a1_1 a1_2 l1_3 = some (t205, t206, t209) by unfold dragnetref16_Do.f; rw [if_pos ⟨hs, hm⟩, hd])
  have A9 := Aside0.mk (show dragnetref16_Same.f k t205 t206 t205 t206 = some true from at_rounds (fun k => dragnetref16_Same.mono _ _ _ _ k) (by omega) (same_plain t205 t206 (by omega)))
  have A15 := Aside0.mk (show dragnetref16_Same.f k a0_0 l0_1 a0_0 l0_1 = some true from at_rounds (fun k => dragnetref16_Same.mono _ _ _ _ k) (by omega) (same_plain a0_0 l0_1 hs.reach.1))
  have A17 := Aside0.mk (same1 l1_3)
  have HOK := Aside0.mk (show t209 = 0 → store_Formed.f k t205 t206 = some true from fun he => at_rounds (fun k => store_Formed.mono _ _ k) (show 3 * t206.length + 3 ≤ k by omega) (by rw [formed_plain t205 t206 (reach_of (hd2 he)).small.small, decide_eq_true (hd2 he)]))
  clear hs hm hk hd hd1 hd2
  go_enter Try.func3, Try.ntmps3
  go_wp2_with (first | ((with_reducible refine gate_dst (N := 2) rfl ?_); refine box_event ?hg (N := 2) ?hd (cs := #[.int .i64 a0_0, .slice A0_1 l0_1.length c0_1]) (t := 24) ?hr ?_; (case hd => rfl); (case hg => rfl); (case hr => first | (go_simp; done) | (go_simp; rfl)); intro gb194 hg w18 hbox hb; have n0_ := Aside0.mk (below_step (by repeat (first | (with_reducible first | exact HB.out | apply below_alloc | apply pw_below_drewN | apply below_drew1) | exact HB.out)) hb); have n1_ := Aside0.mk (hbox); have n2_ := Aside0.mk ((by rw [hg]; exact (below_size (by repeat (first | (with_reducible first | exact HB.out | apply below_alloc | apply pw_below_drewN | apply below_drew1) | exact HB.out))) : w.heap.size ≤ gb194)); have n3_ := Aside0.mk ((by rw [hg]; exact (below_size (by repeat (first | (with_reducible first | exact HB.out | apply below_alloc | apply pw_below_drewN | apply below_drew1) | exact HB.out))) : w.heap.size ≤ gb194)); clear HB; have HB := n0_; have BK194 := n1_; have GW194 := n2_; have GE194 := n3_; clear n0_ n1_ n2_ n3_; clear hb hbox hg) | ((with_reducible refine gate_dst (N := 3) rfl ?_); refine box_event ?hg (N := 3) ?hd (cs := #[.int .i64 a1_0, .string a1_1, .string a1_2, .slice A1_3 l1_3.length c1_3]) (t := 27) ?hr ?_; (case hd => rfl); (case hg => rfl); (case hr => first | (go_simp; done) | (go_simp; rfl)); intro gb195 hg w19 hbox hb; have n0_ := Aside0.mk (blk_below (g := gb194) (o := .cells #[.int .i64 a0_0, .slice A0_1 l0_1.length c0_1] 24 (0, 0)) (by (with_reducible repeat (first | refine blk_drewN ?_ _ | refine blk_drew ?_ | refine blk_alloc ?_ _)); exact BK194.out) hb); have n1_ := Aside0.mk (below_step (by repeat (first | (with_reducible first | exact HB.out | apply below_alloc | apply pw_below_drewN | apply below_drew1 | refine below_set ?_ GE194.out) | exact HB.out)) hb); have n2_ := Aside0.mk (hbox); have n3_ := Aside0.mk ((by rw [hg]; exact (below_size (by repeat (first | (with_reducible first | exact HB.out | apply below_alloc | apply pw_below_drewN | apply below_drew1 | refine below_set ?_ GE194.out) | exact HB.out))) : w.heap.size ≤ gb195)); have n4_ := Aside0.mk ((by rw [hg]; exact (below_size (by repeat (first | (with_reducible first | exact HB.out | apply below_alloc | apply pw_below_drewN | apply below_drew1 | refine below_set ?_ GE194.out) | exact HB.out))) : w.heap.size ≤ gb195)); have n5_ := Aside0.mk ((by rw [hg]; exact Nat.ne_of_lt (blk_lt (g := gb194) (o := .cells #[.int .i64 a0_0, .slice A0_1 l0_1.length c0_1] 24 (0, 0)) (by (with_reducible repeat (first | refine blk_drewN ?_ _ | refine blk_drew ?_ | refine blk_alloc ?_ _)); exact BK194.out)) : gb194 ≠ gb195)); have n6_ := Aside0.mk ((by rw [hg]; exact Nat.ne_of_gt (blk_lt (g := gb194) (o := .cells #[.int .i64 a0_0, .slice A0_1 l0_1.length c0_1] 24 (0, 0)) (by (with_reducible repeat (first | refine blk_drewN ?_ _ | refine blk_drew ?_ | refine blk_alloc ?_ _)); exact BK194.out)) : gb195 ≠ gb194)); clear BK194; clear HB; have BK194 := n0_; have HB := n1_; have BK195 := n2_; have GW195 := n3_; have GE195 := n4_; have NB194_195 := n5_; have NB195_194 := n6_; clear n0_ n1_ n2_ n3_ n4_ n5_ n6_; clear hb hbox hg) | ((with_reducible refine gate_callee (f := 9) rfl ?_); refine goesL_ (some 11) rfl rfl Try.func9 (by kernel_rfl) rfl #[] rfl (by (try simp only [List.map_toArray, List.map_cons, List.map_nil]); first | done | rfl | (simp only [List.length_drop, List.length_take]; rfl)) ?_; (with_reducible refine (dragnetlaw16_alive.calls  true _ A3.out).mono ?_); rintro e w20 ⟨rfl, hb⟩; refine ⟨_, rfl, ?_⟩; have n0_ := Aside0.mk (blk_below (g := gb194) (o := .cells #[.int .i64 a0_0, .slice A0_1 l0_1.length c0_1] 24 (0, 0)) (by (with_reducible repeat (first | refine blk_drewN ?_ _ | refine blk_drew ?_ | refine blk_alloc ?_ _)); exact BK194.out) hb); have n1_ := Aside0.mk (blk_below (g := gb195) (o := .cells #[.int .i64 a1_0, .string a1_1, .string a1_2, .slice A1_3 l1_3.length c1_3] 27 (0, 0)) (by (with_reducible repeat (first | refine blk_drewN ?_ _ | refine blk_drew ?_ | refine blk_alloc ?_ _)); exact BK195.out) hb); have n2_ := Aside0.mk (below_step (by repeat (first | (with_reducible first | exact HB.out | apply below_alloc | apply pw_below_drewN | apply below_drew1 | refine below_set ?_ GE194.out | refine below_set ?_ GE195.out) | exact HB.out)) hb); clear BK194; clear BK195; clear HB; have BK194 := n0_; have BK195 := n1_; have HB := n2_; clear n0_ n1_ n2_; (try clear hb); (try clear hb2); (try clear hk); (try clear hi)))
  have n0_ := Aside0.mk (blk_drew BK194.out)
  have n1_ := Aside0.mk (blk_drew BK195.out)
  have n2_ := Aside0.mk (below_drew1 HB.out)
  clear BK194
  clear BK195
  clear HB
  have BK194 := n0_
  have BK195 := n1_
  have HB := n2_
  clear n0_ n1_ n2_
  refine start_ (n := 8) (S := fun w' => w'.cell? ⟨gb194, 0, none⟩ = some (.int .i64 a0_0) ∧ w'.cell? ⟨gb194, 1, none⟩ = some (.slice A0_1 l0_1.length c0_1) ∧ w'.cell? ⟨gb195, 0, none⟩ = some (.int .i64 a1_0) ∧ w'.cell? ⟨gb195, 1, none⟩ = some (.string a1_1) ∧ w'.cell? ⟨gb195, 2, none⟩ = some (.string a1_2) ∧ w'.cell? ⟨gb195, 3, none⟩ = some (.slice A1_3 l1_3.length c1_3)) (ds := []) #[false, false, false, false, false, false, false, false] (by kernel_rfl) rfl rfl ⟨(blk_cell BK194.out 0).trans rfl, (blk_cell BK194.out 1).trans rfl, (blk_cell BK195.out 0).trans rfl, (blk_cell BK195.out 1).trans rfl, (blk_cell BK195.out 2).trans rfl, (blk_cell BK195.out 3).trans rfl⟩ (fun hHeld => ?_); refine with_tabW dragnetlaw16_StoreDoes.tab3 dragnetlaw16_StoreDoes.bits3 (fun HT_ HW_ => ?_)
  generalize w20.drew = w21 at BK194 BK195 HB hHeld ⊢
  refine pure_ (i := 2) (N := some 15) (v := ?_) (a' := ?_) #[false, false, true, false, false, false, false, false] rfl rfl (any_of HT_.out (by kernel_rfl)) (fun _ _ _ h => h) (Or.inl ⟨by rfl, ?_⟩) ?_ ?_
  rotate_left
  · intro w'
    go_simp
    with_reducible rfl
  rotate_left
  · simp only [Act.put, List.setIfInBounds_toArray, List.set_cons_zero, List.set_cons_succ, i64_w, i32_w]
    rfl
  refine take_ (i := 0) (N := some 13) (v := ?_) (a' := ?_) #[true, false, true, false, false, false, false, false] rfl rfl (take_ofW HT_.out HW_.out (by kernel_rfl)) (fun _ _ _ h => h) (Or.inl ⟨by rfl, ?_⟩) hHeld ?_ ?_
  rotate_left
  · rintro w' ⟨s0, s1, s2, s3, s4, s5⟩
    go_simp
    with_reducible rfl
  rotate_left
  · simp only [Act.put, List.setIfInBounds_toArray, List.set_cons_zero, List.set_cons_succ, i64_w, i32_w]
    rfl
  refine take_ (i := 3) (N := some 16) (v := ?_) (a' := ?_) #[true, false, true, true, false, false, false, false] rfl rfl (take_ofW HT_.out HW_.out (by kernel_rfl)) (fun _ _ _ h => h) (Or.inl ⟨by rfl, ?_⟩) hHeld ?_ ?_
  rotate_left
  · rintro w' ⟨s0, s1, s2, s3, s4, s5⟩
    go_simp
    with_reducible rfl
  rotate_left
  · simp only [Act.put, List.setIfInBounds_toArray, List.set_cons_zero, List.set_cons_succ, i64_w, i32_w]
    rfl
  refine join_ (σ := Value × Value × Nat) 2 #[true, true, true, true, true, true, false, false] (fun s_ => [(14, .agg #[.int .i64 a0_0, s_.1]), (17, s_.2.1), (5, .pointer (some ⟨s_.2.2, 0, none⟩))]) (fun s_ w' => (w'.cell? ⟨gb194, 0, none⟩ = some (.int .i64 a0_0) ∧ w'.cell? ⟨gb194, 1, none⟩ = some (.slice A0_1 l0_1.length c0_1) ∧ w'.cell? ⟨gb195, 0, none⟩ = some (.int .i64 a1_0) ∧ w'.cell? ⟨gb195, 1, none⟩ = some (.string a1_1) ∧ w'.cell? ⟨gb195, 2, none⟩ = some (.string a1_2) ∧ w'.cell? ⟨gb195, 3, none⟩ = some (.slice A1_3 l1_3.length c1_3)) ∧ (Kd.S k61 61 w' w.heap.size (fun k_ => some k_ ≠ (s_.2.1 : Value).ownBlock) s_.1 l0_1) ∧ (Kd.R (Kd.int .u8) 5 w' w.heap.size (fun _ => True) s_.2.1 l1_3) ∧ (w'.heap[gb194]? = some (.cells #[.int .i64 a0_0, .slice A0_1 l0_1.length c0_1] 24 (0, 0))) ∧ (w'.heap[gb195]? = some (.cells #[.int .i64 a1_0, .string a1_1, .string a1_2, .slice A1_3 l1_3.length c1_3] 27 (0, 0))) ∧ (w'.heap[s_.2.2]? = some (.cells #[.int .i64 0, .slice none 0 0] 24 (0, 0))) ∧ (w.heap.size ≤ s_.2.2) ∧ (w.heap.size ≤ s_.2.2) ∧ (gb194 ≠ s_.2.2) ∧ (s_.2.2 ≠ gb194) ∧ (gb195 ≠ s_.2.2) ∧ (s_.2.2 ≠ gb195) ∧ (Below w.heap.size w w')) ?_ ?_
  rotate_left
  · intro hCont
    refine two_ (i := 1) (j := 5) (Ni := some 14) (Nj := some 5) #[true, true, true, true, false, false, false, false] #[true, false, true, true, false, true, false, false] rfl rfl rfl rfl (two_of HT_.out (by kernel_rfl)) (by decide) (by decide) (fun K hK => ?_) (fun K hK => ?_)
    · skip
      refine goes_ Try.func10 (by kernel_rfl) rfl #[.agg #[.int .i64 a0_0, .slice A0_1 l0_1.length c0_1]] (by rfl) rfl rfl (by (try simp only [List.map_toArray, List.map_cons, List.map_nil]); first | done | rfl | (simp only [List.length_drop, List.length_take]; rfl)) ?_
      with_reducible refine (dragnetref16_Copy.calls k a0_0 _ _ l0_1 a0_0 l0_1 _ ?side1 ?side2 A5.out).mono ?_
      (case side1 => repeat (first | exact (Kd.C_below HR0_1.out HB.out) | (with_reducible refine Kd.C_alloc ?_ _) | (with_reducible refine Kd.C_drewN ?_ _) | (with_reducible refine Kd.C_drew ?_)))
      (case side2 => exact HC0_1.out)
      rintro e w22 ⟨v199, rfl, ho0, hb⟩
      refine ⟨_, rfl, ?_⟩
      have n0_ := Aside0.mk (Kd.S_lower ho0 (below_size (by repeat (first | (with_reducible first | exact HB.out | apply below_alloc | apply pw_below_drewN | apply below_drew1 | refine below_set ?_ GE194.out | refine below_set ?_ GE195.out) | exact HB.out))))
      have n1_ := Aside0.mk (blk_below (g := gb194) (o := .cells #[.int .i64 a0_0, .slice A0_1 l0_1.length c0_1] 24 (0, 0)) (by (with_reducible repeat (first | refine blk_drewN ?_ _ | refine blk_drew ?_ | refine blk_alloc ?_ _)); exact BK194.out) hb)
      have n2_ := Aside0.mk (blk_below (g := gb195) (o := .cells #[.int .i64 a1_0, .string a1_1, .string a1_2, .slice A1_3 l1_3.length c1_3] 27 (0, 0)) (by (with_reducible repeat (first | refine blk_drewN ?_ _ | refine blk_drew ?_ | refine blk_alloc ?_ _)); exact BK195.out) hb)
      have n3_ := Aside0.mk (below_step (by repeat (first | (with_reducible first | exact HB.out | apply below_alloc | apply pw_below_drewN | apply below_drew1 | refine below_set ?_ GE194.out | refine below_set ?_ GE195.out) | exact HB.out)) hb)
      clear BK194
      clear BK195
      clear HB
      have HO200 := n0_
      have BK194 := n1_
      have BK195 := n2_
      have HB := n3_
      clear n0_ n1_ n2_ n3_
      (try clear hb)
      (try clear hb2)
      (try clear hk)
      (try clear hi)
      (try clear ho0)
      refine hK.out _ _ ⟨(blk_cell BK194.out 0).trans rfl, (blk_cell BK194.out 1).trans rfl, (blk_cell BK195.out 0).trans rfl, (blk_cell BK195.out 1).trans rfl, (blk_cell BK195.out 2).trans rfl, (blk_cell BK195.out 3).trans rfl⟩ (fun hHeld => ?_)
      clear hK K
      refine norm_ (a' := ?_) ?_ ?_
      rotate_left
      · show Act.put _ (some 14) _ = _
        simp only [Act.put, List.setIfInBounds_toArray, List.set_cons_zero, List.set_cons_succ, i64_w, i32_w]
        rfl
      refine two_ (i := 4) (j := 5) (Ni := some 17) (Nj := some 5) #[true, true, true, true, true, false, false, false] #[true, true, true, true, false, true, false, false] rfl rfl rfl rfl (two_of HT_.out (by kernel_rfl)) (by decide) (by decide) (fun K hK => ?_) (fun K hK => ?_)
      · skip
        refine goes_ Try.func11 (by kernel_rfl) rfl #[.slice A1_3 l1_3.length c1_3] (by rfl) rfl rfl (by (try simp only [List.map_toArray, List.map_cons, List.map_nil]); first | done | rfl | (simp only [List.length_drop, List.length_take]; rfl)) ?_
        with_reducible refine (dragnetref01_Copy.calls _ _ l1_3 l1_3 _ ?side1 ?side2 A6.out).mono ?_
        (case side1 => repeat (first | exact (Kd.C_below HR1_3.out HB.out) | (with_reducible refine Kd.C_alloc ?_ _) | (with_reducible refine Kd.C_drewN ?_ _) | (with_reducible refine Kd.C_drew ?_)))
        (case side2 => exact HC1_3.out)
        rintro e w23 ⟨v202, rfl, ho0, hb⟩
        refine ⟨_, rfl, ?_⟩
        have n0_ := Aside0.mk (Kd.S_elder' (by (with_reducible repeat (first | apply Kd.S_alloc | apply Kd.S_drewN | apply Kd.S_drew)); exact HO200.out) (Kd.R_base ho0) hb)
        have n1_ := Aside0.mk (Kd.R_lower ho0 (below_size (by repeat (first | (with_reducible first | exact HB.out | apply below_alloc | apply pw_below_drewN | apply below_drew1 | refine below_set ?_ GE194.out | refine below_set ?_ GE195.out) | exact HB.out))))
        have n2_ := Aside0.mk (blk_below (g := gb194) (o := .cells #[.int .i64 a0_0, .slice A0_1 l0_1.length c0_1] 24 (0, 0)) (by (with_reducible repeat (first | refine blk_drewN ?_ _ | refine blk_drew ?_ | refine blk_alloc ?_ _)); exact BK194.out) hb)
        have n3_ := Aside0.mk (blk_below (g := gb195) (o := .cells #[.int .i64 a1_0, .string a1_1, .string a1_2, .slice A1_3 l1_3.length c1_3] 27 (0, 0)) (by (with_reducible repeat (first | refine blk_drewN ?_ _ | refine blk_drew ?_ | refine blk_alloc ?_ _)); exact BK195.out) hb)
        have n4_ := Aside0.mk (below_step (by repeat (first | (with_reducible first | exact HB.out | apply below_alloc | apply pw_below_drewN | apply below_drew1 | refine below_set ?_ GE194.out | refine below_set ?_ GE195.out) | exact HB.out)) hb)
        clear HO200
        clear BK194
        clear BK195
        clear HB
        have HO200 := n0_
        have HO203 := n1_
        have BK194 := n2_
        have BK195 := n3_
        have HB := n4_
        clear n0_ n1_ n2_ n3_ n4_
        (try clear hb)
        (try clear hb2)
        (try clear hk)
        (try clear hi)
        (try clear ho0)
        refine hK.out _ _ ⟨(blk_cell BK194.out 0).trans rfl, (blk_cell BK194.out 1).trans rfl, (blk_cell BK195.out 0).trans rfl, (blk_cell BK195.out 1).trans rfl, (blk_cell BK195.out 2).trans rfl, (blk_cell BK195.out 3).trans rfl⟩ (fun hHeld => ?_)
        clear hK K
        refine norm_ (a' := ?_) ?_ ?_
        rotate_left
        · show Act.put _ (some 17) _ = _
          simp only [Act.put, List.setIfInBounds_toArray, List.set_cons_zero, List.set_cons_succ, i64_w, i32_w]
          rfl
        refine one_ (i := 5) (N := some 5) #[true, true, true, true, true, true, false, false] rfl rfl (one_of HT_.out (by kernel_rfl)) (by decide) (fun K hK => ?_)
        refine box_step ?hg (N := 5) ?hd (cs := #[.int .i64 0, .slice none 0 0]) (t := 24) ?hr ?_; (case hd => rfl); (case hg => rfl); (case hr => first | (go_simp; done) | (go_simp; rfl))
        intro gb204 hg w24 hbox hb
        have n0_ := Aside0.mk (Kd.S_below (by (with_reducible repeat (first | apply Kd.S_alloc | apply Kd.S_drewN | apply Kd.S_drew)); exact HO200.out) hb)
        have n1_ := Aside0.mk (Kd.R_below (by (with_reducible repeat (first | apply Kd.R_alloc | apply Kd.R_drewN | apply Kd.R_drew)); exact HO203.out) hb)
        have n2_ := Aside0.mk (blk_below (g := gb194) (o := .cells #[.int .i64 a0_0, .slice A0_1 l0_1.length c0_1] 24 (0, 0)) (by (with_reducible repeat (first | refine blk_drewN ?_ _ | refine blk_drew ?_ | refine blk_alloc ?_ _)); exact BK194.out) hb)
        have n3_ := Aside0.mk (blk_below (g := gb195) (o := .cells #[.int .i64 a1_0, .string a1_1, .string a1_2, .slice A1_3 l1_3.length c1_3] 27 (0, 0)) (by (with_reducible repeat (first | refine blk_drewN ?_ _ | refine blk_drew ?_ | refine blk_alloc ?_ _)); exact BK195.out) hb)
        have n4_ := Aside0.mk (below_step (by repeat (first | (with_reducible first | exact HB.out | apply below_alloc | apply pw_below_drewN | apply below_drew1 | refine below_set ?_ GE194.out | refine below_set ?_ GE195.out) | exact HB.out)) hb)
        have n5_ := Aside0.mk (hbox)
        have n6_ := Aside0.mk ((by rw [hg]; exact (below_size (by repeat (first | (with_reducible first | exact HB.out | apply below_alloc | apply pw_below_drewN | apply below_drew1 | refine below_set ?_ GE194.out | refine below_set ?_ GE195.out) | exact HB.out))) : w.heap.size ≤ gb204))
        have n7_ := Aside0.mk ((by rw [hg]; exact (below_size (by repeat (first | (with_reducible first | exact HB.out | apply below_alloc | apply pw_below_drewN | apply below_drew1 | refine below_set ?_ GE194.out | refine below_set ?_ GE195.out) | exact HB.out))) : w.heap.size ≤ gb204))
        have n8_ := Aside0.mk ((by rw [hg]; exact Nat.ne_of_lt (blk_lt (g := gb194) (o := .cells #[.int .i64 a0_0, .slice A0_1 l0_1.length c0_1] 24 (0, 0)) (by (with_reducible repeat (first | refine blk_drewN ?_ _ | refine blk_drew ?_ | refine blk_alloc ?_ _)); exact BK194.out)) : gb194 ≠ gb204))
        have n9_ := Aside0.mk ((by rw [hg]; exact Nat.ne_of_gt (blk_lt (g := gb194) (o := .cells #[.int .i64 a0_0, .slice A0_1 l0_1.length c0_1] 24 (0, 0)) (by (with_reducible repeat (first | refine blk_drewN ?_ _ | refine blk_drew ?_ | refine blk_alloc ?_ _)); exact BK194.out)) : gb204 ≠ gb194))
        have n10_ := Aside0.mk ((by rw [hg]; exact Nat.ne_of_lt (blk_lt (g := gb195) (o := .cells #[.int .i64 a1_0, .string a1_1, .string a1_2, .slice A1_3 l1_3.length c1_3] 27 (0, 0)) (by (with_reducible repeat (first | refine blk_drewN ?_ _ | refine blk_drew ?_ | refine blk_alloc ?_ _)); exact BK195.out)) : gb195 ≠ gb204))
        have n11_ := Aside0.mk ((by rw [hg]; exact Nat.ne_of_gt (blk_lt (g := gb195) (o := .cells #[.int .i64 a1_0, .string a1_1, .string a1_2, .slice A1_3 l1_3.length c1_3] 27 (0, 0)) (by (with_reducible repeat (first | refine blk_drewN ?_ _ | refine blk_drew ?_ | refine blk_alloc ?_ _)); exact BK195.out)) : gb204 ≠ gb195))
        clear HO200
        clear HO203
        clear BK194
        clear BK195
        clear HB
        have HO200 := n0_
        have HO203 := n1_
        have BK194 := n2_
        have BK195 := n3_
        have HB := n4_
        have BK204 := n5_
        have GW204 := n6_
        have GE204 := n7_
        have NB194_204 := n8_
        have NB204_194 := n9_
        have NB195_204 := n10_
        have NB204_195 := n11_
        clear n0_ n1_ n2_ n3_ n4_ n5_ n6_ n7_ n8_ n9_ n10_ n11_
        clear hb hbox hg
        refine hK.out _ _ ⟨(blk_cell BK194.out 0).trans rfl, (blk_cell BK194.out 1).trans rfl, (blk_cell BK195.out 0).trans rfl, (blk_cell BK195.out 1).trans rfl, (blk_cell BK195.out 2).trans rfl, (blk_cell BK195.out 3).trans rfl⟩ (fun hHeld => ?_)
        clear hK K
        refine norm_ (a' := ?_) ?_ ?_
        rotate_left
        · show Act.put _ (some 5) _ = _
          simp only [Act.put, List.setIfInBounds_toArray, List.set_cons_zero, List.set_cons_succ, i64_w, i32_w]
          rfl
        exact norm_ (by simp only [putAll, Act.put, List.setIfInBounds_toArray, List.set_cons_zero, List.set_cons_succ]) (hCont (v199, v202, gb204) _ ⟨hHeld, (by (with_reducible repeat (first | apply Kd.S_alloc | apply Kd.S_drewN | apply Kd.S_drew)); exact Kd.S_mono HO200.out (fun _ hk => hk.2)), (by (with_reducible repeat (first | apply Kd.R_alloc | apply Kd.R_drewN | apply Kd.R_drew)); exact HO203.out), (by (with_reducible repeat (first | refine blk_drewN ?_ _ | refine blk_drew ?_ | refine blk_alloc ?_ _)); exact BK194.out), (by (with_reducible repeat (first | refine blk_drewN ?_ _ | refine blk_drew ?_ | refine blk_alloc ?_ _)); exact BK195.out), (by (with_reducible repeat (first | refine blk_drewN ?_ _ | refine blk_drew ?_ | refine blk_alloc ?_ _)); exact BK204.out), GW204.out, GE204.out, NB194_204.out, NB204_194.out, NB195_204.out, NB204_195.out, (by repeat (first | (with_reducible first | exact HB.out | apply below_alloc | apply pw_below_drewN | apply below_drew1 | refine below_set ?_ GE194.out | refine below_set ?_ GE195.out | refine below_set ?_ GE204.out) | exact HB.out))⟩)
      · skip
        refine box_step ?hg (N := 5) ?hd (cs := #[.int .i64 0, .slice none 0 0]) (t := 24) ?hr ?_; (case hd => rfl); (case hg => rfl); (case hr => first | (go_simp; done) | (go_simp; rfl))
        intro gb204 hg w23 hbox hb
        have n0_ := Aside0.mk (Kd.S_below (by (with_reducible repeat (first | apply Kd.S_alloc | apply Kd.S_drewN | apply Kd.S_drew)); exact HO200.out) hb)
        have n1_ := Aside0.mk (blk_below (g := gb194) (o := .cells #[.int .i64 a0_0, .slice A0_1 l0_1.length c0_1] 24 (0, 0)) (by (with_reducible repeat (first | refine blk_drewN ?_ _ | refine blk_drew ?_ | refine blk_alloc ?_ _)); exact BK194.out) hb)
        have n2_ := Aside0.mk (blk_below (g := gb195) (o := .cells #[.int .i64 a1_0, .string a1_1, .string a1_2, .slice A1_3 l1_3.length c1_3] 27 (0, 0)) (by (with_reducible repeat (first | refine blk_drewN ?_ _ | refine blk_drew ?_ | refine blk_alloc ?_ _)); exact BK195.out) hb)
        have n3_ := Aside0.mk (below_step (by repeat (first | (with_reducible first | exact HB.out | apply below_alloc | apply pw_below_drewN | apply below_drew1 | refine below_set ?_ GE194.out | refine below_set ?_ GE195.out) | exact HB.out)) hb)
        have n4_ := Aside0.mk (hbox)
        have n5_ := Aside0.mk ((by rw [hg]; exact (below_size (by repeat (first | (with_reducible first | exact HB.out | apply below_alloc | apply pw_below_drewN | apply below_drew1 | refine below_set ?_ GE194.out | refine below_set ?_ GE195.out) | exact HB.out))) : w.heap.size ≤ gb204))
        have n6_ := Aside0.mk ((by rw [hg]; exact (below_size (by repeat (first | (with_reducible first | exact HB.out | apply below_alloc | apply pw_below_drewN | apply below_drew1 | refine below_set ?_ GE194.out | refine below_set ?_ GE195.out) | exact HB.out))) : w.heap.size ≤ gb204))
        have n7_ := Aside0.mk ((by rw [hg]; exact Nat.ne_of_lt (blk_lt (g := gb194) (o := .cells #[.int .i64 a0_0, .slice A0_1 l0_1.length c0_1] 24 (0, 0)) (by (with_reducible repeat (first | refine blk_drewN ?_ _ | refine blk_drew ?_ | refine blk_alloc ?_ _)); exact BK194.out)) : gb194 ≠ gb204))
        have n8_ := Aside0.mk ((by rw [hg]; exact Nat.ne_of_gt (blk_lt (g := gb194) (o := .cells #[.int .i64 a0_0, .slice A0_1 l0_1.length c0_1] 24 (0, 0)) (by (with_reducible repeat (first | refine blk_drewN ?_ _ | refine blk_drew ?_ | refine blk_alloc ?_ _)); exact BK194.out)) : gb204 ≠ gb194))
        have n9_ := Aside0.mk ((by rw [hg]; exact Nat.ne_of_lt (blk_lt (g := gb195) (o := .cells #[.int .i64 a1_0, .string a1_1, .string a1_2, .slice A1_3 l1_3.length c1_3] 27 (0, 0)) (by (with_reducible repeat (first | refine blk_drewN ?_ _ | refine blk_drew ?_ | refine blk_alloc ?_ _)); exact BK195.out)) : gb195 ≠ gb204))
        have n10_ := Aside0.mk ((by rw [hg]; exact Nat.ne_of_gt (blk_lt (g := gb195) (o := .cells #[.int .i64 a1_0, .string a1_1, .string a1_2, .slice A1_3 l1_3.length c1_3] 27 (0, 0)) (by (with_reducible repeat (first | refine blk_drewN ?_ _ | refine blk_drew ?_ | refine blk_alloc ?_ _)); exact BK195.out)) : gb204 ≠ gb195))
        clear HO200
        clear BK194
        clear BK195
        clear HB
        have HO200 := n0_
        have BK194 := n1_
        have BK195 := n2_
        have HB := n3_
        have BK204 := n4_
        have GW204 := n5_
        have GE204 := n6_
        have NB194_204 := n7_
        have NB204_194 := n8_
        have NB195_204 := n9_
        have NB204_195 := n10_
        clear n0_ n1_ n2_ n3_ n4_ n5_ n6_ n7_ n8_ n9_ n10_
        clear hb hbox hg
        refine hK.out _ _ ⟨(blk_cell BK194.out 0).trans rfl, (blk_cell BK194.out 1).trans rfl, (blk_cell BK195.out 0).trans rfl, (blk_cell BK195.out 1).trans rfl, (blk_cell BK195.out 2).trans rfl, (blk_cell BK195.out 3).trans rfl⟩ (fun hHeld => ?_)
        clear hK K
        refine norm_ (a' := ?_) ?_ ?_
        rotate_left
        · show Act.put _ (some 5) _ = _
          simp only [Act.put, List.setIfInBounds_toArray, List.set_cons_zero, List.set_cons_succ, i64_w, i32_w]
          rfl
        refine one_ (i := 4) (N := some 17) #[true, true, true, true, true, true, false, false] rfl rfl (one_of HT_.out (by kernel_rfl)) (by decide) (fun K hK => ?_)
        refine goes_ Try.func11 (by kernel_rfl) rfl #[.slice A1_3 l1_3.length c1_3] (by rfl) rfl rfl (by (try simp only [List.map_toArray, List.map_cons, List.map_nil]); first | done | rfl | (simp only [List.length_drop, List.length_take]; rfl)) ?_
        with_reducible refine (dragnetref01_Copy.calls _ _ l1_3 l1_3 _ ?side1 ?side2 A6.out).mono ?_
        (case side1 => repeat (first | exact (Kd.C_below HR1_3.out HB.out) | (with_reducible refine Kd.C_alloc ?_ _) | (with_reducible refine Kd.C_drewN ?_ _) | (with_reducible refine Kd.C_drew ?_)))
        (case side2 => exact HC1_3.out)
        rintro e w24 ⟨v202, rfl, ho0, hb⟩
        refine ⟨_, rfl, ?_⟩
        have n0_ := Aside0.mk (Kd.S_elder' (by (with_reducible repeat (first | apply Kd.S_alloc | apply Kd.S_drewN | apply Kd.S_drew)); exact HO200.out) (Kd.R_base ho0) hb)
        have n1_ := Aside0.mk (Kd.R_lower ho0 (below_size (by repeat (first | (with_reducible first | exact HB.out | apply below_alloc | apply pw_below_drewN | apply below_drew1 | refine below_set ?_ GE194.out | refine below_set ?_ GE195.out | refine below_set ?_ GE204.out) | exact HB.out))))
        have n2_ := Aside0.mk (blk_below (g := gb194) (o := .cells #[.int .i64 a0_0, .slice A0_1 l0_1.length c0_1] 24 (0, 0)) (by (with_reducible repeat (first | refine blk_drewN ?_ _ | refine blk_drew ?_ | refine blk_alloc ?_ _)); exact BK194.out) hb)
        have n3_ := Aside0.mk (blk_below (g := gb195) (o := .cells #[.int .i64 a1_0, .string a1_1, .string a1_2, .slice A1_3 l1_3.length c1_3] 27 (0, 0)) (by (with_reducible repeat (first | refine blk_drewN ?_ _ | refine blk_drew ?_ | refine blk_alloc ?_ _)); exact BK195.out) hb)
        have n4_ := Aside0.mk (blk_below (g := gb204) (o := .cells #[.int .i64 0, .slice none 0 0] 24 (0, 0)) (by (with_reducible repeat (first | refine blk_drewN ?_ _ | refine blk_drew ?_ | refine blk_alloc ?_ _)); exact BK204.out) hb)
        have n5_ := Aside0.mk (below_step (by repeat (first | (with_reducible first | exact HB.out | apply below_alloc | apply pw_below_drewN | apply below_drew1 | refine below_set ?_ GE194.out | refine below_set ?_ GE195.out | refine below_set ?_ GE204.out) | exact HB.out)) hb)
        clear HO200
        clear BK194
        clear BK195
        clear BK204
        clear HB
        have HO200 := n0_
        have HO203 := n1_
        have BK194 := n2_
        have BK195 := n3_
        have BK204 := n4_
        have HB := n5_
        clear n0_ n1_ n2_ n3_ n4_ n5_
        (try clear hb)
        (try clear hb2)
        (try clear hk)
        (try clear hi)
        (try clear ho0)
        refine hK.out _ _ ⟨(blk_cell BK194.out 0).trans rfl, (blk_cell BK194.out 1).trans rfl, (blk_cell BK195.out 0).trans rfl, (blk_cell BK195.out 1).trans rfl, (blk_cell BK195.out 2).trans rfl, (blk_cell BK195.out 3).trans rfl⟩ (fun hHeld => ?_)
        clear hK K
        refine norm_ (a' := ?_) ?_ ?_
        rotate_left
        · show Act.put _ (some 17) _ = _
          simp only [Act.put, List.setIfInBounds_toArray, List.set_cons_zero, List.set_cons_succ, i64_w, i32_w]
          rfl
        exact norm_ (by simp only [putAll, Act.put, List.setIfInBounds_toArray, List.set_cons_zero, List.set_cons_succ]) (hCont (v199, v202, gb204) _ ⟨hHeld, (by (with_reducible repeat (first | apply Kd.S_alloc | apply Kd.S_drewN | apply Kd.S_drew)); exact Kd.S_mono HO200.out (fun _ hk => hk.2)), (by (with_reducible repeat (first | apply Kd.R_alloc | apply Kd.R_drewN | apply Kd.R_drew)); exact HO203.out), (by (with_reducible repeat (first | refine blk_drewN ?_ _ | refine blk_drew ?_ | refine blk_alloc ?_ _)); exact BK194.out), (by (with_reducible repeat (first | refine blk_drewN ?_ _ | refine blk_drew ?_ | refine blk_alloc ?_ _)); exact BK195.out), (by (with_reducible repeat (first | refine blk_drewN ?_ _ | refine blk_drew ?_ | refine blk_alloc ?_ _)); exact BK204.out), GW204.out, GE204.out, NB194_204.out, NB204_194.out, NB195_204.out, NB204_195.out, (by repeat (first | (with_reducible first | exact HB.out | apply below_alloc | apply pw_below_drewN | apply below_drew1 | refine below_set ?_ GE194.out | refine below_set ?_ GE195.out | refine below_set ?_ GE204.out) | exact HB.out))⟩)
    · skip
      refine box_step ?hg (N := 5) ?hd (cs := #[.int .i64 0, .slice none 0 0]) (t := 24) ?hr ?_; (case hd => rfl); (case hg => rfl); (case hr => first | (go_simp; done) | (go_simp; rfl))
      intro gb204 hg w22 hbox hb
      have n0_ := Aside0.mk (blk_below (g := gb194) (o := .cells #[.int .i64 a0_0, .slice A0_1 l0_1.length c0_1] 24 (0, 0)) (by (with_reducible repeat (first | refine blk_drewN ?_ _ | refine blk_drew ?_ | refine blk_alloc ?_ _)); exact BK194.out) hb)
      have n1_ := Aside0.mk (blk_below (g := gb195) (o := .cells #[.int .i64 a1_0, .string a1_1, .string a1_2, .slice A1_3 l1_3.length c1_3] 27 (0, 0)) (by (with_reducible repeat (first | refine blk_drewN ?_ _ | refine blk_drew ?_ | refine blk_alloc ?_ _)); exact BK195.out) hb)
      have n2_ := Aside0.mk (below_step (by repeat (first | (with_reducible first | exact HB.out | apply below_alloc | apply pw_below_drewN | apply below_drew1 | refine below_set ?_ GE194.out | refine below_set ?_ GE195.out) | exact HB.out)) hb)
      have n3_ := Aside0.mk (hbox)
      have n4_ := Aside0.mk ((by rw [hg]; exact (below_size (by repeat (first | (with_reducible first | exact HB.out | apply below_alloc | apply pw_below_drewN | apply below_drew1 | refine below_set ?_ GE194.out | refine below_set ?_ GE195.out) | exact HB.out))) : w.heap.size ≤ gb204))
      have n5_ := Aside0.mk ((by rw [hg]; exact (below_size (by repeat (first | (with_reducible first | exact HB.out | apply below_alloc | apply pw_below_drewN | apply below_drew1 | refine below_set ?_ GE194.out | refine below_set ?_ GE195.out) | exact HB.out))) : w.heap.size ≤ gb204))
      have n6_ := Aside0.mk ((by rw [hg]; exact Nat.ne_of_lt (blk_lt (g := gb194) (o := .cells #[.int .i64 a0_0, .slice A0_1 l0_1.length c0_1] 24 (0, 0)) (by (with_reducible repeat (first | refine blk_drewN ?_ _ | refine blk_drew ?_ | refine blk_alloc ?_ _)); exact BK194.out)) : gb194 ≠ gb204))
      have n7_ := Aside0.mk ((by rw [hg]; exact Nat.ne_of_gt (blk_lt (g := gb194) (o := .cells #[.int .i64 a0_0, .slice A0_1 l0_1.length c0_1] 24 (0, 0)) (by (with_reducible repeat (first | refine blk_drewN ?_ _ | refine blk_drew ?_ | refine blk_alloc ?_ _)); exact BK194.out)) : gb204 ≠ gb194))
      have n8_ := Aside0.mk ((by rw [hg]; exact Nat.ne_of_lt (blk_lt (g := gb195) (o := .cells #[.int .i64 a1_0, .string a1_1, .string a1_2, .slice A1_3 l1_3.length c1_3] 27 (0, 0)) (by (with_reducible repeat (first | refine blk_drewN ?_ _ | refine blk_drew ?_ | refine blk_alloc ?_ _)); exact BK195.out)) : gb195 ≠ gb204))
      have n9_ := Aside0.mk ((by rw [hg]; exact Nat.ne_of_gt (blk_lt (g := gb195) (o := .cells #[.int .i64 a1_0, .string a1_1, .string a1_2, .slice A1_3 l1_3.length c1_3] 27 (0, 0)) (by (with_reducible repeat (first | refine blk_drewN ?_ _ | refine blk_drew ?_ | refine blk_alloc ?_ _)); exact BK195.out)) : gb204 ≠ gb195))
      clear BK194
      clear BK195
      clear HB
      have BK194 := n0_
      have BK195 := n1_
      have HB := n2_
      have BK204 := n3_
      have GW204 := n4_
      have GE204 := n5_
      have NB194_204 := n6_
      have NB204_194 := n7_
      have NB195_204 := n8_
      have NB204_195 := n9_
      clear n0_ n1_ n2_ n3_ n4_ n5_ n6_ n7_ n8_ n9_
      clear hb hbox hg
      refine hK.out _ _ ⟨(blk_cell BK194.out 0).trans rfl, (blk_cell BK194.out 1).trans rfl, (blk_cell BK195.out 0).trans rfl, (blk_cell BK195.out 1).trans rfl, (blk_cell BK195.out 2).trans rfl, (blk_cell BK195.out 3).trans rfl⟩ (fun hHeld => ?_)
      clear hK K
      refine norm_ (a' := ?_) ?_ ?_
      rotate_left
      · show Act.put _ (some 5) _ = _
        simp only [Act.put, List.setIfInBounds_toArray, List.set_cons_zero, List.set_cons_succ, i64_w, i32_w]
        rfl
      refine one_ (i := 1) (N := some 14) #[true, true, true, true, false, true, false, false] rfl rfl (one_of HT_.out (by kernel_rfl)) (by decide) (fun K hK => ?_)
      refine goes_ Try.func10 (by kernel_rfl) rfl #[.agg #[.int .i64 a0_0, .slice A0_1 l0_1.length c0_1]] (by rfl) rfl rfl (by (try simp only [List.map_toArray, List.map_cons, List.map_nil]); first | done | rfl | (simp only [List.length_drop, List.length_take]; rfl)) ?_
      with_reducible refine (dragnetref16_Copy.calls k a0_0 _ _ l0_1 a0_0 l0_1 _ ?side1 ?side2 A5.out).mono ?_
      (case side1 => repeat (first | exact (Kd.C_below HR0_1.out HB.out) | (with_reducible refine Kd.C_alloc ?_ _) | (with_reducible refine Kd.C_drewN ?_ _) | (with_reducible refine Kd.C_drew ?_)))
      (case side2 => exact HC0_1.out)
      rintro e w23 ⟨v199, rfl, ho0, hb⟩
      refine ⟨_, rfl, ?_⟩
      have n0_ := Aside0.mk (Kd.S_lower ho0 (below_size (by repeat (first | (with_reducible first | exact HB.out | apply below_alloc | apply pw_below_drewN | apply below_drew1 | refine below_set ?_ GE194.out | refine below_set ?_ GE195.out | refine below_set ?_ GE204.out) | exact HB.out))))
      have n1_ := Aside0.mk (blk_below (g := gb194) (o := .cells #[.int .i64 a0_0, .slice A0_1 l0_1.length c0_1] 24 (0, 0)) (by (with_reducible repeat (first | refine blk_drewN ?_ _ | refine blk_drew ?_ | refine blk_alloc ?_ _)); exact BK194.out) hb)
      have n2_ := Aside0.mk (blk_below (g := gb195) (o := .cells #[.int .i64 a1_0, .string a1_1, .string a1_2, .slice A1_3 l1_3.length c1_3] 27 (0, 0)) (by (with_reducible repeat (first | refine blk_drewN ?_ _ | refine blk_drew ?_ | refine blk_alloc ?_ _)); exact BK195.out) hb)
      have n3_ := Aside0.mk (blk_below (g := gb204) (o := .cells #[.int .i64 0, .slice none 0 0] 24 (0, 0)) (by (with_reducible repeat (first | refine blk_drewN ?_ _ | refine blk_drew ?_ | refine blk_alloc ?_ _)); exact BK204.out) hb)
      have n4_ := Aside0.mk (below_step (by repeat (first | (with_reducible first | exact HB.out | apply below_alloc | apply pw_below_drewN | apply below_drew1 | refine below_set ?_ GE194.out | refine below_set ?_ GE195.out | refine below_set ?_ GE204.out) | exact HB.out)) hb)
      clear BK194
      clear BK195
      clear BK204
      clear HB
      have HO200 := n0_
      have BK194 := n1_
      have BK195 := n2_
      have BK204 := n3_
      have HB := n4_
      clear n0_ n1_ n2_ n3_ n4_
      (try clear hb)
      (try clear hb2)
      (try clear hk)
      (try clear hi)
      (try clear ho0)
      refine hK.out _ _ ⟨(blk_cell BK194.out 0).trans rfl, (blk_cell BK194.out 1).trans rfl, (blk_cell BK195.out 0).trans rfl, (blk_cell BK195.out 1).trans rfl, (blk_cell BK195.out 2).trans rfl, (blk_cell BK195.out 3).trans rfl⟩ (fun hHeld => ?_)
      clear hK K
      refine norm_ (a' := ?_) ?_ ?_
      rotate_left
      · show Act.put _ (some 14) _ = _
        simp only [Act.put, List.setIfInBounds_toArray, List.set_cons_zero, List.set_cons_succ, i64_w, i32_w]
        rfl
      refine one_ (i := 4) (N := some 17) #[true, true, true, true, true, true, false, false] rfl rfl (one_of HT_.out (by kernel_rfl)) (by decide) (fun K hK => ?_)
      refine goes_ Try.func11 (by kernel_rfl) rfl #[.slice A1_3 l1_3.length c1_3] (by rfl) rfl rfl (by (try simp only [List.map_toArray, List.map_cons, List.map_nil]); first | done | rfl | (simp only [List.length_drop, List.length_take]; rfl)) ?_
      with_reducible refine (dragnetref01_Copy.calls _ _ l1_3 l1_3 _ ?side1 ?side2 A6.out).mono ?_
      (case side1 => repeat (first | exact (Kd.C_below HR1_3.out HB.out) | (with_reducible refine Kd.C_alloc ?_ _) | (with_reducible refine Kd.C_drewN ?_ _) | (with_reducible refine Kd.C_drew ?_)))
      (case side2 => exact HC1_3.out)
      rintro e w24 ⟨v202, rfl, ho0, hb⟩
      refine ⟨_, rfl, ?_⟩
      have n0_ := Aside0.mk (Kd.S_elder' (by (with_reducible repeat (first | apply Kd.S_alloc | apply Kd.S_drewN | apply Kd.S_drew)); exact HO200.out) (Kd.R_base ho0) hb)
      have n1_ := Aside0.mk (Kd.R_lower ho0 (below_size (by repeat (first | (with_reducible first | exact HB.out | apply below_alloc | apply pw_below_drewN | apply below_drew1 | refine below_set ?_ GE194.out | refine below_set ?_ GE195.out | refine below_set ?_ GE204.out) | exact HB.out))))
      have n2_ := Aside0.mk (blk_below (g := gb194) (o := .cells #[.int .i64 a0_0, .slice A0_1 l0_1.length c0_1] 24 (0, 0)) (by (with_reducible repeat (first | refine blk_drewN ?_ _ | refine blk_drew ?_ | refine blk_alloc ?_ _)); exact BK194.out) hb)
      have n3_ := Aside0.mk (blk_below (g := gb195) (o := .cells #[.int .i64 a1_0, .string a1_1, .string a1_2, .slice A1_3 l1_3.length c1_3] 27 (0, 0)) (by (with_reducible repeat (first | refine blk_drewN ?_ _ | refine blk_drew ?_ | refine blk_alloc ?_ _)); exact BK195.out) hb)
      have n4_ := Aside0.mk (blk_below (g := gb204) (o := .cells #[.int .i64 0, .slice none 0 0] 24 (0, 0)) (by (with_reducible repeat (first | refine blk_drewN ?_ _ | refine blk_drew ?_ | refine blk_alloc ?_ _)); exact BK204.out) hb)
      have n5_ := Aside0.mk (below_step (by repeat (first | (with_reducible first | exact HB.out | apply below_alloc | apply pw_below_drewN | apply below_drew1 | refine below_set ?_ GE194.out | refine below_set ?_ GE195.out | refine below_set ?_ GE204.out) | exact HB.out)) hb)
      clear HO200
      clear BK194
      clear BK195
      clear BK204
      clear HB
      have HO200 := n0_
      have HO203 := n1_
      have BK194 := n2_
      have BK195 := n3_
      have BK204 := n4_
      have HB := n5_
      clear n0_ n1_ n2_ n3_ n4_ n5_
      (try clear hb)
      (try clear hb2)
      (try clear hk)
      (try clear hi)
      (try clear ho0)
      refine hK.out _ _ ⟨(blk_cell BK194.out 0).trans rfl, (blk_cell BK194.out 1).trans rfl, (blk_cell BK195.out 0).trans rfl, (blk_cell BK195.out 1).trans rfl, (blk_cell BK195.out 2).trans rfl, (blk_cell BK195.out 3).trans rfl⟩ (fun hHeld => ?_)
      clear hK K
      refine norm_ (a' := ?_) ?_ ?_
      rotate_left
      · show Act.put _ (some 17) _ = _
        simp only [Act.put, List.setIfInBounds_toArray, List.set_cons_zero, List.set_cons_succ, i64_w, i32_w]
        rfl
      exact norm_ (by simp only [putAll, Act.put, List.setIfInBounds_toArray, List.set_cons_zero, List.set_cons_succ]) (hCont (v199, v202, gb204) _ ⟨hHeld, (by (with_reducible repeat (first | apply Kd.S_alloc | apply Kd.S_drewN | apply Kd.S_drew)); exact Kd.S_mono HO200.out (fun _ hk => hk.2)), (by (with_reducible repeat (first | apply Kd.R_alloc | apply Kd.R_drewN | apply Kd.R_drew)); exact HO203.out), (by (with_reducible repeat (first | refine blk_drewN ?_ _ | refine blk_drew ?_ | refine blk_alloc ?_ _)); exact BK194.out), (by (with_reducible repeat (first | refine blk_drewN ?_ _ | refine blk_drew ?_ | refine blk_alloc ?_ _)); exact BK195.out), (by (with_reducible repeat (first | refine blk_drewN ?_ _ | refine blk_drew ?_ | refine blk_alloc ?_ _)); exact BK204.out), GW204.out, GE204.out, NB194_204.out, NB204_194.out, NB195_204.out, NB204_195.out, (by repeat (first | (with_reducible first | exact HB.out | apply below_alloc | apply pw_below_drewN | apply below_drew1 | refine below_set ?_ GE194.out | refine below_set ?_ GE195.out | refine below_set ?_ GE204.out) | exact HB.out))⟩)
  rintro ⟨v199, v202, gb204⟩ w25 ⟨hS_, h0_, h1_, h2_, h3_, h4_, h5_, h6_, h7_, h8_, h9_, h10_, h11_⟩
  have n0_ : Aside0 (Kd.S k61 61 w25 w.heap.size (fun k_ => some k_ ≠ (v202 : Value).ownBlock) v199 l0_1) := ⟨h0_⟩
  have n1_ : Aside0 (Kd.R (Kd.int .u8) 5 w25 w.heap.size (fun _ => True) v202 l1_3) := ⟨h1_⟩
  have n2_ : Aside0 (w25.heap[gb194]? = some (.cells #[.int .i64 a0_0, .slice A0_1 l0_1.length c0_1] 24 (0, 0))) := ⟨h2_⟩
  have n3_ : Aside0 (w25.heap[gb195]? = some (.cells #[.int .i64 a1_0, .string a1_1, .string a1_2, .slice A1_3 l1_3.length c1_3] 27 (0, 0))) := ⟨h3_⟩
  have n4_ : Aside0 (w25.heap[gb204]? = some (.cells #[.int .i64 0, .slice none 0 0] 24 (0, 0))) := ⟨h4_⟩
  have n5_ : Aside0 (w.heap.size ≤ gb204) := ⟨h5_⟩
  have n6_ : Aside0 (w.heap.size ≤ gb204) := ⟨h6_⟩
  have n7_ : Aside0 (gb194 ≠ gb204) := ⟨h7_⟩
  have n8_ : Aside0 (gb204 ≠ gb194) := ⟨h8_⟩
  have n9_ : Aside0 (gb195 ≠ gb204) := ⟨h9_⟩
  have n10_ : Aside0 (gb204 ≠ gb195) := ⟨h10_⟩
  have n11_ : Aside0 (Below w.heap.size w w25) := ⟨h11_⟩
  clear BK194
  clear BK195
  clear HB
  clear h0_ h1_ h2_ h3_ h4_ h5_ h6_ h7_ h8_ h9_ h10_ h11_
  have HO200 := n0_
  have HO203 := n1_
  have BK194 := n2_
  have BK195 := n3_
  have BK204 := n4_
  have GW204 := n5_
  have GE204 := n6_
  have NB194_204 := n7_
  have NB204_194 := n8_
  have NB195_204 := n9_
  have NB204_195 := n10_
  have HB := n11_
  clear n0_ n1_ n2_ n3_ n4_ n5_ n6_ n7_ n8_ n9_ n10_ n11_
  have hHeld : w25.cell? ⟨gb194, 0, none⟩ = some (.int .i64 a0_0) ∧ w25.cell? ⟨gb194, 1, none⟩ = some (.slice A0_1 l0_1.length c0_1) ∧ w25.cell? ⟨gb195, 0, none⟩ = some (.int .i64 a1_0) ∧ w25.cell? ⟨gb195, 1, none⟩ = some (.string a1_1) ∧ w25.cell? ⟨gb195, 2, none⟩ = some (.string a1_2) ∧ w25.cell? ⟨gb195, 3, none⟩ = some (.slice A1_3 l1_3.length c1_3) := hS_
  obtain ⟨Ao27, co27, eo27⟩ := Kd.S_slice HO200.out
  (first | subst eo27 | (injection eo27 with f1_ f2_ f3_; have f4_ := f1_.symm; have f5_ := f3_.symm; clear f1_ f2_ f3_; subst f4_; subst f5_))
  refine norm_ (a' := ?_) ?_ ?_
  rotate_left
  · simp only [putAll, Act.put, List.setIfInBounds_toArray, List.set_cons_zero, List.set_cons_succ]
    rfl
  refine one_ (i := 6) (N := none) #[true, true, true, true, true, true, true, false] rfl rfl (one_of HT_.out (by kernel_rfl)) (by decide) (fun K hK => ?_)
  have hs26 : w25.cell? ⟨gb204, 0, none⟩ = some (.int .i64 0) := (blk_cell BK204.out 0).trans rfl
  have hfs26 := blk_frozen BK204.out 0
  have hns26_0 := NB194_204.out
  have hns26_1 := NB195_204.out
  have hms26_0 := NB204_194.out
  have hms26_1 := NB204_195.out
  have hs28 : w25.cell? ⟨gb204, 1, none⟩ = some (.slice none 0 0) := (blk_cell BK204.out 1).trans rfl
  have hfs28 := blk_frozen BK204.out 1
  have hns28_0 := NB194_204.out
  have hns28_1 := NB195_204.out
  have hms28_0 := NB204_194.out
  have hms28_1 := NB204_195.out
  refine skip_ (w1 := ?_) (by rfl) rfl ?_ ?_
  rotate_left
  · go_simp
    rfl
  refine hK.out _ _ ⟨((cell_far (p := ⟨gb204, _, none⟩) NB194_204.out _).trans (((cell_far (p := ⟨gb204, _, none⟩) NB194_204.out _).trans (hHeld.1)))), ((cell_far (p := ⟨gb204, _, none⟩) NB194_204.out _).trans (((cell_far (p := ⟨gb204, _, none⟩) NB194_204.out _).trans (hHeld.2.1)))), ((cell_far (p := ⟨gb204, _, none⟩) NB195_204.out _).trans (((cell_far (p := ⟨gb204, _, none⟩) NB195_204.out _).trans (hHeld.2.2.1)))), ((cell_far (p := ⟨gb204, _, none⟩) NB195_204.out _).trans (((cell_far (p := ⟨gb204, _, none⟩) NB195_204.out _).trans (hHeld.2.2.2.1)))), ((cell_far (p := ⟨gb204, _, none⟩) NB195_204.out _).trans (((cell_far (p := ⟨gb204, _, none⟩) NB195_204.out _).trans (hHeld.2.2.2.2.1)))), ((cell_far (p := ⟨gb204, _, none⟩) NB195_204.out _).trans (((cell_far (p := ⟨gb204, _, none⟩) NB195_204.out _).trans (hHeld.2.2.2.2.2))))⟩ (fun hHeld => ?_)
  clear hK K
  refine pure_ (i := 7) (N := some 6) (v := ?_) (a' := ?_) #[true, true, true, true, true, true, true, true] rfl rfl (any_of HT_.out (by kernel_rfl)) (fun _ _ _ h => h) (Or.inl ⟨by rfl, ?_⟩) ?_ ?_
  rotate_left
  · intro w'
    go_simp
    with_reducible rfl
  rotate_left
  · simp only [Act.put, List.setIfInBounds_toArray, List.set_cons_zero, List.set_cons_succ, i64_w, i32_w]
    rfl
  refine done_ (done_of HT_.out (by kernel_rfl)) ?_
  obtain ⟨Ao34, co34, eo34⟩ := Kd.R_slice HO203.out
  subst eo34
  have HX_ : Aside0 (LX w ((w25.setCell ⟨gb204, 0, none⟩ (.int .i64 a0_0)).setCell ⟨gb204, 1, none⟩ (.slice Ao27 l0_1.length co27)) gb194 gb195 gb204 #[.int .i64 a0_0, .slice A0_1 l0_1.length c0_1] #[.int .i64 a1_0, .string a1_1, .string a1_2, .slice A1_3 l1_3.length c1_3] #[.int .i64 a0_0, .slice Ao27 l0_1.length co27] Ao27 Ao34 l0_1 l1_3) := ⟨⟨below_set (below_set HB.out GE204.out) GE204.out, blk_far (blk_far BK194.out NB194_204.out _) NB194_204.out _, blk_far (blk_far BK195.out NB195_204.out _) NB195_204.out _, blk_put (cs := #[.int .i64 a0_0, .slice none 0 0]) (blk_put (cs := #[.int .i64 0, .slice none 0 0]) BK204.out 0 _ rfl) 1 _ rfl, (Kd.S_reads' (Kd.S_far (p := ⟨gb204, 1, none⟩) (Kd.S_far (p := ⟨gb204, 0, none⟩) (Kd.S_types HO200.out BK204.out (by decide)) (fun _ hk => hk.2) (.int .i64 a0_0)) (fun _ hk => hk.2) (.slice Ao27 l0_1.length co27))).2.2, (Kd.R_reads' (Kd.R_far (p := ⟨gb204, 1, none⟩) (Kd.R_far (p := ⟨gb204, 0, none⟩) (Kd.R_types HO203.out BK204.out (by decide)) (fun _ hk => hk.2) (.int .i64 a0_0)) (fun _ hk => hk.2) (.slice Ao27 l0_1.length co27))).2.2⟩⟩
  have HLO := Aside0.mk (Kd.S_reads' HO200.out).2.1
  have HLB := Aside0.mk (Kd.R_reads' HO203.out).2.1
  clear HB BK194 BK195 BK204 HO200 HO203 hHeld hs26 hfs26 hns26_0 hns26_1 hms26_0 hms26_1 hs28 hfs28 hns28_0 hns28_1 hms28_0 hms28_1
  generalize (w25.setCell ⟨gb204, 0, none⟩ (.int .i64 a0_0)).setCell ⟨gb204, 1, none⟩ (.slice Ao27 l0_1.length co27) = W5 at *
  have HX := HX_
  clear HX_
  obtain ⟨v20, v21, v30, v31, v32, v33, v50, v51⟩ := HX.out.vis
  go_upto_region 5 with (first
    | (go_at_call 12; (with_reducible refine (store_Do.calls a0_0 Ao27 co27 l0_1 a1_0 a1_1 a1_2 Ao34 co34 l1_3 t205 t206 t209 _ HX.out.ho HLO.out HX.out.hb HLB.out A7.out).mono ?_); rintro e w36 ⟨v36, rfl, hV, hb⟩; obtain ⟨Ax, cx, rfl⟩ := Kd.V_slice hV; have HCX := Aside0.mk (Kd.V_reads' hV).2.2; have HLX := Aside0.mk (Kd.V_reads' hV).2.1; have HX_ := Aside0.mk (HX.out.step hb); clear hV HX hb v20 v21 v30 v31 v32 v33 v50 v51; have HX := HX_; clear HX_; obtain ⟨v20, v21, v30, v31, v32, v33, v50, v51⟩ := HX.out.vis)
    | ((with_reducible refine gate_dst (N := 7) rfl ?_); refine box_event ?hg (N := 7) ?hd (cs := #[.int .i64 0, .slice none 0 0]) (t := 24) ?hr ?_; (case hd => rfl); (case hg => rfl); (case hr => first | (go_simp; done) | (go_simp; rfl)); intro g7 hg7 w37 hbox hb; have CB7 := Aside0.mk hbox; have HG := Aside0.mk hg7; have HA := Aside0.mk hb; clear hbox hg7 hb; obtain ⟨v70, v71, f70, f71⟩ := vis24 CB7.out))
  have HBx := Aside0.mk (below_set (g := g7) (j := 1) (v := .slice Ax t206.length cx) (below_set (g := g7) (j := 0) (v := .int .i64 t205) HA.out (Nat.le_of_eq HG.out.symm)) (Nat.le_of_eq HG.out.symm))
  have HX_ := Aside0.mk (HX.out.step HBx.out)
  have CB7_ := Aside0.mk (blk_put (cs := #[.int .i64 t205, .slice none 0 0]) (blk_put (cs := #[.int .i64 0, .slice none 0 0]) CB7.out 0 (.int .i64 t205) rfl) 1 (.slice Ax t206.length cx) rfl)
  have HCX_ := Aside0.mk (Kd.C_below HCX.out HBx.out)
  clear HX CB7 HCX HA HG HBx v20 v21 v30 v31 v32 v33 v50 v51 v70 v71 f70 f71
  generalize ((w37).setCell ⟨g7, 0, none⟩ (.int .i64 t205)).setCell ⟨g7, 1, none⟩ (.slice Ax t206.length cx) = W6 at *
  have HX := HX_
  have CB7 := CB7_
  have HCX := HCX_
  clear HX_ CB7_ HCX_
  obtain ⟨v20, v21, v30, v31, v32, v33, v50, v51⟩ := HX.out.vis
  go_upto_region 6 with (first
    | (go_at_call 13; (with_reducible refine (dragnetref16_Do.calls a0_0 A0_1 c0_1 l0_1 a1_0 a1_1 a1_2 A1_3 c1_3 l1_3 t205 t206 t209 _ (Kd.C_below HR0_1.out HX.out.B) HC0_1.out (Kd.C_below HR1_3.out HX.out.B) HC1_3.out A8.out).mono ?_); rintro e w46 ⟨v46, rfl, hV, hb⟩; obtain ⟨Ay, cy, rfl⟩ := Kd.V_slice hV; have HCY := Aside0.mk (Kd.V_reads' hV).2.2; have HLY := Aside0.mk (Kd.V_reads' hV).2.1; have HX_ := Aside0.mk (HX.out.step hb); have CB7_ := Aside0.mk (blk_below CB7.out hb); have HCX_ := Aside0.mk (Kd.C_below HCX.out hb); clear hV HX CB7 HCX hb v20 v21 v30 v31 v32 v33 v50 v51; have HX := HX_; have CB7 := CB7_; have HCX := HCX_; clear HX_ CB7_ HCX_; obtain ⟨v20, v21, v30, v31, v32, v33, v50, v51⟩ := HX.out.vis)
    | ((with_reducible refine gate_dst (N := 9) rfl ?_); refine box_event ?hg (N := 9) ?hd (cs := #[.int .i64 0, .slice none 0 0]) (t := 24) ?hr ?_; (case hd => rfl); (case hg => rfl); (case hr => first | (go_simp; done) | (go_simp; rfl)); intro g9 hg9 w47 hbox hb; have CB9 := Aside0.mk hbox; have HG := Aside0.mk hg9; have HA := Aside0.mk hb; clear hbox hg9 hb; obtain ⟨v90, v91, f90, f91⟩ := vis24 CB9.out))
  have HBx := Aside0.mk (below_set (g := g9) (j := 1) (v := .slice Ay t206.length cy) (below_set (g := g9) (j := 0) (v := .int .i64 t205) HA.out (Nat.le_of_eq HG.out.symm)) (Nat.le_of_eq HG.out.symm))
  have HX_ := Aside0.mk (HX.out.step HBx.out)
  have CB9_ := Aside0.mk (blk_put (cs := #[.int .i64 t205, .slice none 0 0]) (blk_put (cs := #[.int .i64 0, .slice none 0 0]) CB9.out 0 (.int .i64 t205) rfl) 1 (.slice Ay t206.length cy) rfl)
  have HCX_ := Aside0.mk (Kd.C_below HCX.out HBx.out)
  have HCY_ := Aside0.mk (Kd.C_below HCY.out HBx.out)
  have CB7_ := Aside0.mk (blk_below CB7.out HBx.out)
  clear HX CB7 CB9 HCX HCY HA HG HBx v20 v21 v30 v31 v32 v33 v50 v51 v90 v91 f90 f91
  generalize ((w47).setCell ⟨g9, 0, none⟩ (.int .i64 t205)).setCell ⟨g9, 1, none⟩ (.slice Ay t206.length cy) = W7 at *
  have HX := HX_
  have CB7 := CB7_
  have CB9 := CB9_
  have HCX := HCX_
  have HCY := HCY_
  clear HX_ CB7_ CB9_ HCX_ HCY_
  obtain ⟨v20, v21, v30, v31, v32, v33, v50, v51⟩ := HX.out.vis
  obtain ⟨v70, v71, f70, f71⟩ := vis24 CB7.out
  obtain ⟨v90, v91, f90, f91⟩ := vis24 CB9.out
  have hee : (t209 == t209) = true := beq_self_eq_true t209
  by_cases c12 : t209 = 0
  · have A12 := Aside0.mk (HOK.out c12)
    have c12b0 : (t209 == 0) = true := beq_iff_eq.mpr c12
    have c12b1 : (t209 != 0) = false := bne_eq_false_iff_eq.mpr c12
    clear c12
    go_wp2_with (first
      | (go_at_call 14; (with_reducible refine (dragnetref16_Same.calls k t205 Ax cx t206 t205 Ay cy t206 true _ HCX.out HLX.out HCY.out HLY.out A9.out).mono ?_); rintro e w50 ⟨rfl, hb⟩; have HX_ := Aside0.mk (HX.out.step hb); have CB7_ := Aside0.mk (blk_below CB7.out hb); have CB9_ := Aside0.mk (blk_below CB9.out hb); have HCX_ := Aside0.mk (Kd.C_below HCX.out hb); have HCY_ := Aside0.mk (Kd.C_below HCY.out hb); clear HX CB7 CB9 HCX HCY hb v20 v21 v30 v31 v32 v33 v50 v51 v70 v71 f70 f71 v90 v91 f90 f91; have HX := HX_; have CB7 := CB7_; have CB9 := CB9_; have HCX := HCX_; have HCY := HCY_; clear HX_ CB7_ CB9_ HCX_ HCY_; obtain ⟨v20, v21, v30, v31, v32, v33, v50, v51⟩ := HX.out.vis; obtain ⟨v70, v71, f70, f71⟩ := vis24 CB7.out; obtain ⟨v90, v91, f90, f91⟩ := vis24 CB9.out)
      | (go_at_call 15; (with_reducible refine (store_Formed.calls k t205 Ax cx t206 true _ HCX.out HLX.out A12.out).mono ?_); rintro e w51 ⟨rfl, hb⟩; have HX_ := Aside0.mk (HX.out.step hb); have CB7_ := Aside0.mk (blk_below CB7.out hb); have CB9_ := Aside0.mk (blk_below CB9.out hb); have HCX_ := Aside0.mk (Kd.C_below HCX.out hb); have HCY_ := Aside0.mk (Kd.C_below HCY.out hb); clear HX CB7 CB9 HCX HCY hb v20 v21 v30 v31 v32 v33 v50 v51 v70 v71 f70 f71 v90 v91 f90 f91; have HX := HX_; have CB7 := CB7_; have CB9 := CB9_; have HCX := HCX_; have HCY := HCY_; clear HX_ CB7_ CB9_ HCX_ HCY_; obtain ⟨v20, v21, v30, v31, v32, v33, v50, v51⟩ := HX.out.vis; obtain ⟨v70, v71, f70, f71⟩ := vis24 CB7.out; obtain ⟨v90, v91, f90, f91⟩ := vis24 CB9.out)
      | (go_at_call 14; (with_reducible refine (dragnetref16_Same.calls k a0_0 Ao27 co27 l0_1 a0_0 A0_1 c0_1 l0_1 true _ HX.out.ho HLO.out (Kd.C_below HR0_1.out HX.out.B) HC0_1.out A15.out).mono ?_); rintro e w52 ⟨rfl, hb⟩; have HX_ := Aside0.mk (HX.out.step hb); have CB7_ := Aside0.mk (blk_below CB7.out hb); have CB9_ := Aside0.mk (blk_below CB9.out hb); have HCX_ := Aside0.mk (Kd.C_below HCX.out hb); have HCY_ := Aside0.mk (Kd.C_below HCY.out hb); clear HX CB7 CB9 HCX HCY hb v20 v21 v30 v31 v32 v33 v50 v51 v70 v71 f70 f71 v90 v91 f90 f91; have HX := HX_; have CB7 := CB7_; have CB9 := CB9_; have HCX := HCX_; have HCY := HCY_; clear HX_ CB7_ CB9_ HCX_ HCY_; obtain ⟨v20, v21, v30, v31, v32, v33, v50, v51⟩ := HX.out.vis; obtain ⟨v70, v71, f70, f71⟩ := vis24 CB7.out; obtain ⟨v90, v91, f90, f91⟩ := vis24 CB9.out)
      | (go_at_call 16; (with_reducible refine (dragnetref01_Same.calls Ao34 co34 l1_3 A1_3 c1_3 l1_3 true _ HX.out.hb HLB.out (Kd.C_below HR1_3.out HX.out.B) HC1_3.out A17.out).mono ?_); rintro e w53 ⟨rfl, hd⟩; have hb := Drawn0.below hd; clear hd; have HX_ := Aside0.mk (HX.out.step hb); have CB7_ := Aside0.mk (blk_below CB7.out hb); have CB9_ := Aside0.mk (blk_below CB9.out hb); have HCX_ := Aside0.mk (Kd.C_below HCX.out hb); have HCY_ := Aside0.mk (Kd.C_below HCY.out hb); clear HX CB7 CB9 HCX HCY hb v20 v21 v30 v31 v32 v33 v50 v51 v70 v71 f70 f71 v90 v91 f90 f91; have HX := HX_; have CB7 := CB7_; have CB9 := CB9_; have HCX := HCX_; have HCY := HCY_; clear HX_ CB7_ CB9_ HCX_ HCY_; obtain ⟨v20, v21, v30, v31, v32, v33, v50, v51⟩ := HX.out.vis; obtain ⟨v70, v71, f70, f71⟩ := vis24 CB7.out; obtain ⟨v90, v91, f90, f91⟩ := vis24 CB9.out))
    go_ret
    exact ⟨rfl, HX.out.B⟩
  · have c12b0 : (t209 == 0) = false := beq_eq_false_iff_ne.mpr c12
    have c12b1 : (t209 != 0) = true := bne_iff_ne.mpr c12
    clear c12
    go_wp2_with (first
      | (go_at_call 14; (with_reducible refine (dragnetref16_Same.calls k t205 Ax cx t206 t205 Ay cy t206 true _ HCX.out HLX.out HCY.out HLY.out A9.out).mono ?_); rintro e w50 ⟨rfl, hb⟩; have HX_ := Aside0.mk (HX.out.step hb); have CB7_ := Aside0.mk (blk_below CB7.out hb); have CB9_ := Aside0.mk (blk_below CB9.out hb); have HCX_ := Aside0.mk (Kd.C_below HCX.out hb); have HCY_ := Aside0.mk (Kd.C_below HCY.out hb); clear HX CB7 CB9 HCX HCY hb v20 v21 v30 v31 v32 v33 v50 v51 v70 v71 f70 f71 v90 v91 f90 f91; have HX := HX_; have CB7 := CB7_; have CB9 := CB9_; have HCX := HCX_; have HCY := HCY_; clear HX_ CB7_ CB9_ HCX_ HCY_; obtain ⟨v20, v21, v30, v31, v32, v33, v50, v51⟩ := HX.out.vis; obtain ⟨v70, v71, f70, f71⟩ := vis24 CB7.out; obtain ⟨v90, v91, f90, f91⟩ := vis24 CB9.out)
      | (go_at_call 14; (with_reducible refine (dragnetref16_Same.calls k a0_0 Ao27 co27 l0_1 a0_0 A0_1 c0_1 l0_1 true _ HX.out.ho HLO.out (Kd.C_below HR0_1.out HX.out.B) HC0_1.out A15.out).mono ?_); rintro e w52 ⟨rfl, hb⟩; have HX_ := Aside0.mk (HX.out.step hb); have CB7_ := Aside0.mk (blk_below CB7.out hb); have CB9_ := Aside0.mk (blk_below CB9.out hb); have HCX_ := Aside0.mk (Kd.C_below HCX.out hb); have HCY_ := Aside0.mk (Kd.C_below HCY.out hb); clear HX CB7 CB9 HCX HCY hb v20 v21 v30 v31 v32 v33 v50 v51 v70 v71 f70 f71 v90 v91 f90 f91; have HX := HX_; have CB7 := CB7_; have CB9 := CB9_; have HCX := HCX_; have HCY := HCY_; clear HX_ CB7_ CB9_ HCX_ HCY_; obtain ⟨v20, v21, v30, v31, v32, v33, v50, v51⟩ := HX.out.vis; obtain ⟨v70, v71, f70, f71⟩ := vis24 CB7.out; obtain ⟨v90, v91, f90, f91⟩ := vis24 CB9.out)
      | (go_at_call 16; (with_reducible refine (dragnetref01_Same.calls Ao34 co34 l1_3 A1_3 c1_3 l1_3 true _ HX.out.hb HLB.out (Kd.C_below HR1_3.out HX.out.B) HC1_3.out A17.out).mono ?_); rintro e w53 ⟨rfl, hd⟩; have hb := Drawn0.below hd; clear hd; have HX_ := Aside0.mk (HX.out.step hb); have CB7_ := Aside0.mk (blk_below CB7.out hb); have CB9_ := Aside0.mk (blk_below CB9.out hb); have HCX_ := Aside0.mk (Kd.C_below HCX.out hb); have HCY_ := Aside0.mk (Kd.C_below HCY.out hb); clear HX CB7 CB9 HCX HCY hb v20 v21 v30 v31 v32 v33 v50 v51 v70 v71 f70 f71 v90 v91 f90 f91; have HX := HX_; have CB7 := CB7_; have CB9 := CB9_; have HCX := HCX_; have HCY := HCY_; clear HX_ CB7_ CB9_ HCX_ HCY_; obtain ⟨v20, v21, v30, v31, v32, v33, v50, v51⟩ := HX.out.vis; obtain ⟨v70, v71, f70, f71⟩ := vis24 CB7.out; obtain ⟨v90, v91, f90, f91⟩ := vis24 CB9.out))
    go_ret
    exact ⟨rfl, HX.out.B⟩
def QF (x : S61) : Prop := x.f0.size ≤ 140737488351232 ∧ (x.f1.length * Try.prog.bytesOf 5 ≤ 140737488351232 ∧ ∀ u ∈ x.f1, (Lit.int .u8 u).wf = true) ∧ (Lit.int .i64 x.f2).wf = true
def QD (room : Int) (l : List S61) : Prop := (Lit.int .i64 room).wf = true ∧ (l.length * Try.prog.bytesOf 61 ≤ 140737488351232 ∧ ∀ x ∈ l, QF x)
def QO (x : Int) (y z : ByteArray) (b : List Int) : Prop := (Lit.int .i64 x).wf = true ∧ y.size ≤ 140737488351232 ∧ z.size ≤ 140737488351232 ∧ (b.length * Try.prog.bytesOf 5 ≤ 140737488351232 ∧ ∀ u ∈ b, (Lit.int .u8 u).wf = true)
theorem bytes61 : Try.prog.bytesOf 61 = 48 := by kernel_rfl
theorem bytes5 : Try.prog.bytesOf 5 = 1 := by kernel_rfl
theorem law_q (a0_0 : Int) (l0_1 : List S61) (a1_0 : Int) (a1_1 a1_2 : ByteArray) (l1_3 : List Int) (hq0 : QD a0_0 l0_1) (hq1 : QO a1_0 a1_1 a1_2 l1_3) : dragnetlaw16_StoreDoes.f a0_0 l0_1 a1_0 a1_1 a1_2 l1_3 = some true := by
  obtain ⟨_, h1, h2⟩ := hq0
  obtain ⟨_, _, _, h3, _⟩ := hq1
  rw [bytes61] at h1
  rw [bytes5] at h3
  have h4 : ∀ x ∈ l0_1, x.f1.length ≤ 140737488351232 := fun x hx => by
    have h5 := (h2 x hx).2.1.1
    rw [bytes5] at h5
    omega
  unfold dragnetlaw16_StoreDoes.f
  exact if_pos ⟨⟨by omega, h4⟩, by omega⟩
end Go.Proofs.Ytopjdjljpkcdlaa.D
