/- Walks: each Go function told here comes to what the plain function beside it says, wherever that one answers. -/
import Derived.Test.YtdcifmonhaklcaaDoorTaAx0
import Derived.Test.YtdcifmonhaklcaaDoorTaAx8
import Derived.Test.YtdcifmonhaklcaaDoorTaAx11
import Derived.Test.YtdcifmonhaklcaaDoorTaAx12
import Derived.Test.YtdcifmonhaklcaaDoorTaAx13
import Derived.Test.YtdcifmonhaklcaaDoorTaAx14
namespace Go.Proofs.YtdcifmonhaklcaaDoor.A
open Go.RowKit YtdcifmonhaklcaaDoorW.PrintWords YtdcifmonhaklcaaDoorW.PrintLast YtdcifmonhaklcaaDoorW.PrintMore
attribute [local go_sem] max2_int min2_int max_two min_two
set_option linter.unusedVariables false
set_option linter.unusedSimpArgs false
def KeepsOK (l : List S97) : Prop := l.length ≤ 140737488351232 ∧ ∀ x ∈ l, x.f0.size ≤ 140737488351232 ∧ -9223372036854775808 ≤ x.f1 ∧ x.f1 ≤ 9223372036854775807
instance (l : List S97) : Decidable (KeepsOK l) := by unfold KeepsOK; exact inferInstance
def lastN (l : List S97) : Nat → ByteArray → Int
 | 0, _ => 0
 | s + 1, q => if (rd_T97 l (s : Int)).f0 = q then (rd_T97 l (s : Int)).f1 else lastN l s q
def leftOf (keeps : List S97) (x : S84) : Int := min (max 0 (lastN keeps keeps.length x.f0)) ((x.f1.length : Int) - x.f2) + x.f2
def crashF (keeps : List S97) (x : S84) : S84 := ⟨x.f0, x.f1.take (leftOf keeps x).toNat, leftOf keeps x⟩
def store_Crash.f (a0_0 : Int) (l0_1 : List S84) (l1 : List S97) : Option (Int × List S84 × Int) := if SmallD l0_1 ∧ KeepsOK l1 then some (if FormedR a0_0 l0_1 then (a0_0, l0_1.map (crashF l1), 0) else (0, [], 1)) else none
open Go.Maps
theorem keyLaw9 : Keyed Tryd.prog 9 := string_keyed Tryd.underlying9
theorem zeroI3 (w : World) : (zeroValue 3).run Tryd.prog w = .ok (.int .i64 0) w := by kernel_rfl
theorem i64_wfI {q : Int} (h0 : -9223372036854775808 ≤ q) (h1 : q ≤ 9223372036854775807) : (Lit.int .i64 q).wf = true := by
 simp [Lit.wf, IntKind.min, IntKind.max, IntKind.signed, IntKind.bits]
 omega
def MapOf (D : DataW Unit) (l : List S97) (s : Nat) : Prop :=
 IsMap D ∧ ∀ q : ByteArray, D.atKey (.string q.data.toList) (.lit (.int .i64 0)) = .lit (.int .i64 (lastN l s q))
theorem MapOf.start (l : List S97) : MapOf (.map []) l 0 := ⟨isMap_empty, fun q => rfl⟩
theorem MapOf.step {D : DataW Unit} {l : List S97} {s : Nat} (h : MapOf D l s) : MapOf (D.put (.string (rd_T97 l (s : Int)).f0.data.toList) (.lit (.int .i64 (rd_T97 l (s : Int)).f1))) l (s + 1) := by
 refine ⟨h.1.put _ _, fun q => ?_⟩
 rw [lastN]
 by_cases hq : (rd_T97 l (s : Int)).f0 = q
 ·subst hq
  rw [if_pos rfl]
  exact atKey_put_same h.1 (show WideAt.IsKeyLit (.string _) from trivial) _ _
 ·rw [if_neg hq]
  have hne : (Lit.string q.data.toList) ≠ .string (rd_T97 l (s : Int)).f0.data.toList := by
   intro e
   injection e with e
   apply hq
   cases hx : (rd_T97 l (s : Int)).f0
   cases hy : q
   rw [hx, hy] at e
   congr 1
   exact Array.toList_inj.1 e.symm
  rw [atKey_put_other hne]
  exact h.2 q
theorem ownsMap_Kept {P : Program} {k : TypeId} {R : Value → Option (DataW Unit × List MemPlace)} {W W' : World} {b n : Nat} {D : DataW Unit} {S : Nat → Prop} (h : W.ownsMap P k R b n D) (hk : Kept W W' S) (hn : ¬ S b) : W'.ownsMap P k R b n D := by
 have hlt := h.lt
 obtain ⟨es, clock, hb, r⟩ := h
 exact ⟨es, clock, (hk.2 b hlt hn).trans hb, r⟩
theorem ownsMap_below {P : Program} {k : TypeId} {R : Value → Option (DataW Unit × List MemPlace)} {W W' : World} {b n : Nat} {D : DataW Unit} (h : W.ownsMap P k R b n D) (hk : Below W.heap.size W W') : W'.ownsMap P k R b n D :=
 ownsMap_Kept h (Kept.of_below hk (fun _ => False)) (fun h => h)
theorem keep_wf {l : List S97} (h : KeepsOK l) {s : Nat} (hs : s < l.length) : (rd_T97 l (s : Int)).f0.size ≤ 140737488351232 ∧ -9223372036854775808 ≤ (rd_T97 l (s : Int)).f1 ∧ (rd_T97 l (s : Int)).f1 ≤ 9223372036854775807 := by
 have := h.2 (rd_T97 l (s : Int)) (by unfold rd_T97; rw [Int.toNat_natCast, List.getD_eq_getElem?_getD, List.getElem?_eq_getElem hs]; exact List.getElem_mem hs)
 exact this
def mixL (keeps : List S97) (l : List S84) (i : Nat) : List S84 := (l.map (crashF keeps)).take i ++ l.drop i
theorem mixL_zero (keeps : List S97) (l : List S84) : mixL keeps l 0 = l := by simp [mixL]
theorem mixL_all (keeps : List S97) (l : List S84) : mixL keeps l l.length = l.map (crashF keeps) := by
 unfold mixL
 rw [List.take_of_length_le (by rw [List.length_map]; exact Nat.le_refl _), List.drop_length, List.append_nil]
theorem mixL_length (keeps : List S97) (l : List S84) (i : Nat) : (mixL keeps l i).length = l.length := by
 unfold mixL
 rw [List.length_append, List.length_take, List.length_map, List.length_drop]
 omega
theorem mixL_at (keeps : List S97) (l : List S84) (i : Nat) (z : S84) (hi : i < l.length) : (mixL keeps l i).getD i z = l.getD i z := by
 unfold mixL
 have h1 : ((l.map (crashF keeps)).take i).length = i := by rw [List.length_take, List.length_map]; omega
 rw [List.getD_eq_getElem?_getD, List.getElem?_append_right (by omega), h1, Nat.sub_self, List.getElem?_drop, Nat.add_zero, List.getD_eq_getElem?_getD]
theorem mixL_set (keeps : List S97) (l : List S84) (i : Nat) (z : S84) (hi : i < l.length) : (mixL keeps l i).set i (crashF keeps (l.getD i z)) = mixL keeps l (i + 1) := by
 refine List.ext_getElem? fun j => ?_
 unfold mixL
 have h1 : ((l.map (crashF keeps)).take i).length = i := by rw [List.length_take, List.length_map]; omega
 have h2 : ((l.map (crashF keeps)).take (i + 1)).length = i + 1 := by rw [List.length_take, List.length_map]; omega
 rw [List.getElem?_set]
 by_cases hj : i = j
 ·subst hj
  rw [if_pos rfl, if_pos (by rw [List.length_append, h1, List.length_drop]; omega), List.getElem?_append_left (by omega), List.getElem?_take, if_pos (by omega), List.getElem?_map, List.getElem?_eq_getElem hi, List.getD_eq_getElem?_getD, List.getElem?_eq_getElem hi]
  rfl
 ·rw [if_neg hj]
  rcases Nat.lt_or_ge j i with h | h
  ·rw [List.getElem?_append_left (by omega), List.getElem?_append_left (by omega), List.getElem?_take, List.getElem?_take, if_pos h, if_pos (by omega)]
  ·rw [List.getElem?_append_right (by omega), List.getElem?_append_right (by omega), h1, h2, List.getElem?_drop, List.getElem?_drop]
   congr 1
   omega
set_option maxHeartbeats 4000000 in
set_option maxRecDepth 100000 in
theorem crash_bad (a0_0 : Int) (A0_1 : Option Addr) (c0_1 : Nat) (l0_1 : List S84) (A1 : Option Addr) (c1 : Nat) (l1 : List S97) (r1 : Int) (r2 : List S84) (r3 : Int) (w : World) (hr0_1 : Kd.C k84 w A0_1 l0_1.length l0_1) (hc0_1 : l0_1.length ≤ c0_1) (hr1 : Kd.C k97 w A1 l1.length l1) (hc1 : l1.length ≤ c1) (hs : SmallD l0_1) (hf : ¬ FormedR a0_0 l0_1) (he : (0, [], 1) = (r1, r2, r3)) :
  Calls Tryd.prog 31 #[.agg #[.int .i64 a0_0, .slice A0_1 l0_1.length c0_1], .slice A1 l1.length c1] w fun e w' => ∃ v1_ : Value, e = .returned (.tuple #[.agg #[.int .i64 r1, v1_], .int .i64 r3]) ∧ Kd.V k84 84 w' w.heap.size (fun k_ => w.heap.size ≤ k_) v1_ r2 ∧ Below w.heap.size w w' := by
 have HR := Aside0.mk hr0_1
 have HC := Aside0.mk hc0_1
 have HR1 := Aside0.mk hr1
 have HC1 := Aside0.mk hc1
 have HB := Aside0.mk (Below.refl w.heap.size w)
 clear hr0_1 hc0_1 hr1 hc1
 have hu24 := Tryd.underlying50
 have hu59 := Tryd.underlying97
 have hu61 := Tryd.underlying84
 have HF := Aside0.mk (show store_Formed.f (3 * l0_1.length + 3) a0_0 l0_1 = some false by rw [formed_plain a0_0 l0_1 hs.small, decide_eq_false hf])
 clear hs hf
 injection he with he1 he2
 injection he2 with he2 he3
 subst he1
 subst he2
 subst he3
 go_enter Tryd.func31, Tryd.ntmps31
 go_wp2_with (first
  | ((with_reducible refine gate_dst (N := 2) rfl ?_); refine box_event ?hg (N := 2) ?hd (cs := #[.int .i64 a0_0, .slice A0_1 l0_1.length c0_1]) (t := 50) ?hr ?_; (case hd => rfl); (case hg => rfl); (case hr => first | (go_simp; done) | (go_simp; rfl)); intro g2 hg2 w2 hbox hb; have HB2 := Aside0.mk (below_step HB.out hb); have CB2 := Aside0.mk hbox; have G2 := Aside0.mk (show w.heap.size ≤ g2 by rw [hg2]; exact below_size HB.out); clear hb hbox hg2 HB; have HB := HB2; clear HB2)
  | ((with_reducible refine gate_dst (N := 4) rfl ?_); refine box_event ?hg (N := 4) ?hd (cs := #[.int .i64 0, .slice none 0 0]) (t := 50) ?hr ?_; (case hd => rfl); (case hg => rfl); (case hr => first | (go_simp; done) | (go_simp; rfl)); intro g4 hg4 w4 hbox hb; have HB4 := Aside0.mk (below_step HB.out hb); have CB4 := Aside0.mk hbox; have G4 := Aside0.mk (show w.heap.size ≤ g4 by rw [hg4]; exact below_size HB.out); have G24 := Aside0.mk (show g2 < g4 by rw [hg4]; exact blk_lt CB2.out); have CB2_ := Aside0.mk (blk_below CB2.out hb); clear hb hbox hg4 HB CB2; have HB := HB4; have CB2 := CB2_; clear HB4 CB2_; have v20 : w4.cell? ⟨g2, 0, none⟩ = some (.int .i64 a0_0) := (blk_cell CB2.out 0).trans rfl; have v21 : w4.cell? ⟨g2, 1, none⟩ = some (.slice A0_1 l0_1.length c0_1) := (blk_cell CB2.out 1).trans rfl; have v40 : w4.cell? ⟨g4, 0, none⟩ = some (.int .i64 0) := (blk_cell CB4.out 0).trans rfl; have v41 : w4.cell? ⟨g4, 1, none⟩ = some (.slice none 0 0) := (blk_cell CB4.out 1).trans rfl; have f40 := blk_frozen CB4.out 0; have f41 := blk_frozen CB4.out 1)
  | (go_at_call 48; (with_reducible refine (store_Formed.calls _ a0_0 A0_1 c0_1 l0_1 false _ (Kd.C_below HR.out HB.out) HC.out HF.out).mono ?_); rintro e w5 ⟨rfl, hb⟩; have HB_ := Aside0.mk (below_step HB.out hb); have CB2_ := Aside0.mk (blk_below CB2.out hb); have CB4_ := Aside0.mk (blk_below CB4.out hb); clear HB CB2 CB4 hb v20 v21 v40 v41 f40 f41; have HB := HB_; have CB2 := CB2_; have CB4 := CB4_; clear HB_ CB2_ CB4_; have v20 : w5.cell? ⟨g2, 0, none⟩ = some (.int .i64 a0_0) := (blk_cell CB2.out 0).trans rfl; have v21 : w5.cell? ⟨g2, 1, none⟩ = some (.slice A0_1 l0_1.length c0_1) := (blk_cell CB2.out 1).trans rfl; have v40 : w5.cell? ⟨g4, 0, none⟩ = some (.int .i64 0) := (blk_cell CB4.out 0).trans rfl; have v41 : w5.cell? ⟨g4, 1, none⟩ = some (.slice none 0 0) := (blk_cell CB4.out 1).trans rfl; have f40 := blk_frozen CB4.out 0; have f41 := blk_frozen CB4.out 1))
 refine bodyPost_ret (results_ct rfl _ _ g4 50 #[.int .i64 0, .slice none 0 0] (0, 0) _ rfl (blk_put (cs := #[.int .i64 0, .slice none 0 0]) (blk_put (cs := #[.int .i64 0, .slice none 0 0]) CB4.out 0 _ rfl) 1 _ rfl) Tryd.underlying50 rfl (by kernel_rfl)) rfl ?_
 exact ⟨_, rfl, Kd.V_nil _ _ _ _ _, below_set (below_set HB.out G4.out) G4.out⟩
set_option maxHeartbeats 4000000 in
set_option maxRecDepth 100000 in
theorem crash_good (a0_0 : Int) (A0_1 : Option Addr) (c0_1 : Nat) (l0_1 : List S84) (A1 : Option Addr) (c1 : Nat) (l1 : List S97) (r1 : Int) (r2 : List S84) (r3 : Int) (w : World) (hr0_1 : Kd.C k84 w A0_1 l0_1.length l0_1) (hc0_1 : l0_1.length ≤ c0_1) (hr1 : Kd.C k97 w A1 l1.length l1) (hc1 : l1.length ≤ c1) (hs : SmallD l0_1) (hk : KeepsOK l1) (hf : FormedR a0_0 l0_1) (he : (a0_0, l0_1.map (crashF l1), 0) = (r1, r2, r3)) :
  Calls Tryd.prog 31 #[.agg #[.int .i64 a0_0, .slice A0_1 l0_1.length c0_1], .slice A1 l1.length c1] w fun e w' => ∃ v1_ : Value, e = .returned (.tuple #[.agg #[.int .i64 r1, v1_], .int .i64 r3]) ∧ Kd.V k84 84 w' w.heap.size (fun k_ => w.heap.size ≤ k_) v1_ r2 ∧ Below w.heap.size w w' := by
 have HR := Aside0.mk hr0_1
 have HC := Aside0.mk hc0_1
 have HR1 := Aside0.mk hr1
 have HC1 := Aside0.mk hc1
 have HB := Aside0.mk (Below.refl w.heap.size w)
 clear hr0_1 hc0_1 hr1 hc1
 have hu24 := Tryd.underlying50
 have hu59 := Tryd.underlying97
 have hu61 := Tryd.underlying84
 have HF := Aside0.mk (show store_Formed.f (3 * l0_1.length + 3) a0_0 l0_1 = some true by rw [formed_plain a0_0 l0_1 hs.small, decide_eq_true hf])
 have HTW := Aside0.mk (show store_twin.f a0_0 l0_1 = some (a0_0, l0_1) by unfold store_twin.f; rw [if_pos ⟨by have := hf.2.2.2.1; omega, fun x hx => by have := hs.2 x hx; omega⟩])
 have HFM := Aside0.mk hf
 have HK := Aside0.mk hk
 clear hs hf hk
 injection he with he1 he2
 injection he2 with he2 he3
 subst he1
 subst he2
 subst he3
 have hmm := @run_makeMap Tryd.prog
 go_enter Tryd.func31, Tryd.ntmps31
 go_upto_region 4 with (first
  | ((with_reducible refine gate_dst (N := 2) rfl ?_); refine box_event ?hg (N := 2) ?hd (cs := #[.int .i64 a0_0, .slice A0_1 l0_1.length c0_1]) (t := 50) ?hr ?_; (case hd => rfl); (case hg => rfl); (case hr => first | (go_simp; done) | (go_simp; rfl)); intro g2 hg2 w2 hbox hb; have HB2 := Aside0.mk (below_step HB.out hb); have CB2 := Aside0.mk hbox; have G2 := Aside0.mk (show w.heap.size ≤ g2 by rw [hg2]; exact below_size HB.out); clear hb hbox hg2 HB; have HB := HB2; clear HB2)
  | ((with_reducible refine gate_dst (N := 4) rfl ?_); refine box_event ?hg (N := 4) ?hd (cs := #[.int .i64 0, .slice none 0 0]) (t := 50) ?hr ?_; (case hd => rfl); (case hg => rfl); (case hr => first | (go_simp; done) | (go_simp; rfl)); intro g4 hg4 w4 hbox hb; have HB4 := Aside0.mk (below_step HB.out hb); have CB4 := Aside0.mk hbox; have G4 := Aside0.mk (show w.heap.size ≤ g4 by rw [hg4]; exact below_size HB.out); have G24 := Aside0.mk (show g2 < g4 by rw [hg4]; exact blk_lt CB2.out); have CB2_ := Aside0.mk (blk_below CB2.out hb); clear hb hbox hg4 HB CB2; have HB := HB4; have CB2 := CB2_; clear HB4 CB2_; have v20 : w4.cell? ⟨g2, 0, none⟩ = some (.int .i64 a0_0) := (blk_cell CB2.out 0).trans rfl; have v21 : w4.cell? ⟨g2, 1, none⟩ = some (.slice A0_1 l0_1.length c0_1) := (blk_cell CB2.out 1).trans rfl; have v40 : w4.cell? ⟨g4, 0, none⟩ = some (.int .i64 0) := (blk_cell CB4.out 0).trans rfl; have v41 : w4.cell? ⟨g4, 1, none⟩ = some (.slice none 0 0) := (blk_cell CB4.out 1).trans rfl; have f40 := blk_frozen CB4.out 0; have f41 := blk_frozen CB4.out 1)
  | (go_at_call 48; (with_reducible refine (store_Formed.calls _ a0_0 A0_1 c0_1 l0_1 true _ (Kd.C_below HR.out HB.out) HC.out HF.out).mono ?_); rintro e w5 ⟨rfl, hb⟩; have HB_ := Aside0.mk (below_step HB.out hb); have CB2_ := Aside0.mk (blk_below CB2.out hb); have CB4_ := Aside0.mk (blk_below CB4.out hb); clear HB CB2 CB4 hb v20 v21 v40 v41 f40 f41; have HB := HB_; have CB2 := CB2_; have CB4 := CB4_; clear HB_ CB2_ CB4_; have v20 : w5.cell? ⟨g2, 0, none⟩ = some (.int .i64 a0_0) := (blk_cell CB2.out 0).trans rfl; have v21 : w5.cell? ⟨g2, 1, none⟩ = some (.slice A0_1 l0_1.length c0_1) := (blk_cell CB2.out 1).trans rfl; have v40 : w5.cell? ⟨g4, 0, none⟩ = some (.int .i64 0) := (blk_cell CB4.out 0).trans rfl; have v41 : w5.cell? ⟨g4, 1, none⟩ = some (.slice none 0 0) := (blk_cell CB4.out 1).trans rfl; have f40 := blk_frozen CB4.out 0; have f41 := blk_frozen CB4.out 1))
 clear hmm
 have HM := Aside0.mk (World.ownsMap_made (H := Unit) w5 Tryd.prog 9 (plainElem (H := Unit) Tryd.prog 3))
 have CB2_ := Aside0.mk (blk_alloc CB2.out (.map #[] 0))
 have CB4_ := Aside0.mk (blk_alloc CB4.out (.map #[] 0))
 have HB_ := Aside0.mk (below_alloc HB.out (.map #[] 0))
 have GM2 : Aside0 (g2 < w5.heap.size) := ⟨blk_lt CB2.out⟩
 have GM4 : Aside0 (g4 < w5.heap.size) := ⟨blk_lt CB4.out⟩
 have GMB := Aside0.mk (below_size HB.out)
 clear HB CB2 CB4 v20 v21 v40 v41 f40 f41
 generalize hgm : w5.heap.size = gm at *
 generalize w5.alloc (.map #[] 0) = W1 at *
 clear hgm
 have hlen := HK.out.1
 go_wp2
 go_loopw [20] (fun v20 w' => ∃ (s : Nat) (D : DataW Unit), v20 = .int .i64 s ∧ s ≤ l1.length ∧ Aside0 (w'.ownsMap Tryd.prog 9 (plainElem (H := Unit) Tryd.prog 3) gm s D) ∧ Aside0 (MapOf D l1 s) ∧ Aside0 (w'.heap[g2]? = some (.cells #[.int .i64 a0_0, .slice A0_1 l0_1.length c0_1] 50 (0, 0))) ∧ Aside0 (w'.heap[g4]? = some (.cells #[.int .i64 0, .slice none 0 0] 50 (0, 0))) ∧ Aside0 (Below w.heap.size w w')) (fun v20 _ => l1.length - (intOf v20).toNat)
 case atStart => exact ⟨0, .map [], rfl, Nat.zero_le _, HM, ⟨MapOf.start l1⟩, CB2_, CB4_, HB_⟩
 case round =>
  clear HM CB2_ CB4_ HB_
  obtain ⟨s, D, rfl, hsl, HM, HMO, CB2, CB4, HB⟩ := hrel
  by_cases cs : s < l1.length
  ·have csd := decide_eq_true (show (s : Int) < (l1.length : Int) by omega)
   obtain ⟨ad, rfl, hx0, hx1⟩ := at_T97 HR1.out (s : Int) (by omega) (by omega)
   obtain ⟨x, hx⟩ : ∃ x, x = rd_T97 l1 (s : Int) := ⟨_, rfl⟩
   have HX := Aside0.mk hx
   have HKW := Aside0.mk (keep_wf HK.out cs)
   rw [← hx] at hx0 hx1 HKW
   replace hx0 := (HB.out.cell (World.block_lt_of_cell? w _ hx0)).trans hx0
   replace hx1 := (HB.out.cell (World.block_lt_of_cell? w _ hx1)).trans hx1
   rw [Int.toNat_natCast] at hx0 hx1
   clear hx
   have s0 := eq_true (show (0 : Int) ≤ (s : Int) by omega)
   have s1 := eq_true (show (s : Int) < (l1.length : Int) by omega)
   have hwr : IntKind.i64.wrap ((s : Int) + 1) = ((s + 1 : Nat) : Int) := by rw [IntKind.wrap_i64]; omega
   go_upto_region 7 with fail
   have BX := Aside0.mk (blk_new wr (.cells #[.string x.f0, .int .i64 x.f1] 97 (0, 0)))
   have CB2_ := Aside0.mk (blk_alloc CB2.out (.cells #[.string x.f0, .int .i64 x.f1] 97 (0, 0)))
   have CB4_ := Aside0.mk (blk_alloc CB4.out (.cells #[.string x.f0, .int .i64 x.f1] 97 (0, 0)))
   have HB_ := Aside0.mk (below_alloc HB.out (.cells #[.string x.f0, .int .i64 x.f1] 97 (0, 0)))
   have HM_ := Aside0.mk (ownsMap_below HM.out (below_alloc (Below.refl _ _) (.cells #[.string x.f0, .int .i64 x.f1] 97 (0, 0))))
   clear CB2 CB4 HB HM hx0 hx1
   generalize wr.alloc (.cells #[.string x.f0, .int .i64 x.f1] 97 (0, 0)) = W2 at *
   have hy0 : W2.cell? ⟨wr.heap.size, 0, none⟩ = some (.string x.f0) := (blk_cell BX.out 0).trans rfl
   have hy1 : W2.cell? ⟨wr.heap.size, 1, none⟩ = some (.int .i64 x.f1) := (blk_cell BX.out 1).trans rfl
   go_wp2_with (at_mapUpdate; refine wpList_mapUpdate_own _ rfl _ _ _ 95 rfl 9 3 keyLaw9 Tryd.underlying95 (plainElem (H := Unit) Tryd.prog 3) gm s D rfl HM_.out (by unfold maxLen; omega) _ _ (.string x.f0.data.toList) rfl rfl (WideMaps.keyOf_string_mk Tryd.underlying9 (by unfold maxLen; have := HKW.out.1; omega)) (.lit (.int .i64 x.f1)) [] (plainElem_int Tryd.underlying3 (i64_wfI HKW.out.2.1 HKW.out.2.2)) ?_; intro w2 hown hgrow; have HM2 := Aside0.mk hown; have HG2 := Aside0.mk hgrow; clear hown hgrow)
   go_roundw
   ·exact ⟨s + 1, _, rfl, cs, HM2, ⟨by rw [HX.out]; exact MapOf.step HMO.out⟩, ⟨blk_grown CB2_.out HG2.out (fun e => by injection e with e; have := GM2.out; omega)⟩, ⟨blk_grown CB4_.out HG2.out (fun e => by injection e with e; have := GM4.out; omega)⟩, ⟨HB_.out.grown HG2.out HB_.out.size (fun k hk => by injection hk with hk; subst hk; exact GMB.out)⟩⟩
   ·show l1.length - (((s + 1 : Nat) : Int)).toNat < l1.length - (s : Int).toNat
    omega
  ·obtain rfl : s = l1.length := by omega
   have csd : decide ((l1.length : Int) < (l1.length : Int)) = false := decide_eq_false (Int.lt_irrefl _)
   have v20 : wr.cell? ⟨g2, 0, none⟩ = some (.int .i64 a0_0) := (blk_cell CB2.out 0).trans rfl
   have v21 : wr.cell? ⟨g2, 1, none⟩ = some (.slice A0_1 l0_1.length c0_1) := (blk_cell CB2.out 1).trans rfl
   have v40 : wr.cell? ⟨g4, 0, none⟩ = some (.int .i64 0) := (blk_cell CB4.out 0).trans rfl
   have v41 : wr.cell? ⟨g4, 1, none⟩ = some (.slice none 0 0) := (blk_cell CB4.out 1).trans rfl
   have f40 := blk_frozen CB4.out 0
   have f41 := blk_frozen CB4.out 1
   clear csd hlen
   go_upto_region 10 with (first
    | (go_at_call 52; (with_reducible refine (store_twin.calls a0_0 A0_1 c0_1 l0_1 a0_0 l0_1 _ (Kd.C_below HR.out HB.out) HC.out HTW.out).mono ?_); rintro e w10 ⟨v10, rfl, hS, hb⟩; obtain ⟨A10, c10, rfl⟩ := Kd.S_slice hS; have hg4_ := blk_lt CB4.out; have hgm_ := HM.out.lt; have HN := Aside0.mk (Kd.S_N (Kd.S_mono (Kd.S_bound (Kd.S_lower (Kd.S_mono (Kd.S_bound hS) (ok' := fun k => g4 < k ∧ gm < k) (fun k hk => by have := hk.2.1; omega)) HB.out.size)) (ok' := fun k => (g4 < k ∧ gm < k) ∧ k < w10.heap.size) (fun k hk => ⟨hk.1, hk.2.2.1⟩))); clear hS hg4_ hgm_; have HM_ := Aside0.mk (ownsMap_below HM.out hb); clear HM; have HM := HM_; clear HM_; have HB_ := Aside0.mk (below_step HB.out hb); have CB2_ := Aside0.mk (blk_below CB2.out hb); have CB4_ := Aside0.mk (blk_below CB4.out hb); clear HB CB2 CB4 hb v20 v21 v40 v41 f40 f41; have HB := HB_; have CB2 := CB2_; have CB4 := CB4_; clear HB_ CB2_ CB4_; have v20 : w10.cell? ⟨g2, 0, none⟩ = some (.int .i64 a0_0) := (blk_cell CB2.out 0).trans rfl; have v21 : w10.cell? ⟨g2, 1, none⟩ = some (.slice A0_1 l0_1.length c0_1) := (blk_cell CB2.out 1).trans rfl; have v40 : w10.cell? ⟨g4, 0, none⟩ = some (.int .i64 0) := (blk_cell CB4.out 0).trans rfl; have v41 : w10.cell? ⟨g4, 1, none⟩ = some (.slice none 0 0) := (blk_cell CB4.out 1).trans rfl; have f40 := blk_frozen CB4.out 0; have f41 := blk_frozen CB4.out 1)
    | ((with_reducible refine gate_dst (N := 9) rfl ?_); refine box_event ?hg (N := 9) ?hd (cs := #[.int .i64 0, .slice none 0 0]) (t := 50) ?hr ?_; (case hd => rfl); (case hg => rfl); (case hr => first | (go_simp; done) | (go_simp; rfl)); intro g9 hg9 w11 hbox hb; have CB9 := Aside0.mk hbox; have G49 := Aside0.mk (show g4 < g9 by rw [hg9]; exact blk_lt CB4.out); have GM9 := Aside0.mk (show gm < g9 by rw [hg9]; exact HM.out.lt); have HN_ := Aside0.mk (Kd.N_mono (Kd.N_below HN.out hb) (ok' := fun k => (g4 < k ∧ gm < k) ∧ k ≠ g9) (fun k hk => ⟨hk.1, by have := hk.2; omega⟩)); clear HN; have HN := HN_; clear HN_; clear hbox hg9; have hn2 : g2 ≠ g9 := (by have := G24.out; have := G49.out; omega); have hn4 : g4 ≠ g9 := (by have := G49.out; omega); have hnm : gm ≠ g9 := (by have := GM9.out; omega); have hm2 := Ne.symm hn2; have hm4 := Ne.symm hn4; have HM_ := Aside0.mk (ownsMap_below HM.out hb); clear HM; have HM := HM_; clear HM_; have HB_ := Aside0.mk (below_step HB.out hb); have CB2_ := Aside0.mk (blk_below CB2.out hb); have CB4_ := Aside0.mk (blk_below CB4.out hb); clear HB CB2 CB4 hb v20 v21 v40 v41 f40 f41; have HB := HB_; have CB2 := CB2_; have CB4 := CB4_; clear HB_ CB2_ CB4_; have v20 : w11.cell? ⟨g2, 0, none⟩ = some (.int .i64 a0_0) := (blk_cell CB2.out 0).trans rfl; have v21 : w11.cell? ⟨g2, 1, none⟩ = some (.slice A0_1 l0_1.length c0_1) := (blk_cell CB2.out 1).trans rfl; have v40 : w11.cell? ⟨g4, 0, none⟩ = some (.int .i64 0) := (blk_cell CB4.out 0).trans rfl; have v41 : w11.cell? ⟨g4, 1, none⟩ = some (.slice none 0 0) := (blk_cell CB4.out 1).trans rfl; have f40 := blk_frozen CB4.out 0; have f41 := blk_frozen CB4.out 1; have v90 : w11.cell? ⟨g9, 0, none⟩ = some (.int .i64 0) := (blk_cell CB9.out 0).trans rfl; have v91 : w11.cell? ⟨g9, 1, none⟩ = some (.slice none 0 0) := (blk_cell CB9.out 1).trans rfl; have f90 := blk_frozen CB9.out 0; have f91 := blk_frozen CB9.out 1))
   have CB9_ := Aside0.mk (blk_put (cs' := #[.int .i64 a0_0, .slice A10 l0_1.length c10]) (blk_put (cs' := #[.int .i64 a0_0, .slice none 0 0]) CB9.out 0 (.int .i64 a0_0) rfl) 1 (.slice A10 l0_1.length c10) rfl)
   have CB4_ := Aside0.mk (blk_far (p := ⟨g9, 1, none⟩) (blk_far (p := ⟨g9, 0, none⟩) CB4.out hn4 (.int .i64 a0_0)) hn4 (.slice A10 l0_1.length c10))
   have HN_ := Aside0.mk (Kd.N_far (p := ⟨g9, 1, none⟩) (Kd.N_far (p := ⟨g9, 0, none⟩) HN.out (fun k hk => hk.2) (.int .i64 a0_0)) (fun k hk => hk.2) (.slice A10 l0_1.length c10))
   have HM_ := Aside0.mk (World.ownsMap.setCell (a := ⟨g9, 1, none⟩) (World.ownsMap.setCell (a := ⟨g9, 0, none⟩) HM.out hnm (.int .i64 a0_0)) hnm (.slice A10 l0_1.length c10))
   have G9 := Aside0.mk (show w.heap.size ≤ g9 by have := G4.out; have := G49.out; omega)
   have HB_ := Aside0.mk (below_set (j := 1) (v := (.slice A10 l0_1.length c10)) (below_set (j := 0) (v := .int .i64 a0_0) HB.out G9.out) G9.out)
   clear HB CB2 CB4 CB9 HN HM v20 v21 v40 v41 f40 f41 v90 v91 f90 f91
   generalize (w11.setCell ⟨g9, 0, none⟩ (.int .i64 a0_0)).setCell ⟨g9, 1, none⟩ (.slice A10 l0_1.length c10) = W3 at *
   have HB := HB_
   have CB4 := CB4_
   have CB9 := CB9_
   have HN := HN_
   have HM := HM_
   clear HB_ CB4_ CB9_ HN_ HM_
   have v90 : W3.cell? ⟨g9, 0, none⟩ = some (.int .i64 a0_0) := (blk_cell CB9.out 0).trans rfl
   have v91 : W3.cell? ⟨g9, 1, none⟩ = some (.slice A10 l0_1.length c10) := (blk_cell CB9.out 1).trans rfl
   have hn256 := HFM.out.2.2.2.1
   have HN0 := Aside0.mk (show Kd.N k84 84 W3 w.heap.size (fun k => (g4 < k ∧ gm < k) ∧ k ≠ g9) (.slice A10 l0_1.length c10) (mixL l1 l0_1 0) by rw [mixL_zero]; exact HN.out)
   clear HN
   go_wp2
   clear v90 v91
   go_loopw [35] (fun v35 w' => ∃ i : Nat, v35 = .int .i64 i ∧ i ≤ l0_1.length ∧ Aside0 (Kd.N k84 84 w' w.heap.size (fun k => (g4 < k ∧ gm < k) ∧ k ≠ g9) (.slice A10 l0_1.length c10) (mixL l1 l0_1 i)) ∧ Aside0 (w'.ownsMap Tryd.prog 9 (plainElem (H := Unit) Tryd.prog 3) gm l1.length D) ∧ Aside0 (w'.heap[g9]? = some (.cells #[.int .i64 a0_0, .slice A10 l0_1.length c10] 50 (0, 0))) ∧ Aside0 (w'.heap[g4]? = some (.cells #[.int .i64 0, .slice none 0 0] 50 (0, 0))) ∧ Aside0 (Below w.heap.size w w')) (fun v35 _ => l0_1.length - (intOf v35).toNat)
   case atStart => exact ⟨0, rfl, Nat.zero_le _, HN0, HM, CB9, CB4, HB⟩
   case round =>
    clear HN0 HM CB9 CB4 HB
    obtain ⟨i, rfl, hi, HN, HM, CB9, CB4, HB⟩ := hrel
    by_cases ci : i < l0_1.length
    ·have cid := decide_eq_true (show (i : Int) < (l0_1.length : Int) by omega)
     have hml := mixL_length l1 l0_1 i
     obtain ⟨go, cap, hv, GO1, GO2, _⟩ := Kd.N_form HN.out (by omega)
     injection hv with e1 e2 e3
     subst e1
     subst e3
     clear e2
     have HGO := Aside0.mk (And.intro GO1 GO2)
     clear GO1 GO2
     obtain ⟨x, hx⟩ : ∃ x, x = rd_T84 l0_1 (i : Int) := ⟨_, rfl⟩
     obtain ⟨c, hcl, hM, hcc, hfr⟩ := Kd.N_elem HN.out z84 (i : Int) (by omega) (by omega)
     rw [Int.toNat_natCast, mixL_at l1 l0_1 i z84 ci, show l0_1.getD i z84 = x from hx.symm] at hM
     obtain ⟨A2, d2, rfl, hdl, hF2⟩ := k84_openF hM
     have hz0 : wr.cell? ⟨go, i * 3, none⟩ = some (.string x.f0) := hcc 0 _ rfl
     have hz1 : wr.cell? ⟨go, i * 3 + 1, none⟩ = some (.slice A2 x.f1.length d2) := hcc 1 _ rfl
     have hz2 : wr.cell? ⟨go, i * 3 + 2, none⟩ = some (.int .i64 x.f2) := hcc 2 _ rfl
     have hfz1 : wr.frozen? ⟨go, i * 3 + 1, none⟩ = false := hfr 1
     have hfz2 : wr.frozen? ⟨go, i * 3 + 2, none⟩ = false := hfr 2
     have HCC := Aside0.mk hcc
     have HDL := Aside0.mk hdl
     have HF2 := Aside0.mk hF2
     have HX := Aside0.mk hx
     have hokx := ((formed_iff _ _).1 HFM.out).1 i ci
     unfold okS at hokx
     rw [← hx] at hokx
     have HOKX := Aside0.mk hokx
     have HXL := Aside0.mk (show (x.f1.length : Int) ≤ 67108864 by have h1 := tot_at l0_1 i ci; rw [← hx] at h1; have := HFM.out.2.2.1; have := HFM.out.2.2.2.2; omega)
     clear hcl hM hcc hfr hdl hF2 hx hokx hml
     have i0 := eq_true (show (0 : Int) ≤ (i : Int) by omega)
     have i1 := eq_true (show (i : Int) < (l0_1.length : Int) by omega)
     have hwri : IntKind.i64.wrap ((i : Int) + 1) = ((i + 1 : Nat) : Int) := by rw [IntKind.wrap_i64]; omega
     have v91 : wr.cell? ⟨g9, 1, none⟩ = some (.slice (some ⟨go, 0, none⟩) l0_1.length c10) := (blk_cell CB9.out 1).trans rfl
     go_upto_region 13 with fail
     have BX := Aside0.mk (blk_new wr (.cells #[.string x.f0, .slice A2 x.f1.length d2, .int .i64 x.f2] 84 (0, 0)))
     have HAL := Aside0.mk (below_alloc (Below.refl wr.heap.size wr) (.cells #[.string x.f0, .slice A2 x.f1.length d2, .int .i64 x.f2] 84 (0, 0)))
     generalize wr.alloc (.cells #[.string x.f0, .slice A2 x.f1.length d2, .int .i64 x.f2] 84 (0, 0)) = W5 at *
     have hy0 : W5.cell? ⟨wr.heap.size, 0, none⟩ = some (.string x.f0) := (blk_cell BX.out 0).trans rfl
     have hy1 : W5.cell? ⟨wr.heap.size, 1, none⟩ = some (.slice A2 x.f1.length d2) := (blk_cell BX.out 1).trans rfl
     have hy2 : W5.cell? ⟨wr.heap.size, 2, none⟩ = some (.int .i64 x.f2) := (blk_cell BX.out 2).trans rfl
     have HM5 := Aside0.mk (ownsMap_below HM.out HAL.out)
     obtain ⟨q, hq⟩ : ∃ q, q = lastN l1 l1.length x.f0 := ⟨_, rfl⟩
     have HQ := Aside0.mk hq
     have HAT := Aside0.mk (show D.atKey (.string x.f0.data.toList) (.lit (.int .i64 0)) = .lit (.int .i64 q) by rw [hq]; exact HMO.out.2 x.f0)
     clear hq
     go_upto_region 14 with (at_lookup; refine wpList_lookup_own_int _ rfl _ _ 95 rfl 9 3 .i64 keyLaw9 Tryd.underlying95 Tryd.underlying3 (zeroI3 _) gm l1.length D rfl HM5.out _ (.string x.f0.data.toList) rfl (WideMaps.keyOf_string_mk Tryd.underlying9 (by unfold maxLen; have := HOKX.out.1.2; omega)) ?_; intro cN hat hwc; have hcq : cN = q := (by rw [HAT.out] at hat; injection hat with hat; injection hat with _ hat; exact hat.symm); subst hcq; clear hat hwc)
     obtain ⟨m, hm⟩ : ∃ m : Nat, (m : Int) = leftOf l1 x ∧ m ≤ x.f1.length := by
      refine ⟨(leftOf l1 x).toNat, ?_⟩
      have h1 := HOKX.out
      unfold leftOf
      omega
     have hleft : wrap64 ((if wrap64 ((x.f1.length : Int) - x.f2) < if 0 < cN then cN else 0 then wrap64 ((x.f1.length : Int) - x.f2) else if 0 < cN then cN else 0) + x.f2) = (m : Int) := by
      have h1 := HOKX.out
      have h2 := HXL.out
      rw [wr64 (x := (x.f1.length : Int) - x.f2) (by omega), hm.1]
      unfold leftOf
      rw [← HQ.out, wr64]
      ·congr 1
       omega
      ·omega
     rw [hleft]
     have HMM := Aside0.mk hm
     have hmd : m ≤ d2 := Nat.le_trans hm.2 HDL.out
     have hmd2 : (m : Int) ≤ (d2 : Int) := by omega
     clear hleft hm
     have hv91 := pw_cell_below HAL.out v91
     have hz1b := pw_cell_below HAL.out hz1
     have hz2b := pw_cell_below HAL.out hz2
     have hfz1b : W5.frozen? ⟨go, i * 3 + 1, none⟩ = false := (HAL.out.frozen (p := ⟨go, i * 3 + 1, none⟩) HGO.out.2).trans hfz1
     have hfz2b : W5.frozen? ⟨go, i * 3 + 2, none⟩ = false := (HAL.out.frozen (p := ⟨go, i * 3 + 2, none⟩) HGO.out.2).trans hfz2
     have ng9 : g9 ≠ go := fun e => Kd.N_ne HN.out CB9.out (by decide) (by simp [Value.ownBlock, e])
     have ng4 : g4 ≠ go := fun e => Kd.N_ne HN.out CB4.out (by decide) (by simp [Value.ownBlock, e])
     have ngm : gm ≠ go := fun e => by have h1 := HM.out; obtain ⟨es, cl, hb1, _⟩ := h1; obtain ⟨cells, hb2⟩ := Kd.N_typed HN.out go rfl; rw [e, hb2] at hb1; cases hb1
     have ngx : wr.heap.size ≠ go := by have := HGO.out.2; omega
     clear v91 hz0 hz1 hz2 hfz1 hfz2
     refine start_ (n := 18) (S := fun w' => w'.cell? ⟨g9, 1, none⟩ = some (.slice (some ⟨go, 0, none⟩) l0_1.length c10) ∧ w'.cell? ⟨wr.heap.size, 1, none⟩ = some (.slice A2 x.f1.length d2)) (ds := [17]) #[false, false, false, false, false, false, false, false, false, false, false, false, false, false, false, false, false, false] (by kernel_rfl) rfl rfl ⟨hv91, hy1⟩ (fun hHeld => ?_)
     refine pure_ (i := 0) (N := some 55) (v := ?_) (a' := ?_) #[true, false, false, false, false, false, false, false, false, false, false, false, false, false, false, false, false, false] rfl rfl (by kernel_rfl) (fun _ _ _ h => h) (Or.inl ⟨by rfl, ?_⟩) ?_ ?_
     rotate_left
     ·intro w'
      go_simp
      with_reducible rfl
     rotate_left
     ·simp only [Act.put, List.setIfInBounds_toArray, List.set_cons_zero, List.set_cons_succ, i64_w, i32_w]
      rfl
     refine pure_ (i := 2) (N := some 57) (v := ?_) (a' := ?_) #[true, false, true, false, false, false, false, false, false, false, false, false, false, false, false, false, false, false] rfl rfl (by kernel_rfl) (fun _ _ _ h => h) (Or.inl ⟨by rfl, ?_⟩) ?_ ?_
     rotate_left
     ·intro w'
      go_simp
      with_reducible rfl
     rotate_left
     ·simp only [Act.put, List.setIfInBounds_toArray, List.set_cons_zero, List.set_cons_succ, i64_w, i32_w]
      rfl
     refine pure_ (i := 3) (N := some 58) (v := ?_) (a' := ?_) #[true, false, true, true, false, false, false, false, false, false, false, false, false, false, false, false, false, false] rfl rfl (by kernel_rfl) (fun _ _ _ h => h) (Or.inl ⟨by rfl, ?_⟩) ?_ ?_
     rotate_left
     ·intro w'
      go_simp
      with_reducible rfl
     rotate_left
     ·simp only [Act.put, List.setIfInBounds_toArray, List.set_cons_zero, List.set_cons_succ, i64_w, i32_w]
      rfl
     refine pure_ (i := 5) (N := some 60) (v := ?_) (a' := ?_) #[true, false, true, true, false, true, false, false, false, false, false, false, false, false, false, false, false, false] rfl rfl (by kernel_rfl) (fun _ _ _ h => h) (Or.inl ⟨by rfl, ?_⟩) ?_ ?_
     rotate_left
     ·intro w'
      go_simp
      with_reducible rfl
     rotate_left
     ·simp only [Act.put, List.setIfInBounds_toArray, List.set_cons_zero, List.set_cons_succ, i64_w, i32_w]
      rfl
     refine pure_ (i := 6) (N := some 61) (v := ?_) (a' := ?_) #[true, false, true, true, false, true, true, false, false, false, false, false, false, false, false, false, false, false] rfl rfl (by kernel_rfl) (fun _ _ _ h => h) (Or.inl ⟨by rfl, ?_⟩) ?_ ?_
     rotate_left
     ·intro w'
      go_simp
      with_reducible rfl
     rotate_left
     ·simp only [Act.put, List.setIfInBounds_toArray, List.set_cons_zero, List.set_cons_succ, i64_w, i32_w]
      rfl
     refine pure_ (i := 8) (N := some 63) (v := ?_) (a' := ?_) #[true, false, true, true, false, true, true, false, true, false, false, false, false, false, false, false, false, false] rfl rfl (by kernel_rfl) (fun _ _ _ h => h) (Or.inl ⟨by rfl, ?_⟩) ?_ ?_
     rotate_left
     ·intro w'
      go_simp
      with_reducible rfl
     rotate_left
     ·simp only [Act.put, List.setIfInBounds_toArray, List.set_cons_zero, List.set_cons_succ, i64_w, i32_w]
      rfl
     refine pure_ (i := 9) (N := some 64) (v := ?_) (a' := ?_) #[true, false, true, true, false, true, true, false, true, true, false, false, false, false, false, false, false, false] rfl rfl (by kernel_rfl) (fun _ _ _ h => h) (Or.inl ⟨by rfl, ?_⟩) ?_ ?_
     rotate_left
     ·intro w'
      go_simp
      with_reducible rfl
     rotate_left
     ·simp only [Act.put, List.setIfInBounds_toArray, List.set_cons_zero, List.set_cons_succ, i64_w, i32_w]
      rfl
     refine pure_ (i := 11) (N := some 66) (v := ?_) (a' := ?_) #[true, false, true, true, false, true, true, false, true, true, false, true, false, false, false, false, false, false] rfl rfl (by kernel_rfl) (fun _ _ _ h => h) (Or.inl ⟨by rfl, ?_⟩) ?_ ?_
     rotate_left
     ·intro w'
      go_simp
      with_reducible rfl
     rotate_left
     ·simp only [Act.put, List.setIfInBounds_toArray, List.set_cons_zero, List.set_cons_succ, i64_w, i32_w]
      rfl
     refine take_ (i := 1) (N := some 56) (v := ?_) (a' := ?_) #[true, true, true, true, false, true, true, false, true, true, false, true, false, false, false, false, false, false] rfl rfl (by kernel_rfl) (fun _ _ _ h => h) (Or.inl ⟨by rfl, ?_⟩) hHeld ?_ ?_
     rotate_left
     ·rintro w' ⟨s0, s1⟩
      go_simp
      with_reducible rfl
     rotate_left
     ·simp only [Act.put, List.setIfInBounds_toArray, List.set_cons_zero, List.set_cons_succ, i64_w, i32_w]
      rfl
     refine take_ (i := 4) (N := some 59) (v := ?_) (a' := ?_) #[true, true, true, true, true, true, true, false, true, true, false, true, false, false, false, false, false, false] rfl rfl (by kernel_rfl) (fun _ _ _ h => h) (Or.inl ⟨by rfl, ?_⟩) hHeld ?_ ?_
     rotate_left
     ·rintro w' ⟨s0, s1⟩
      go_simp
      with_reducible rfl
     rotate_left
     ·simp only [Act.put, List.setIfInBounds_toArray, List.set_cons_zero, List.set_cons_succ, i64_w, i32_w]
      rfl
     refine take_ (i := 7) (N := some 62) (v := ?_) (a' := ?_) #[true, true, true, true, true, true, true, true, true, true, false, true, false, false, false, false, false, false] rfl rfl (by kernel_rfl) (fun _ _ _ h => h) (Or.inl ⟨by rfl, ?_⟩) hHeld ?_ ?_
     rotate_left
     ·rintro w' ⟨s0, s1⟩
      go_simp
      with_reducible rfl
     rotate_left
     ·simp only [Act.put, List.setIfInBounds_toArray, List.set_cons_zero, List.set_cons_succ, i64_w, i32_w]
      rfl
     refine pure_ (i := 10) (N := some 65) (v := ?_) (a' := ?_) #[true, true, true, true, true, true, true, true, true, true, true, true, false, false, false, false, false, false] rfl rfl (by kernel_rfl) (fun _ _ _ h => h) (Or.inl ⟨by rfl, ?_⟩) ?_ ?_
     rotate_left
     ·intro w'
      go_simp
      with_reducible rfl
     rotate_left
     ·simp only [Act.put, List.setIfInBounds_toArray, List.set_cons_zero, List.set_cons_succ, i64_w, i32_w]
      rfl
     refine pure_ (i := 12) (N := some 67) (v := ?_) (a' := ?_) #[true, true, true, true, true, true, true, true, true, true, true, true, true, false, false, false, false, false] rfl rfl (by kernel_rfl) (fun _ _ _ h => h) (Or.inl ⟨by rfl, ?_⟩) ?_ ?_
     rotate_left
     ·intro w'
      go_simp
      with_reducible rfl
     rotate_left
     ·simp only [Act.put, List.setIfInBounds_toArray, List.set_cons_zero, List.set_cons_succ, i64_w, i32_w]
      rfl
     refine pure_ (i := 13) (N := some 68) (v := ?_) (a' := ?_) #[true, true, true, true, true, true, true, true, true, true, true, true, true, true, false, false, false, false] rfl rfl (by kernel_rfl) (fun _ _ _ h => h) (Or.inl ⟨by rfl, ?_⟩) ?_ ?_
     rotate_left
     ·intro w'
      go_simp
      with_reducible rfl
     rotate_left
     ·simp only [Act.put, List.setIfInBounds_toArray, List.set_cons_zero, List.set_cons_succ, i64_w, i32_w]
      rfl
     refine one_ (i := 14) (N := none) #[true, true, true, true, true, true, true, true, true, true, true, true, true, true, true, false, false, false] rfl rfl (by kernel_rfl) (by decide) (fun K hK => ?_)
     refine skip_ (w1 := ?_) (by rfl) rfl ?_ ?_
     rotate_left
     ·go_simp
      rfl
     refine hK.out _ _ ⟨((World.cell?_of_block (a := ⟨g9, 1, none⟩) (Below.heap_setCell W5 ⟨go, i * 3 + 1, none⟩ _ g9 ng9)).trans hv91), ((World.cell?_of_block (a := ⟨wr.heap.size, 1, none⟩) (Below.heap_setCell W5 ⟨go, i * 3 + 1, none⟩ _ wr.heap.size ngx)).trans hy1)⟩ (fun hHeld => ?_)
     clear hK K
     refine pure_ (i := 15) (N := some 69) (v := ?_) (a' := ?_) #[true, true, true, true, true, true, true, true, true, true, true, true, true, true, true, true, false, false] rfl rfl (by kernel_rfl) (fun _ _ _ h => h) (Or.inl ⟨by rfl, ?_⟩) ?_ ?_
     rotate_left
     ·intro w'
      go_simp
      with_reducible rfl
     rotate_left
     ·simp only [Act.put, List.setIfInBounds_toArray, List.set_cons_zero, List.set_cons_succ, i64_w, i32_w]
      rfl
     refine pure_ (i := 16) (N := some 70) (v := ?_) (a' := ?_) #[true, true, true, true, true, true, true, true, true, true, true, true, true, true, true, true, true, false] rfl rfl (by kernel_rfl) (fun _ _ _ h => h) (Or.inl ⟨by rfl, ?_⟩) ?_ ?_
     rotate_left
     ·intro w'
      go_simp
      with_reducible rfl
     rotate_left
     ·simp only [Act.put, List.setIfInBounds_toArray, List.set_cons_zero, List.set_cons_succ, i64_w, i32_w]
      rfl
     refine last_ (i := 17) (N := none) #[true, true, true, true, true, true, true, true, true, true, true, true, true, true, true, true, true, true] rfl rfl (by kernel_rfl) (by decide) (fun K hK => ?_)
     refine skip_ (w1 := ?_) (by rfl) rfl ?_ ?_
     rotate_left
     ·go_simp
      rfl
     refine hK.out _ _ ?_
     clear hK K
     refine done_ (by kernel_rfl) ?_
     have HN5 := Kd.N_below HN.out HAL.out
     have hcc5 : ∀ j u, [Value.string x.f0, .slice A2 x.f1.length d2, .int .i64 x.f2][j]? = some u → W5.cell? ⟨go, (i : Int).toNat * 3 + j, none⟩ = some u := fun j u hu => pw_cell_below HAL.out (HCC.out j u hu)
     have htl : (x.f1.take m).length = m := by rw [List.length_take]; have := HMM.out.2; omega
     have hFK : Kd.FK k84 W5 (fun q => ((g4 < q ∧ gm < q) ∧ q ≠ g9) ∧ q ≠ go) (⟨x.f0, x.f1.take m, (m : Int)⟩ : S84) [.string x.f0, .slice A2 m m, .int .i64 (m : Int)] := fun W' hW => by
      have h1 := (Kd.F_take (Kd.F_below HF2.out HAL.out) HMM.out.2) W' hW
      have h2 := k84_mk W' (⟨x.f0, x.f1.take m, (m : Int)⟩ : S84) (c1 := m) (by show (x.f1.take m).length ≤ m; omega) h1
      rw [show (⟨x.f0, x.f1.take m, (m : Int)⟩ : S84).f1.length = m from htl] at h2
      exact h2
     have hseg := Kd.N_seg HN5 (i : Int) (of_eq_true i0) (of_eq_true i1) (seg := [.slice A2 m m, .int .i64 (m : Int)]) (j := 1) (x' := (⟨x.f0, x.f1.take m, (m : Int)⟩ : S84)) rfl hcc5 (show 3 ≤ 3 by decide) hFK (fun q hq => hq)
     have hcr : crashF l1 x = ⟨x.f0, x.f1.take m, (m : Int)⟩ := by
      unfold crashF
      rw [← HMM.out.1]
      rfl
     have hset := mixL_set l1 l0_1 i z84 ci
     rw [show l0_1.getD i z84 = x from HX.out.symm, hcr] at hset
     rw [Int.toNat_natCast, hset] at hseg
     have HSEG := Aside0.mk hseg.1
     clear hseg hset hcr hFK htl hcc5 HN5
     go_wp2
     go_roundw
     ·exact ⟨i + 1, rfl, ci, ⟨HSEG.out⟩, ⟨World.ownsMap.setCell (World.ownsMap.setCell HM5.out ngm _) ngm _⟩, ⟨blk_far (blk_far (blk_below CB9.out HAL.out) ng9 _) ng9 _⟩, ⟨blk_far (blk_far (blk_below CB4.out HAL.out) ng4 _) ng4 _⟩, ⟨below_drew1 (below_set (below_set (below_step HB.out HAL.out) HGO.out.1) HGO.out.1)⟩⟩
     ·show l0_1.length - (((i + 1 : Nat) : Int)).toNat < l0_1.length - (i : Int).toNat
      omega
    ·obtain rfl : i = l0_1.length := by omega
     have cid : decide ((l0_1.length : Int) < (l0_1.length : Int)) = false := decide_eq_false (Int.lt_irrefl _)
     have HNF := HN.out
     rw [mixL_all] at HNF
     have HV := Aside0.mk (N_V HNF)
     clear HNF
     have v40 : wr.cell? ⟨g4, 0, none⟩ = some (.int .i64 0) := (blk_cell CB4.out 0).trans rfl
     have v41 : wr.cell? ⟨g4, 1, none⟩ = some (.slice none 0 0) := (blk_cell CB4.out 1).trans rfl
     have f40 := blk_frozen CB4.out 0
     have f41 := blk_frozen CB4.out 1
     have v90 : wr.cell? ⟨g9, 0, none⟩ = some (.int .i64 a0_0) := (blk_cell CB9.out 0).trans rfl
     have v91 : wr.cell? ⟨g9, 1, none⟩ = some (.slice A10 l0_1.length c10) := (blk_cell CB9.out 1).trans rfl
     go_wp2
     refine bodyPost_ret (results_ct rfl _ _ g4 50 #[.int .i64 a0_0, .slice A10 l0_1.length c10] (0, 0) _ rfl (blk_put (cs := #[.int .i64 a0_0, .slice none 0 0]) (blk_put (cs := #[.int .i64 0, .slice none 0 0]) CB4.out 0 _ rfl) 1 _ rfl) Tryd.underlying50 rfl (by kernel_rfl)) rfl ?_
     exact ⟨_, rfl, Kd.V_mono (Kd.V_far (p := ⟨g4, 1, none⟩) (Kd.V_far (p := ⟨g4, 0, none⟩) HV.out (fun k hk => Nat.ne_of_gt hk.1.1) _) (fun k hk => Nat.ne_of_gt hk.1.1) _) (fun k hk => Nat.le_of_lt (Nat.lt_of_le_of_lt G4.out hk.1.1)), below_set (below_set HB.out G4.out) G4.out⟩
theorem store_Crash.calls (a0_0 : Int) (A0_1 : Option Addr) (c0_1 : Nat) (l0_1 : List S84) (A1 : Option Addr) (c1 : Nat) (l1 : List S97) (r1 : Int) (r2 : List S84) (r3 : Int) (w : World) (hr0_1 : Kd.C k84 w A0_1 l0_1.length l0_1) (hc0_1 : l0_1.length ≤ c0_1) (hr1 : Kd.C k97 w A1 l1.length l1) (hc1 : l1.length ≤ c1) (h : store_Crash.f a0_0 l0_1 l1 = some (r1, r2, r3)) :
  Calls Tryd.prog 31 #[.agg #[.int .i64 a0_0, .slice A0_1 l0_1.length c0_1], .slice A1 l1.length c1] w fun e w' => ∃ v1_ : Value, e = .returned (.tuple #[.agg #[.int .i64 r1, v1_], .int .i64 r3]) ∧ Kd.V k84 84 w' w.heap.size (fun k_ => w.heap.size ≤ k_) v1_ r2 ∧ Below w.heap.size w w' := by
 unfold store_Crash.f at h
 by_cases hb : SmallD l0_1 ∧ KeepsOK l1
 case neg =>
  rw [if_neg hb] at h
  cases h
 rw [if_pos hb] at h
 have he := Option.some.inj h
 clear h
 by_cases hf : FormedR a0_0 l0_1
 ·rw [if_pos hf] at he
  exact crash_good a0_0 A0_1 c0_1 l0_1 A1 c1 l1 r1 r2 r3 w hr0_1 hc0_1 hr1 hc1 hb.1 hb.2 hf he
 ·rw [if_neg hf] at he
  exact crash_bad a0_0 A0_1 c0_1 l0_1 A1 c1 l1 r1 r2 r3 w hr0_1 hc0_1 hr1 hc1 hb.1 hf he
def dragnetlaw18_sure.l0 : Nat → Int → Int → List (S84) → Option (Bool)
 | 0, _, _, _ => none
 | k + 1, x3, x206000, x206001 => if x3 < (x206001.length : Int) then (if 0 ≤ x3 then (if ((rd_T84 x206001 x3).f0).toList = ([109] : List UInt8) then (if ((rd_T84 x206001 x3).f2) < (((rd_T84 x206001 x3).f1).length : Int) then (some false) else (dragnetlaw18_sure.l0 k (wrap64 (x3 + 1)) x206000 x206001)) else (dragnetlaw18_sure.l0 k (wrap64 (x3 + 1)) x206000 x206001)) else (none)) else (some true)
def dragnetlaw18_sure.f (k : Nat) (a0_0 : Int) (l0_1 : List (S84)) : Option (Bool) := dragnetlaw18_sure.l0 k 0 a0_0 l0_1
theorem dragnetlaw18_sure.mono_l : ∀ k, (∀ y0 y1 y2, LeO (dragnetlaw18_sure.l0 k y0 y1 y2) (dragnetlaw18_sure.l0 (k + 1) y0 y1 y2))
 | 0 => fun _ _ _ r h => by simp [dragnetlaw18_sure.l0] at h
 | k + 1 => by
  have ih0 := dragnetlaw18_sure.mono_l k
  ·intro y0 y1 y2
   unfold dragnetlaw18_sure.l0
   repeat' first
   | (with_reducible exact ih0 _ _ _)
   | (with_reducible exact LeO.refl _)
   | (with_reducible exact LeO.none _)
   | (with_reducible refine LeO.ite ?_ ?_)
   | (with_reducible refine LeO.bind ?_ (fun _ => ?_))
   | exact ih0 _ _ _
   | exact LeO.none _
   | refine LeO.ite ?_ ?_
   | refine LeO.bind ?_ (fun _ => ?_)
theorem dragnetlaw18_sure.mono : ∀ a0 a1 k, LeO (dragnetlaw18_sure.f k a0 a1) (dragnetlaw18_sure.f (k + 1) a0 a1) := by
 intro a0 a1 k
 have ih0 := dragnetlaw18_sure.mono_l k
 unfold dragnetlaw18_sure.f
 repeat' first
   | (with_reducible exact ih0 _ _ _)
   | (with_reducible exact LeO.refl _)
   | (with_reducible exact LeO.none _)
   | (with_reducible refine LeO.ite ?_ ?_)
   | (with_reducible refine LeO.bind ?_ (fun _ => ?_))
   | exact ih0 _ _ _
   | exact LeO.none _
   | refine LeO.ite ?_ ?_
   | refine LeO.bind ?_ (fun _ => ?_)
set_option maxHeartbeats 8000000 in
set_option maxRecDepth 100000 in
theorem dragnetlaw18_sure.calls (k : Nat) (a0_0 : Int) (A0_1 : Option Addr) (c0_1 : Nat) (l0_1 : List (S84)) (r : Bool) (w : World) (hr0_1 : Kd.C k84 w A0_1 l0_1.length l0_1) (hc0_1 : l0_1.length ≤ c0_1) (h : dragnetlaw18_sure.f k a0_0 l0_1 = some r) :
  Calls Tryd.prog 32 #[.agg #[.int .i64 a0_0, .slice A0_1 l0_1.length c0_1]] w fun e w' => e = .returned (.bool r) ∧ Below w.heap.size w w' := by
 have hu50 := Tryd.underlying50
 have HR0_1 := Aside0.mk hr0_1
 have HC0_1 := Aside0.mk hc0_1
 clear hr0_1 hc0_1
 have HB := Aside0.mk (Below.refl w.heap.size w)
 have H : (dragnetlaw18_sure.l0 k 0 a0_0 l0_1) = some r := h
 clear h
 have H' := Aside0.mk H
 clear H
 go_enter Tryd.func32, Tryd.ntmps32
 go_wp2_with (first | ((with_reducible refine gate_dst (N := 1) rfl ?_); (try (refine gate_guard (by rfl) ?_; dsimp only)); refine box_event ?hg (N := 1) ?hd (cs := #[.int .i64 a0_0, .slice A0_1 l0_1.length c0_1]) (t := 50) ?hr ?_; (case hd => rfl); (case hg => rfl); (case hr => first | (go_simp; done) | (go_simp; rfl)); intro gb205 hg w2 hbox hb; have n0_ := Aside0.mk (below_step (by repeat (first | (with_reducible first | exact HB.out | apply below_alloc | apply pw_below_drewN | apply below_drew1) | exact HB.out)) hb); have n1_ := Aside0.mk (hbox); have n2_ := Aside0.mk ((by rw [hg]; exact (below_size (by repeat (first | (with_reducible first | exact HB.out | apply below_alloc | apply pw_below_drewN | apply below_drew1) | exact HB.out))) : w.heap.size ≤ gb205)); have n3_ := Aside0.mk ((by rw [hg]; exact (below_size (by repeat (first | (with_reducible first | exact HB.out | apply below_alloc | apply pw_below_drewN | apply below_drew1) | exact HB.out))) : w.heap.size ≤ gb205)); clear HB; have HB := n0_; have BK205 := n1_; have GW205 := n2_; have GE205 := n3_; clear n0_ n1_ n2_ n3_; clear hb hbox hg))
 repeat (go_quiet (first | ((with_reducible refine gate_dst (N := 1) rfl ?_); (try (refine gate_guard (by rfl) ?_; dsimp only)); refine box_event ?hg (N := 1) ?hd (cs := #[.int .i64 a0_0, .slice A0_1 l0_1.length c0_1]) (t := 50) ?hr ?_; (case hd => rfl); (case hg => rfl); (case hr => first | (go_simp; done) | (go_simp; rfl)); intro gb205 hg w2 hbox hb; have n0_ := Aside0.mk (below_step (by repeat (first | (with_reducible first | exact HB.out | apply below_alloc | apply pw_below_drewN | apply below_drew1) | exact HB.out)) hb); have n1_ := Aside0.mk (hbox); have n2_ := Aside0.mk ((by rw [hg]; exact (below_size (by repeat (first | (with_reducible first | exact HB.out | apply below_alloc | apply pw_below_drewN | apply below_drew1) | exact HB.out))) : w.heap.size ≤ gb205)); have n3_ := Aside0.mk ((by rw [hg]; exact (below_size (by repeat (first | (with_reducible first | exact HB.out | apply below_alloc | apply pw_below_drewN | apply below_drew1) | exact HB.out))) : w.heap.size ≤ gb205)); clear HB; have HB := n0_; have BK205 := n1_; have GW205 := n2_; have GE205 := n3_; clear n0_ n1_ n2_ n3_; clear hb hbox hg)); try go_wp2_with (first | ((with_reducible refine gate_dst (N := 1) rfl ?_); (try (refine gate_guard (by rfl) ?_; dsimp only)); refine box_event ?hg (N := 1) ?hd (cs := #[.int .i64 a0_0, .slice A0_1 l0_1.length c0_1]) (t := 50) ?hr ?_; (case hd => rfl); (case hg => rfl); (case hr => first | (go_simp; done) | (go_simp; rfl)); intro gb205 hg w2 hbox hb; have n0_ := Aside0.mk (below_step (by repeat (first | (with_reducible first | exact HB.out | apply below_alloc | apply pw_below_drewN | apply below_drew1) | exact HB.out)) hb); have n1_ := Aside0.mk (hbox); have n2_ := Aside0.mk ((by rw [hg]; exact (below_size (by repeat (first | (with_reducible first | exact HB.out | apply below_alloc | apply pw_below_drewN | apply below_drew1) | exact HB.out))) : w.heap.size ≤ gb205)); have n3_ := Aside0.mk ((by rw [hg]; exact (below_size (by repeat (first | (with_reducible first | exact HB.out | apply below_alloc | apply pw_below_drewN | apply below_drew1) | exact HB.out))) : w.heap.size ≤ gb205)); clear HB; have HB := n0_; have BK205 := n1_; have GW205 := n2_; have GE205 := n3_; clear n0_ n1_ n2_ n3_; clear hb hbox hg)))
 go_loopg [3] k (fun kq v3 w' => ∃ (x3_1 : Int), v3 = .int .i64 x3_1 ∧ Aside0 (dragnetlaw18_sure.l0 kq x3_1 a0_0 l0_1 = some r) ∧ Aside0 (kq ≤ k) ∧ Aside0 (w'.heap[gb205]? = some (.cells #[.int .i64 a0_0, (.slice A0_1 l0_1.length c0_1)] 50 (0, 0))) ∧ Aside0 (Below w.heap.size w w'))
 case atStart => exact ⟨(0), (by first | rfl | (simp; done) | (simp [*]; done)), H', ⟨Nat.le_refl _⟩, ⟨by (with_reducible repeat (first | refine blk_drewN ?_ _ | refine blk_drew ?_ | refine blk_alloc ?_ _)); exact BK205.out⟩, ⟨by repeat (first | (with_reducible first | exact HB.out | apply below_alloc | apply pw_below_drewN | apply below_drew1 | refine below_set ?_ GE205.out) | exact HB.out)⟩⟩
 case round =>
  clear H'
  try clear p2
  obtain ⟨x3_1, rfl, HA, HK1, BK205, HB⟩ := hrel
  cases gk with
  | zero => exact absurd HA.out (by simp [dragnetlaw18_sure.l0])
  | succ k1 =>
   have H := HA.out
   clear HA
   simp only [dragnetlaw18_sure.l0] at H
   by_cases c3 : x3_1 < (l0_1.length : Int)
   ·rw [if_pos c3] at H
    have c3b0 : decide (x3_1 < (l0_1.length : Int)) = true := decide_eq_true c3
    clear c3
    by_cases c4 : 0 ≤ x3_1
    ·rw [if_pos c4] at H
     have c4b0 : decide (0 ≤ x3_1) = true := decide_eq_true c4
     clear c4
     by_cases c5 : ((rd_T84 l0_1 x3_1).f0).toList = ([109] : List UInt8)
     ·rw [if_pos c5] at H
      have c5b0 : (((rd_T84 l0_1 x3_1).f0).toList == ([109] : List UInt8)) = true := beq_iff_eq.mpr c5
      have c5b1 : (((rd_T84 l0_1 x3_1).f0).toList != ([109] : List UInt8)) = false := bne_eq_false_iff_eq.mpr c5
      clear c5
      by_cases c6 : ((rd_T84 l0_1 x3_1).f2) < (((rd_T84 l0_1 x3_1).f1).length : Int)
      ·rw [if_pos c6] at H
       have c6b0 : decide (((rd_T84 l0_1 x3_1).f2) < (((rd_T84 l0_1 x3_1).f1).length : Int)) = true := decide_eq_true c6
       clear c6
       obtain rfl := Option.some.inj H
       have hcz7_0 : wr.cell? ⟨gb205, 0, none⟩ = some (.int .i64 a0_0) := (blk_cell BK205.out 0).trans rfl
       have hcz7_1 : wr.cell? ⟨gb205, 1, none⟩ = some (.slice A0_1 l0_1.length c0_1) := (blk_cell BK205.out 1).trans rfl
       have hfz7_0 := blk_frozen BK205.out 0
       have hfz7_1 := blk_frozen BK205.out 1
       have p206 : 0 ≤ (x3_1 : Int) := of_decide_eq_true (by first | (with_reducible assumption) | assumption)
       have q206 : x3_1 < (l0_1.length : Int) := of_decide_eq_true (by first | (with_reducible assumption) | assumption)
       obtain ⟨ad206, A206_1, c206_1, e206, hx206_0, hx206_1, hx206_2, hl206_1, hi206_1⟩ := at_T84 HR0_1.out x3_1 p206 q206
       cases e206
       replace hx206_0 := (HB.out.cell (World.block_lt_of_cell? w _ hx206_0)).trans hx206_0
       replace hx206_1 := (HB.out.cell (World.block_lt_of_cell? w _ hx206_1)).trans hx206_1
       replace hx206_2 := (HB.out.cell (World.block_lt_of_cell? w _ hx206_2)).trans hx206_2
       have HR206_1 := Aside0.mk hi206_1
       have HC206_1 := Aside0.mk hl206_1
       clear hi206_1 hl206_1
       replace p206 := eq_true p206
       replace q206 := eq_true q206
       have p207 : 0 ≤ (x3_1 : Int) := of_decide_eq_true (by first | (with_reducible assumption) | assumption)
       have q207 : x3_1 < (l0_1.length : Int) := of_decide_eq_true (by first | (with_reducible assumption) | assumption)
       obtain ⟨ad207, A207_1, c207_1, e207, hx207_0, hx207_1, hx207_2, hl207_1, hi207_1⟩ := at_T84 HR0_1.out x3_1 p207 q207
       obtain rfl : ad206 = ad207 := (by injection e207)
       replace hx207_0 := (HB.out.cell (World.block_lt_of_cell? w _ hx207_0)).trans hx207_0
       replace hx207_1 := (HB.out.cell (World.block_lt_of_cell? w _ hx207_1)).trans hx207_1
       replace hx207_2 := (HB.out.cell (World.block_lt_of_cell? w _ hx207_2)).trans hx207_2
       have HR207_1 := Aside0.mk hi207_1
       have HC207_1 := Aside0.mk hl207_1
       clear hi207_1 hl207_1
       replace p207 := eq_true p207
       replace q207 := eq_true q207
       have ea_ := Option.some.inj (hx206_1.symm.trans hx207_1)
       injection ea_ with ea_ en_ ec_
       subst ea_
       subst ec_
       clear en_
       have p208 : 0 ≤ (x3_1 : Int) := of_decide_eq_true (by first | (with_reducible assumption) | assumption)
       have q208 : x3_1 < (l0_1.length : Int) := of_decide_eq_true (by first | (with_reducible assumption) | assumption)
       obtain ⟨ad208, A208_1, c208_1, e208, hx208_0, hx208_1, hx208_2, hl208_1, hi208_1⟩ := at_T84 HR0_1.out x3_1 p208 q208
       obtain rfl : ad206 = ad208 := (by injection e208)
       replace hx208_0 := (HB.out.cell (World.block_lt_of_cell? w _ hx208_0)).trans hx208_0
       replace hx208_1 := (HB.out.cell (World.block_lt_of_cell? w _ hx208_1)).trans hx208_1
       replace hx208_2 := (HB.out.cell (World.block_lt_of_cell? w _ hx208_2)).trans hx208_2
       have HR208_1 := Aside0.mk hi208_1
       have HC208_1 := Aside0.mk hl208_1
       clear hi208_1 hl208_1
       replace p208 := eq_true p208
       replace q208 := eq_true q208
       have ea_ := Option.some.inj (hx206_1.symm.trans hx208_1)
       injection ea_ with ea_ en_ ec_
       subst ea_
       subst ec_
       clear en_
       go_wp2
       repeat (go_quiet (fail); try go_wp2)
       go_ret
       exact ⟨by first | rfl | (simp [errW_none, errW_some] <;> rfl) | (simp [*, errW_none, errW_some] <;> rfl), by repeat (first | (with_reducible first | exact HB.out | apply below_alloc | apply pw_below_drewN | apply below_drew1 | refine below_set ?_ GE205.out) | exact HB.out)⟩
      ·rw [if_neg c6] at H
       have c6b0 : decide (((rd_T84 l0_1 x3_1).f2) < (((rd_T84 l0_1 x3_1).f1).length : Int)) = false := decide_eq_false c6
       clear c6
       have H' := Aside0.mk H
       clear H
       have hcz8_0 : wr.cell? ⟨gb205, 0, none⟩ = some (.int .i64 a0_0) := (blk_cell BK205.out 0).trans rfl
       have hcz8_1 : wr.cell? ⟨gb205, 1, none⟩ = some (.slice A0_1 l0_1.length c0_1) := (blk_cell BK205.out 1).trans rfl
       have hfz8_0 := blk_frozen BK205.out 0
       have hfz8_1 := blk_frozen BK205.out 1
       have p206 : 0 ≤ (x3_1 : Int) := of_decide_eq_true (by first | (with_reducible assumption) | assumption)
       have q206 : x3_1 < (l0_1.length : Int) := of_decide_eq_true (by first | (with_reducible assumption) | assumption)
       obtain ⟨ad206, A206_1, c206_1, e206, hx206_0, hx206_1, hx206_2, hl206_1, hi206_1⟩ := at_T84 HR0_1.out x3_1 p206 q206
       cases e206
       replace hx206_0 := (HB.out.cell (World.block_lt_of_cell? w _ hx206_0)).trans hx206_0
       replace hx206_1 := (HB.out.cell (World.block_lt_of_cell? w _ hx206_1)).trans hx206_1
       replace hx206_2 := (HB.out.cell (World.block_lt_of_cell? w _ hx206_2)).trans hx206_2
       have HR206_1 := Aside0.mk hi206_1
       have HC206_1 := Aside0.mk hl206_1
       clear hi206_1 hl206_1
       replace p206 := eq_true p206
       replace q206 := eq_true q206
       have p207 : 0 ≤ (x3_1 : Int) := of_decide_eq_true (by first | (with_reducible assumption) | assumption)
       have q207 : x3_1 < (l0_1.length : Int) := of_decide_eq_true (by first | (with_reducible assumption) | assumption)
       obtain ⟨ad207, A207_1, c207_1, e207, hx207_0, hx207_1, hx207_2, hl207_1, hi207_1⟩ := at_T84 HR0_1.out x3_1 p207 q207
       obtain rfl : ad206 = ad207 := (by injection e207)
       replace hx207_0 := (HB.out.cell (World.block_lt_of_cell? w _ hx207_0)).trans hx207_0
       replace hx207_1 := (HB.out.cell (World.block_lt_of_cell? w _ hx207_1)).trans hx207_1
       replace hx207_2 := (HB.out.cell (World.block_lt_of_cell? w _ hx207_2)).trans hx207_2
       have HR207_1 := Aside0.mk hi207_1
       have HC207_1 := Aside0.mk hl207_1
       clear hi207_1 hl207_1
       replace p207 := eq_true p207
       replace q207 := eq_true q207
       have ea_ := Option.some.inj (hx206_1.symm.trans hx207_1)
       injection ea_ with ea_ en_ ec_
       subst ea_
       subst ec_
       clear en_
       have p208 : 0 ≤ (x3_1 : Int) := of_decide_eq_true (by first | (with_reducible assumption) | assumption)
       have q208 : x3_1 < (l0_1.length : Int) := of_decide_eq_true (by first | (with_reducible assumption) | assumption)
       obtain ⟨ad208, A208_1, c208_1, e208, hx208_0, hx208_1, hx208_2, hl208_1, hi208_1⟩ := at_T84 HR0_1.out x3_1 p208 q208
       obtain rfl : ad206 = ad208 := (by injection e208)
       replace hx208_0 := (HB.out.cell (World.block_lt_of_cell? w _ hx208_0)).trans hx208_0
       replace hx208_1 := (HB.out.cell (World.block_lt_of_cell? w _ hx208_1)).trans hx208_1
       replace hx208_2 := (HB.out.cell (World.block_lt_of_cell? w _ hx208_2)).trans hx208_2
       have HR208_1 := Aside0.mk hi208_1
       have HC208_1 := Aside0.mk hl208_1
       clear hi208_1 hl208_1
       replace p208 := eq_true p208
       replace q208 := eq_true q208
       have ea_ := Option.some.inj (hx206_1.symm.trans hx208_1)
       injection ea_ with ea_ en_ ec_
       subst ea_
       subst ec_
       clear en_
       go_wp2
       repeat (go_quiet (fail); try go_wp2)
       go_roundg k1
       case measure => have := HK1.out; omega
       case rel => exact ⟨(wrap64 (x3_1 + 1)), (by first | rfl | (simp; done) | (simp [*]; done)), H', ⟨by have := HK1.out; omega⟩, ⟨by (with_reducible repeat (first | refine blk_drewN ?_ _ | refine blk_drew ?_ | refine blk_alloc ?_ _)); exact BK205.out⟩, ⟨by repeat (first | (with_reducible first | exact HB.out | apply below_alloc | apply pw_below_drewN | apply below_drew1 | refine below_set ?_ GE205.out) | exact HB.out)⟩⟩
     ·rw [if_neg c5] at H
      have c5b0 : (((rd_T84 l0_1 x3_1).f0).toList == ([109] : List UInt8)) = false := beq_eq_false_iff_ne.mpr c5
      have c5b1 : (((rd_T84 l0_1 x3_1).f0).toList != ([109] : List UInt8)) = true := bne_iff_ne.mpr c5
      have H' := Aside0.mk H
      clear H
      have hcz9_0 : wr.cell? ⟨gb205, 0, none⟩ = some (.int .i64 a0_0) := (blk_cell BK205.out 0).trans rfl
      have hcz9_1 : wr.cell? ⟨gb205, 1, none⟩ = some (.slice A0_1 l0_1.length c0_1) := (blk_cell BK205.out 1).trans rfl
      have hfz9_0 := blk_frozen BK205.out 0
      have hfz9_1 := blk_frozen BK205.out 1
      have p206 : 0 ≤ (x3_1 : Int) := of_decide_eq_true (by first | (with_reducible assumption) | assumption)
      have q206 : x3_1 < (l0_1.length : Int) := of_decide_eq_true (by first | (with_reducible assumption) | assumption)
      obtain ⟨ad206, A206_1, c206_1, e206, hx206_0, hx206_1, hx206_2, hl206_1, hi206_1⟩ := at_T84 HR0_1.out x3_1 p206 q206
      cases e206
      replace hx206_0 := (HB.out.cell (World.block_lt_of_cell? w _ hx206_0)).trans hx206_0
      replace hx206_1 := (HB.out.cell (World.block_lt_of_cell? w _ hx206_1)).trans hx206_1
      replace hx206_2 := (HB.out.cell (World.block_lt_of_cell? w _ hx206_2)).trans hx206_2
      have HR206_1 := Aside0.mk hi206_1
      have HC206_1 := Aside0.mk hl206_1
      clear hi206_1 hl206_1
      replace p206 := eq_true p206
      replace q206 := eq_true q206
      go_wp2
      repeat (go_quiet (fail); try go_wp2)
      go_roundg k1
      case measure => have := HK1.out; omega
      case rel => exact ⟨(wrap64 (x3_1 + 1)), (by first | rfl | (simp; done) | (simp [*]; done)), H', ⟨by have := HK1.out; omega⟩, ⟨by (with_reducible repeat (first | refine blk_drewN ?_ _ | refine blk_drew ?_ | refine blk_alloc ?_ _)); exact BK205.out⟩, ⟨by repeat (first | (with_reducible first | exact HB.out | apply below_alloc | apply pw_below_drewN | apply below_drew1 | refine below_set ?_ GE205.out) | exact HB.out)⟩⟩
    ·rw [if_neg c4] at H
     exact absurd H (by simp)
   ·rw [if_neg c3] at H
    have c3b0 : decide (x3_1 < (l0_1.length : Int)) = false := decide_eq_false c3
    clear c3
    obtain rfl := Option.some.inj H
    have hcz10_0 : wr.cell? ⟨gb205, 0, none⟩ = some (.int .i64 a0_0) := (blk_cell BK205.out 0).trans rfl
    have hcz10_1 : wr.cell? ⟨gb205, 1, none⟩ = some (.slice A0_1 l0_1.length c0_1) := (blk_cell BK205.out 1).trans rfl
    have hfz10_0 := blk_frozen BK205.out 0
    have hfz10_1 := blk_frozen BK205.out 1
    go_wp2
    repeat (go_quiet (fail); try go_wp2)
    go_ret
    exact ⟨by first | rfl | (simp [errW_none, errW_some] <;> rfl) | (simp [*, errW_none, errW_some] <;> rfl), by repeat (first | (with_reducible first | exact HB.out | apply below_alloc | apply pw_below_drewN | apply below_drew1 | refine below_set ?_ GE205.out) | exact HB.out)⟩
end Go.Proofs.YtdcifmonhaklcaaDoor.A
