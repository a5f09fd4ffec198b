/- Walks: each Go function told here comes to what the plain function beside it says, wherever that one answers. -/
import Derived.Test.YtdcifmonhaklcaaDoorTaAx0
import Derived.Test.YtdcifmonhaklcaaDoorTaAx7
import Derived.Test.YtdcifmonhaklcaaDoorTaAx8
import Derived.Test.YtdcifmonhaklcaaDoorTaAx9
import Derived.Test.YtdcifmonhaklcaaDoorTaAx12
namespace Go.Proofs.YtdcifmonhaklcaaDoor.A
open Go.RowKit YtdcifmonhaklcaaDoorW.PrintWords YtdcifmonhaklcaaDoorW.PrintLast YtdcifmonhaklcaaDoorW.PrintMore
attribute [local go_sem] max2_int min2_int max_two min_two
set_option linter.unusedVariables false
set_option linter.unusedSimpArgs false
theorem wr64 {x : Int} (h : -9223372036854775808 ≤ x ∧ x ≤ 9223372036854775807) : wrap64 x = x := by
 unfold wrap64
 omega
def Small (l : List S84) : Prop := l.length ≤ 140737488351232 ∧ ∀ j, (rd_T84 l j).f1.length ≤ 140737488351232
theorem tot_nonneg (l : List S84) : 0 ≤ totS l := by
 unfold totS
 induction l with
 | nil => simp
 | cons x r ih => rw [List.map_cons, List.sum_cons]; omega
theorem tot_append (a b : List S84) : totS (a ++ b) = totS a + totS b := by unfold totS; rw [List.map_append, List.sum_append]
theorem tot_cons (x : S84) (b : List S84) : totS (x :: b) = (x.f1.length : Int) + totS b := by unfold totS; rw [List.map_cons, List.sum_cons]
theorem tot_take_le (l : List S84) (i : Nat) : totS (l.take i) ≤ totS l := by
 conv => rhs; rw [← List.take_append_drop i l, tot_append]
 have := tot_nonneg (l.drop i)
 omega
theorem tot_at (l : List S84) (i : Nat) (h : i < l.length) : ((rd_T84 l (i : Int)).f1.length : Int) ≤ totS l := by
 have h1 := tot_snoc l i h
 have h2 := tot_take_le l (i + 1)
 have h3 := tot_nonneg (l.take i)
 omega
theorem used_l0 (room : Int) (l : List S84) (hs : Small l) (hr : 0 ≤ room ∧ room ≤ 67108864) : ∀ m i : Nat, l.length - i = m → i ≤ l.length → totS (l.take i) ≤ room →
  store_used.l0 (m + 1) (totS (l.take i)) l (l.length : Int) (i : Int) room l = some (if totS l ≤ room then totS l else -1)
 | 0, i, hm, hi, ht => by
  obtain rfl : i = l.length := by omega
  rw [List.take_length] at ht ⊢
  rw [store_used.l0, if_neg (Int.lt_irrefl _), if_pos ht]
 | m + 1, i, hm, hi, ht => by
  have hlt : i < l.length := by omega
  have h0 := tot_nonneg (l.take i)
  have hb := hs.2 (i : Int)
  have hsn := tot_snoc l i hlt
  rw [store_used.l0, if_pos (by omega), if_pos (by omega), if_pos (by omega), wr64 (by omega), wr64 (by have := hs.1; omega), ← hsn]
  have hle := tot_take_le l (i + 1)
  by_cases hc : totS (l.take (i + 1)) > room
  ·rw [if_pos hc, if_neg (by omega)]
  ·rw [if_neg hc, show (i : Int) + 1 = ((i + 1 : Nat) : Int) by omega]
   exact used_l0 room l hs hr m (i + 1) (by omega) hlt (by omega)
theorem used_plain (room : Int) (l : List S84) (hs : Small l) (hr : 0 ≤ room ∧ room ≤ 67108864) : store_used.f (l.length + 1) room l = some (if totS l ≤ room then totS l else -1) := by
 have h := used_l0 room l hs hr l.length 0 (by omega) (by omega) (by rw [List.take_zero]; exact hr.1)
 rw [List.take_zero] at h
 exact h
def okS (l : List S84) (i : Nat) : Prop := (1 ≤ (rd_T84 l i).f0.size ∧ (rd_T84 l i).f0.size ≤ 32) ∧ 0 ≤ (rd_T84 l i).f2 ∧ (rd_T84 l i).f2 ≤ (rd_T84 l i).f1.length ∧ (0 < i → cmpS (rd_T84 l ((i : Int) - 1)).f0 (rd_T84 l i).f0 < 0)
instance (l : List S84) (i : Nat) : Decidable (okS l i) := by unfold okS; exact inferInstance
theorem less_cmp : ∀ x y : List UInt8, Go.Op.bytesLess x y = true ↔ Lib.compareBytes x y < 0
 | [], [] => by simp [Go.Op.bytesLess, Lib.compareBytes]
 | [], _ :: _ => by simp [Go.Op.bytesLess, Lib.compareBytes]
 | _ :: _, [] => by simp [Go.Op.bytesLess, Lib.compareBytes]
 | a :: x, b :: y => by
  have ih := less_cmp x y
  unfold Go.Op.bytesLess Lib.compareBytes
  have t : ∀ p q : UInt8, p < q ↔ p.toNat < q.toNat := fun p q => UInt8.lt_iff_toNat_lt
  by_cases h : a < b
  ·simp [h]
  ·by_cases h2 : b < a
   ·have h3 : ¬ a = b := fun e => by subst e; exact h h2
    simp [h, h2, h3]
   ·have h3 : a = b := UInt8.toNat_inj.1 (by have h4 : ¬ a.toNat < b.toNat := fun hh => h ((t a b).2 hh); have h5 : ¬ b.toNat < a.toNat := fun hh => h2 ((t b a).2 hh); omega)
    subst h3
    simp [h, ih]
theorem less_S (a b : ByteArray) : Go.Op.bytesLess a.toList b.toList = true ↔ cmpS a b < 0 := by
 unfold cmpS
 rw [Lib.toList_data, Lib.toList_data]
 exact less_cmp _ _
theorem formed_iff (room : Int) (l : List S84) : FormedR room l ↔ ((∀ i, i < l.length → okS l i) ∧ 0 ≤ room ∧ room ≤ 67108864 ∧ l.length ≤ 256 ∧ totS l ≤ room) := by
 unfold FormedR
 constructor
 ·rintro ⟨h1, h2⟩
  refine ⟨fun i hi => ?_, h2⟩
  have h := h1 i hi
  exact ⟨h.1, h.2.1, h.2.2.1, fun h0 => (less_S _ _).1 (h.2.2.2.1 h0)⟩
 ·rintro ⟨h1, h2, h3, h4, h5⟩
  refine ⟨fun i hi => ?_, h2, h3, h4, h5⟩
  have h := h1 i hi
  have h6 := tot_at l i hi
  have h7 := tot_take_le l i
  exact ⟨h.1, h.2.1, h.2.2.1, fun h0 => (less_S _ _).2 (h.2.2.2 h0), by omega, by omega⟩
theorem named_plain (n : ByteArray) : store_named.f n = some (decide (1 ≤ n.size ∧ n.size ≤ 32)) := by
 unfold store_named.f
 have hs : n.toList.length = n.size := by rw [Lib.toList_data]; exact data_length n
 by_cases h : n.toList = []
 ·rw [if_pos h, decide_eq_false]
  intro hc
  rw [h] at hs
  simp at hs
  omega
 ·rw [if_neg h]
  have : 0 < n.size := by
   rw [← hs]
   exact List.length_pos_iff.2 h
  congr 1
  rw [decide_eq_decide]
  omega
theorem formed_l0 (room : Int) (l : List S84) (hs : Small l) (hr : 0 ≤ room ∧ room ≤ 67108864) : ∀ m i : Nat, l.length - i = m → i ≤ l.length → (∀ j, j < i → okS l j) →
  store_Formed.l0 (2 * m + l.length + 2) l (l.length : Int) (i : Int) room l = some (decide ((∀ i, i < l.length → okS l i) ∧ totS l ≤ room))
 | 0, i, hm, hi, hok => by
  obtain rfl : i = l.length := by omega
  rw [show 2 * 0 + l.length + 2 = (l.length + 1) + 1 by omega, store_Formed.l0, if_neg (Int.lt_irrefl _), used_plain room l hs hr, Option.bind_some]
  congr 1
  rw [decide_eq_decide]
  have := tot_nonneg l
  constructor
  ·intro h
   refine ⟨hok, ?_⟩
   by_cases hc : totS l ≤ room
   ·exact hc
   ·rw [if_neg hc] at h
    omega
  ·rintro ⟨_, h⟩
   rw [if_pos h]
   omega
 | m + 1, i, hm, hi, hok => by
  have hlt : i < l.length := by omega
  have hb := hs.2 (i : Int)
  have bad : ¬ okS l i → some false = some (decide ((∀ i, i < l.length → okS l i) ∧ totS l ≤ room)) := by
   intro h
   rw [decide_eq_false (fun h2 => h (h2.1 i hlt))]
  have next : okS l i → store_Formed.l0 (2 * m + l.length + 2) l (l.length : Int) (wrap64 ((i : Int) + 1)) room l = some (decide ((∀ i, i < l.length → okS l i) ∧ totS l ≤ room)) := by
   intro h
   rw [wr64 (by have := hs.1; omega), show (i : Int) + 1 = ((i + 1 : Nat) : Int) by omega]
   exact formed_l0 room l hs hr m (i + 1) (by omega) hlt (fun j hj => by
    rcases Nat.lt_succ_iff_lt_or_eq.1 hj with h1 | h1
    ·exact hok j h1
    ·exact h1 ▸ h)
  rw [show 2 * (m + 1) + l.length + 2 = (2 * m + l.length + 2) + 1 + 1 by omega, store_Formed.l0, if_pos (by omega), if_pos (by omega), if_pos (by omega), named_plain, Option.bind_some]
  by_cases h1 : 1 ≤ (rd_T84 l (i : Int)).f0.size ∧ (rd_T84 l (i : Int)).f0.size ≤ 32
  ·rw [decide_eq_true h1, if_pos rfl]
   by_cases h2 : (rd_T84 l (i : Int)).f2 < 0
   ·rw [if_pos h2, store_Formed.j2, if_pos rfl]
    exact bad (fun h => by have := h.2.1; omega)
   ·rw [if_neg h2]
    by_cases h3 : (rd_T84 l (i : Int)).f2 > ((rd_T84 l (i : Int)).f1.length : Int)
    ·rw [decide_eq_true h3, store_Formed.j2, if_pos rfl]
     exact bad (fun h => by have := h.2.2.1; omega)
    ·rw [decide_eq_false h3, store_Formed.j2, if_neg (by decide)]
     by_cases h4 : (i : Int) > 0
     ·rw [if_pos h4, wr64 (by have := hs.1; omega), if_pos (by omega), if_pos (by omega)]
      unfold strings_Compare.f
      rw [Option.bind_some]
      by_cases h5 : Lib.compareBytes (rd_T84 l ((i : Int) - 1)).f0.data.toList (rd_T84 l (i : Int)).f0.data.toList ≥ 0
      ·rw [if_pos h5]
       exact bad (fun h => by have := h.2.2.2 (by omega); unfold cmpS at this; omega)
      ·rw [if_neg h5]
       exact next ⟨h1, by omega, by omega, fun _ => by unfold cmpS; omega⟩
     ·rw [if_neg h4]
      exact next ⟨h1, by omega, by omega, fun h => by omega⟩
  ·rw [decide_eq_false h1, if_neg (by decide), store_Formed.j2, if_pos rfl]
   exact bad (fun h => h1 h.1)
theorem formed_plain (room : Int) (l : List S84) (hs : Small l) : store_Formed.f (3 * l.length + 3) room l = some (decide (FormedR room l)) := by
 unfold store_Formed.f
 have bad : ¬ (0 ≤ room ∧ room ≤ 67108864 ∧ l.length ≤ 256) → some false = some (decide (FormedR room l)) := by
  intro h
  rw [decide_eq_false (fun h2 => h ⟨h2.2.1, h2.2.2.1, h2.2.2.2.1⟩)]
 rw [show 3 * l.length + 3 = (3 * l.length + 2) + 1 by omega]
 by_cases h1 : room < 0
 ·rw [if_pos h1, store_Formed.j0, if_pos rfl]
  exact bad (by omega)
 ·rw [if_neg h1]
  by_cases h2 : room > 67108864
  ·rw [if_pos h2, store_Formed.j0, if_pos rfl]
   exact bad (by omega)
  ·rw [if_neg h2]
   by_cases h3 : (l.length : Int) > 256
   ·rw [decide_eq_true h3, store_Formed.j0, if_pos rfl]
    exact bad (by omega)
   ·rw [decide_eq_false h3, store_Formed.j0, if_neg (by decide)]
    have h := formed_l0 room l hs (by omega) l.length 0 (by omega) (by omega) (fun j hj => by omega)
    rw [show 3 * l.length + 2 = 2 * l.length + l.length + 2 by omega]
    refine h.trans ?_
    congr 1
    rw [decide_eq_decide, formed_iff]
    constructor
    ·rintro ⟨h4, h5⟩
     exact ⟨h4, by omega, by omega, by omega, h5⟩
    ·rintro ⟨h4, _, _, _, h5⟩
     exact ⟨h4, h5⟩
theorem formed_srt {room : Int} {l : List S84} (h : FormedR room l) : Srt l := by
 have hk := ((formed_iff room l).1 h).1
 have adj : ∀ i, i + 1 < l.length → cmpS (rd_T84 l (i : Int)).f0 (rd_T84 l ((i + 1 : Nat) : Int)).f0 < 0 := by
  intro i hi
  have := (hk (i + 1) hi).2.2.2 (by omega)
  rwa [show (((i + 1 : Nat) : Int)) - 1 = (i : Int) by omega] at this
 have all : ∀ d i, i + d + 1 < l.length → cmpS (rd_T84 l (i : Int)).f0 (rd_T84 l ((i + d + 1 : Nat) : Int)).f0 < 0 := by
  intro d
  induction d with
  | zero => intro i hi; exact adj i hi
  | succ d ih => intro i hi; exact cmpB_trans _ _ _ (ih i (by omega)) (adj (i + d + 1) hi)
 unfold Srt
 rw [List.pairwise_iff_getElem]
 intro i j hi hj hij
 have h2 := all (j - i - 1) i (by omega)
 rw [show i + (j - i - 1) + 1 = j by omega] at h2
 unfold rd_T84 at h2
 rw [Int.toNat_natCast, Int.toNat_natCast, List.getD_eq_getElem?_getD, List.getD_eq_getElem?_getD, List.getElem?_eq_getElem hi, List.getElem?_eq_getElem hj] at h2
 exact h2
def SmallD (l : List S84) : Prop := l.length ≤ 140737488351232 ∧ ∀ x ∈ l, x.f1.length ≤ 140737488351232
instance (l : List S84) : Decidable (SmallD l) := by unfold SmallD; exact inferInstance
theorem SmallD.small {l : List S84} (h : SmallD l) : Small l := by
 refine ⟨h.1, fun j => ?_⟩
 unfold rd_T84
 rw [List.getD_eq_getElem?_getD]
 cases hj : l[j.toNat]? with
 | none => exact Nat.zero_le _
 | some x => exact h.2 x (List.mem_of_getElem? hj)
def nmd (n : ByteArray) : Prop := 1 ≤ n.size ∧ n.size ≤ 32
instance (n : ByteArray) : Decidable (nmd n) := by unfold nmd; exact inferInstance
theorem named_nmd (n : ByteArray) : store_named.f n = some (decide (nmd n)) := by
 rw [named_plain]
 congr 1
def putAt (l : List S84) (i : Nat) (x : S84) : List S84 := l.take i ++ x :: l.drop i
def doL (l : List S84) (kind : Int) (name nto : ByteArray) (bytes : List Int) : List S84 :=
 let i := idxS l name
 let x := rd_T84 l (i : Int)
 if kind = 1 then (if foundS l name = true then l.set i ⟨x.f0, x.f1 ++ bytes, x.f2⟩ else putAt l i ⟨name, bytes, 0⟩)
 else if kind = 2 then l.set i ⟨x.f0, x.f1, (x.f1.length : Int)⟩
 else if kind = 4 then l.eraseIdx i
 else (if foundS (l.eraseIdx i) nto = true then (l.eraseIdx i).set (idxS (l.eraseIdx i) nto) ⟨nto, x.f1, x.f2⟩ else putAt (l.eraseIdx i) (idxS (l.eraseIdx i) nto) ⟨nto, x.f1, x.f2⟩)
def doR (room : Int) (l : List S84) (kind : Int) (name nto : ByteArray) (bytes : List Int) : Int × List S84 × Int :=
 if ¬ FormedR room l ∨ ¬ nmd name ∨ kind < 1 ∨ 4 < kind then (0, [], 1)
 else if kind = 3 ∧ ¬ nmd nto then (0, [], 1)
 else if foundS l name = false ∧ kind ≠ 1 then (0, [], 8)
 else if kind = 1 ∧ foundS l name = false ∧ l.length = 256 then (0, [], 6)
 else if kind = 1 ∧ totS l + (bytes.length : Int) > room then (0, [], 11)
 else (room, doL l kind name nto bytes, 0)
def store_Do.f (a0_0 : Int) (l0_1 : List S84) (a1_0 : Int) (a1_1 : ByteArray) (a1_2 : ByteArray) (l1_3 : List Int) : Option (Int × List S84 × Int) := if SmallD l0_1 ∧ l1_3.length ≤ 140737488351232 then some (doR a0_0 l0_1 a1_0 a1_1 a1_2 l1_3) else none
structure Rbox (w : World) (g2 g3 g4 : Nat) (d o z : Array Value) (W : World) : Prop where
 B : Below w.heap.size w W
 c2 : W.heap[g2]? = some (.cells d 50 (0, 0))
 c3 : W.heap[g3]? = some (.cells o 60 (0, 0))
 c4 : W.heap[g4]? = some (.cells z 50 (0, 0))
 l2 : w.heap.size ≤ g2
 l3 : g2 < g3
 l4 : g3 < g4
theorem Rbox.l {w : World} {g2 g3 g4 : Nat} {d o z : Array Value} {W : World} (h : Rbox w g2 g3 g4 d o z W) : w.heap.size ≤ g4 := Nat.le_trans h.l2 (Nat.le_of_lt (Nat.lt_trans h.l3 h.l4))
theorem Rbox.step {w : World} {g2 g3 g4 : Nat} {d o z : Array Value} {W W1 : World} (h : Rbox w g2 g3 g4 d o z W) (hb : Below W.heap.size W W1) : Rbox w g2 g3 g4 d o z W1 := ⟨below_step h.B hb, blk_below h.c2 hb, blk_below h.c3 hb, blk_below h.c4 hb, h.l2, h.l3, h.l4⟩
theorem Rbox.drew {w : World} {g2 g3 g4 : Nat} {d o z : Array Value} {W : World} (h : Rbox w g2 g3 g4 d o z W) : Rbox w g2 g3 g4 d o z W.drew := ⟨below_drew1 h.B, blk_drew h.c2, blk_drew h.c3, blk_drew h.c4, h.l2, h.l3, h.l4⟩
theorem Rbox.far {w : World} {g2 g3 g4 : Nat} {d o z : Array Value} {W : World} (h : Rbox w g2 g3 g4 d o z W) {g : Nat} (hg : g4 < g) (j : Nat) (u : Value) : Rbox w g2 g3 g4 d o z (W.setCell ⟨g, j, none⟩ u) := by
 have h2 := h.l2
 have h3 := h.l3
 have h4 := h.l4
 exact ⟨below_set h.B (by omega), blk_far h.c2 (show g2 ≠ g by omega) u, blk_far h.c3 (show g3 ≠ g by omega) u, blk_far h.c4 (show g4 ≠ g by omega) u, h2, h3, h4⟩
theorem Rbox.grown {w : World} {g2 g3 g4 : Nat} {d o z : Array Value} {W W1 : World} (h : Rbox w g2 g3 g4 d o z W) {row : Option Nat} (hb : Below w.heap.size w W1) (hg : W.grownBy W1 row) (hr : ∀ k, row = some k → g4 < k) : Rbox w g2 g3 g4 d o z W1 := by
 have h3 := h.l3
 have h4 := h.l4
 exact ⟨hb, blk_grown h.c2 hg (fun e => by have := hr _ e.symm; omega), blk_grown h.c3 hg (fun e => by have := hr _ e.symm; omega), blk_grown h.c4 hg (fun e => by have := hr _ e.symm; omega), h.l2, h3, h4⟩
theorem Rbox.vis {w : World} {g2 g3 g4 : Nat} {d0 d1 o0 o1 o2 o3 z0 z1 : Value} {W : World} (h : Rbox w g2 g3 g4 #[d0, d1] #[o0, o1, o2, o3] #[z0, z1] W) :
  W.cell? ⟨g2, 0, none⟩ = some d0 ∧ W.cell? ⟨g2, 1, none⟩ = some d1 ∧ W.cell? ⟨g3, 0, none⟩ = some o0 ∧ W.cell? ⟨g3, 1, none⟩ = some o1 ∧ W.cell? ⟨g3, 2, none⟩ = some o2 ∧ W.cell? ⟨g3, 3, none⟩ = some o3 ∧ W.cell? ⟨g4, 0, none⟩ = some z0 ∧ W.cell? ⟨g4, 1, none⟩ = some z1 ∧ W.frozen? ⟨g4, 0, none⟩ = false ∧ W.frozen? ⟨g4, 1, none⟩ = false :=
 ⟨(blk_cell h.c2 0).trans rfl, (blk_cell h.c2 1).trans rfl, (blk_cell h.c3 0).trans rfl, (blk_cell h.c3 1).trans rfl, (blk_cell h.c3 2).trans rfl, (blk_cell h.c3 3).trans rfl, (blk_cell h.c4 0).trans rfl, (blk_cell h.c4 1).trans rfl, blk_frozen h.c4 0, blk_frozen h.c4 1⟩
set_option maxHeartbeats 4000000 in
set_option maxRecDepth 100000 in
theorem do_bad1 (a0_0 : Int) (A0_1 : Option Addr) (c0_1 : Nat) (l0_1 : List S84) (a1_0 : Int) (a1_1 : ByteArray) (a1_2 : ByteArray) (A1_3 : Option Addr) (c1_3 : Nat) (l1_3 : List Int) (r1 : Int) (r2 : List S84) (r3 : Int) (w : World) (hr0_1 : Kd.C k84 w A0_1 l0_1.length l0_1) (hc0_1 : l0_1.length ≤ c0_1) (hr1_3 : Kd.C (Kd.int .u8) w A1_3 l1_3.length l1_3) (hc1_3 : l1_3.length ≤ c1_3) (hs : SmallD l0_1) (hf : ¬ FormedR a0_0 l0_1) (he : (0, [], 1) = (r1, r2, r3)) :
  Calls Tryd.prog 29 #[.agg #[.int .i64 a0_0, .slice A0_1 l0_1.length c0_1], .agg #[.int .i64 a1_0, .string a1_1, .string a1_2, .slice A1_3 l1_3.length c1_3]] w fun e w' => ∃ v1_ : Value, e = .returned (.tuple #[.agg #[.int .i64 r1, v1_], .int .i64 r3]) ∧ Kd.V k84 84 w' w.heap.size (fun k_ => w.heap.size ≤ k_) v1_ r2 ∧ Below w.heap.size w w' := by
 have HR := Aside0.mk hr0_1
 have HC := Aside0.mk hc0_1
 have HR3 := Aside0.mk hr1_3
 have HC3 := Aside0.mk hc1_3
 have HB := Aside0.mk (Below.refl w.heap.size w)
 clear hr0_1 hc0_1 hr1_3 hc1_3
 have hu24 := Tryd.underlying50
 have hu27 := Tryd.underlying60
 have hu61 := Tryd.underlying84
 have HF := Aside0.mk (show store_Formed.f (3 * l0_1.length + 3) a0_0 l0_1 = some false by rw [formed_plain a0_0 l0_1 hs.small, decide_eq_false hf])
 clear hs hf
 injection he with he1 he2
 injection he2 with he2 he3
 subst he1
 subst he2
 subst he3
 go_enter Tryd.func29, Tryd.ntmps29
 go_wp2_with (first
  | ((with_reducible refine gate_dst (N := 2) rfl ?_); refine box_event ?hg (N := 2) ?hd (cs := #[.int .i64 a0_0, .slice A0_1 l0_1.length c0_1]) (t := 50) ?hr ?_; (case hd => rfl); (case hg => rfl); (case hr => first | (go_simp; done) | (go_simp; rfl)); intro g2 hg2 w2 hbox hb; have HB2 := Aside0.mk (below_step HB.out hb); have CB2 := Aside0.mk hbox; have G2 := Aside0.mk (show w.heap.size ≤ g2 by rw [hg2]; exact below_size HB.out); clear hb hbox hg2 HB; have HB := HB2; clear HB2)
  | ((with_reducible refine gate_dst (N := 3) rfl ?_); refine box_event ?hg (N := 3) ?hd (cs := #[.int .i64 a1_0, .string a1_1, .string a1_2, .slice A1_3 l1_3.length c1_3]) (t := 60) ?hr ?_; (case hd => rfl); (case hg => rfl); (case hr => first | (go_simp; done) | (go_simp; rfl)); intro g3 hg3 w3 hbox hb; have HB3 := Aside0.mk (below_step HB.out hb); have CB3 := Aside0.mk hbox; have G23 := Aside0.mk (show g2 < g3 by rw [hg3]; exact blk_lt CB2.out); have CB2_ := Aside0.mk (blk_below CB2.out hb); clear hb hbox hg3 HB CB2; have HB := HB3; have CB2 := CB2_; clear HB3 CB2_)
  | ((with_reducible refine gate_dst (N := 4) rfl ?_); refine box_event ?hg (N := 4) ?hd (cs := #[.int .i64 0, .slice none 0 0]) (t := 50) ?hr ?_; (case hd => rfl); (case hg => rfl); (case hr => first | (go_simp; done) | (go_simp; rfl)); intro g4 hg4 w4 hbox hb; have HX := Aside0.mk (Rbox.mk (below_step HB.out hb) (blk_below CB2.out hb) (blk_below CB3.out hb) hbox G2.out G23.out (show g3 < g4 by rw [hg4]; exact blk_lt CB3.out)); clear hb hbox hg4 HB CB2 CB3 G2 G23; obtain ⟨v20, v21, v30, v31, v32, v33, v40, v41, f40, f41⟩ := HX.out.vis)
  | (go_at_call 48; (with_reducible refine (store_Formed.calls _ a0_0 A0_1 c0_1 l0_1 false _ (Kd.C_below HR.out HX.out.B) HC.out HF.out).mono ?_); rintro e w5 ⟨rfl, hb⟩; have HX_ := Aside0.mk (HX.out.step hb); clear HX hb v20 v21 v30 v31 v32 v33 v40 v41 f40 f41; have HX := HX_; clear HX_; obtain ⟨v20, v21, v30, v31, v32, v33, v40, v41, f40, f41⟩ := HX.out.vis))
 refine bodyPost_ret (results_ct rfl _ _ g4 50 #[.int .i64 0, .slice none 0 0] (0, 0) _ rfl (blk_put (cs := #[.int .i64 0, .slice none 0 0]) (blk_put (cs := #[.int .i64 0, .slice none 0 0]) HX.out.c4 0 _ rfl) 1 _ rfl) Tryd.underlying50 rfl (by kernel_rfl)) rfl ?_
 exact ⟨_, rfl, Kd.V_nil _ _ _ _ _, below_set (below_set HX.out.B HX.out.l) HX.out.l⟩
set_option maxHeartbeats 4000000 in
set_option maxRecDepth 100000 in
theorem do_bad2 (a0_0 : Int) (A0_1 : Option Addr) (c0_1 : Nat) (l0_1 : List S84) (a1_0 : Int) (a1_1 : ByteArray) (a1_2 : ByteArray) (A1_3 : Option Addr) (c1_3 : Nat) (l1_3 : List Int) (r1 : Int) (r2 : List S84) (r3 : Int) (w : World) (hr0_1 : Kd.C k84 w A0_1 l0_1.length l0_1) (hc0_1 : l0_1.length ≤ c0_1) (hr1_3 : Kd.C (Kd.int .u8) w A1_3 l1_3.length l1_3) (hc1_3 : l1_3.length ≤ c1_3) (hs : SmallD l0_1) (hf : FormedR a0_0 l0_1) (hn : ¬ nmd a1_1) (he : (0, [], 1) = (r1, r2, r3)) :
  Calls Tryd.prog 29 #[.agg #[.int .i64 a0_0, .slice A0_1 l0_1.length c0_1], .agg #[.int .i64 a1_0, .string a1_1, .string a1_2, .slice A1_3 l1_3.length c1_3]] w fun e w' => ∃ v1_ : Value, e = .returned (.tuple #[.agg #[.int .i64 r1, v1_], .int .i64 r3]) ∧ Kd.V k84 84 w' w.heap.size (fun k_ => w.heap.size ≤ k_) v1_ r2 ∧ Below w.heap.size w w' := by
 have HR := Aside0.mk hr0_1
 have HC := Aside0.mk hc0_1
 have HR3 := Aside0.mk hr1_3
 have HC3 := Aside0.mk hc1_3
 have HB := Aside0.mk (Below.refl w.heap.size w)
 clear hr0_1 hc0_1 hr1_3 hc1_3
 have hu24 := Tryd.underlying50
 have hu27 := Tryd.underlying60
 have hu61 := Tryd.underlying84
 have HF := Aside0.mk (show store_Formed.f (3 * l0_1.length + 3) a0_0 l0_1 = some true by rw [formed_plain a0_0 l0_1 hs.small, decide_eq_true hf])
 clear hs hf
 have HN := Aside0.mk (show store_named.f a1_1 = some false by rw [named_nmd, decide_eq_false hn])
 clear hn
 injection he with he1 he2
 injection he2 with he2 he3
 subst he1
 subst he2
 subst he3
 go_enter Tryd.func29, Tryd.ntmps29
 go_wp2_with (first
  | ((with_reducible refine gate_dst (N := 2) rfl ?_); refine box_event ?hg (N := 2) ?hd (cs := #[.int .i64 a0_0, .slice A0_1 l0_1.length c0_1]) (t := 50) ?hr ?_; (case hd => rfl); (case hg => rfl); (case hr => first | (go_simp; done) | (go_simp; rfl)); intro g2 hg2 w2 hbox hb; have HB2 := Aside0.mk (below_step HB.out hb); have CB2 := Aside0.mk hbox; have G2 := Aside0.mk (show w.heap.size ≤ g2 by rw [hg2]; exact below_size HB.out); clear hb hbox hg2 HB; have HB := HB2; clear HB2)
  | ((with_reducible refine gate_dst (N := 3) rfl ?_); refine box_event ?hg (N := 3) ?hd (cs := #[.int .i64 a1_0, .string a1_1, .string a1_2, .slice A1_3 l1_3.length c1_3]) (t := 60) ?hr ?_; (case hd => rfl); (case hg => rfl); (case hr => first | (go_simp; done) | (go_simp; rfl)); intro g3 hg3 w3 hbox hb; have HB3 := Aside0.mk (below_step HB.out hb); have CB3 := Aside0.mk hbox; have G23 := Aside0.mk (show g2 < g3 by rw [hg3]; exact blk_lt CB2.out); have CB2_ := Aside0.mk (blk_below CB2.out hb); clear hb hbox hg3 HB CB2; have HB := HB3; have CB2 := CB2_; clear HB3 CB2_)
  | ((with_reducible refine gate_dst (N := 4) rfl ?_); refine box_event ?hg (N := 4) ?hd (cs := #[.int .i64 0, .slice none 0 0]) (t := 50) ?hr ?_; (case hd => rfl); (case hg => rfl); (case hr => first | (go_simp; done) | (go_simp; rfl)); intro g4 hg4 w4 hbox hb; have HX := Aside0.mk (Rbox.mk (below_step HB.out hb) (blk_below CB2.out hb) (blk_below CB3.out hb) hbox G2.out G23.out (show g3 < g4 by rw [hg4]; exact blk_lt CB3.out)); clear hb hbox hg4 HB CB2 CB3 G2 G23; obtain ⟨v20, v21, v30, v31, v32, v33, v40, v41, f40, f41⟩ := HX.out.vis)
  | (go_at_call 48; (with_reducible refine (store_Formed.calls _ a0_0 A0_1 c0_1 l0_1 true _ (Kd.C_below HR.out HX.out.B) HC.out HF.out).mono ?_); rintro e w5 ⟨rfl, hb⟩; have HX_ := Aside0.mk (HX.out.step hb); clear HX hb v20 v21 v30 v31 v32 v33 v40 v41 f40 f41; have HX := HX_; clear HX_; obtain ⟨v20, v21, v30, v31, v32, v33, v40, v41, f40, f41⟩ := HX.out.vis)
  | (go_at_call 49; (with_reducible refine (store_named.calls a1_1 false _ HN.out).mono ?_); rintro e w6 ⟨rfl, hd⟩; have hb := Drawn0.below hd; clear hd; have HX_ := Aside0.mk (HX.out.step hb); clear HX hb v20 v21 v30 v31 v32 v33 v40 v41 f40 f41; have HX := HX_; clear HX_; obtain ⟨v20, v21, v30, v31, v32, v33, v40, v41, f40, f41⟩ := HX.out.vis))
 refine bodyPost_ret (results_ct rfl _ _ g4 50 #[.int .i64 0, .slice none 0 0] (0, 0) _ rfl (blk_put (cs := #[.int .i64 0, .slice none 0 0]) (blk_put (cs := #[.int .i64 0, .slice none 0 0]) HX.out.c4 0 _ rfl) 1 _ rfl) Tryd.underlying50 rfl (by kernel_rfl)) rfl ?_
 exact ⟨_, rfl, Kd.V_nil _ _ _ _ _, below_set (below_set HX.out.B HX.out.l) HX.out.l⟩
set_option maxHeartbeats 4000000 in
set_option maxRecDepth 100000 in
theorem do_bad3 (a0_0 : Int) (A0_1 : Option Addr) (c0_1 : Nat) (l0_1 : List S84) (a1_0 : Int) (a1_1 : ByteArray) (a1_2 : ByteArray) (A1_3 : Option Addr) (c1_3 : Nat) (l1_3 : List Int) (r1 : Int) (r2 : List S84) (r3 : Int) (w : World) (hr0_1 : Kd.C k84 w A0_1 l0_1.length l0_1) (hc0_1 : l0_1.length ≤ c0_1) (hr1_3 : Kd.C (Kd.int .u8) w A1_3 l1_3.length l1_3) (hc1_3 : l1_3.length ≤ c1_3) (hs : SmallD l0_1) (hf : FormedR a0_0 l0_1) (hn : nmd a1_1) (hk : a1_0 < 1) (he : (0, [], 1) = (r1, r2, r3)) :
  Calls Tryd.prog 29 #[.agg #[.int .i64 a0_0, .slice A0_1 l0_1.length c0_1], .agg #[.int .i64 a1_0, .string a1_1, .string a1_2, .slice A1_3 l1_3.length c1_3]] w fun e w' => ∃ v1_ : Value, e = .returned (.tuple #[.agg #[.int .i64 r1, v1_], .int .i64 r3]) ∧ Kd.V k84 84 w' w.heap.size (fun k_ => w.heap.size ≤ k_) v1_ r2 ∧ Below w.heap.size w w' := by
 have HR := Aside0.mk hr0_1
 have HC := Aside0.mk hc0_1
 have HR3 := Aside0.mk hr1_3
 have HC3 := Aside0.mk hc1_3
 have HB := Aside0.mk (Below.refl w.heap.size w)
 clear hr0_1 hc0_1 hr1_3 hc1_3
 have hu24 := Tryd.underlying50
 have hu27 := Tryd.underlying60
 have hu61 := Tryd.underlying84
 have HF := Aside0.mk (show store_Formed.f (3 * l0_1.length + 3) a0_0 l0_1 = some true by rw [formed_plain a0_0 l0_1 hs.small, decide_eq_true hf])
 clear hs hf
 have HN := Aside0.mk (show store_named.f a1_1 = some true by rw [named_nmd, decide_eq_true hn])
 clear hn
 have hkd := decide_eq_true hk
 injection he with he1 he2
 injection he2 with he2 he3
 subst he1
 subst he2
 subst he3
 go_enter Tryd.func29, Tryd.ntmps29
 go_wp2_with (first
  | ((with_reducible refine gate_dst (N := 2) rfl ?_); refine box_event ?hg (N := 2) ?hd (cs := #[.int .i64 a0_0, .slice A0_1 l0_1.length c0_1]) (t := 50) ?hr ?_; (case hd => rfl); (case hg => rfl); (case hr => first | (go_simp; done) | (go_simp; rfl)); intro g2 hg2 w2 hbox hb; have HB2 := Aside0.mk (below_step HB.out hb); have CB2 := Aside0.mk hbox; have G2 := Aside0.mk (show w.heap.size ≤ g2 by rw [hg2]; exact below_size HB.out); clear hb hbox hg2 HB; have HB := HB2; clear HB2)
  | ((with_reducible refine gate_dst (N := 3) rfl ?_); refine box_event ?hg (N := 3) ?hd (cs := #[.int .i64 a1_0, .string a1_1, .string a1_2, .slice A1_3 l1_3.length c1_3]) (t := 60) ?hr ?_; (case hd => rfl); (case hg => rfl); (case hr => first | (go_simp; done) | (go_simp; rfl)); intro g3 hg3 w3 hbox hb; have HB3 := Aside0.mk (below_step HB.out hb); have CB3 := Aside0.mk hbox; have G23 := Aside0.mk (show g2 < g3 by rw [hg3]; exact blk_lt CB2.out); have CB2_ := Aside0.mk (blk_below CB2.out hb); clear hb hbox hg3 HB CB2; have HB := HB3; have CB2 := CB2_; clear HB3 CB2_)
  | ((with_reducible refine gate_dst (N := 4) rfl ?_); refine box_event ?hg (N := 4) ?hd (cs := #[.int .i64 0, .slice none 0 0]) (t := 50) ?hr ?_; (case hd => rfl); (case hg => rfl); (case hr => first | (go_simp; done) | (go_simp; rfl)); intro g4 hg4 w4 hbox hb; have HX := Aside0.mk (Rbox.mk (below_step HB.out hb) (blk_below CB2.out hb) (blk_below CB3.out hb) hbox G2.out G23.out (show g3 < g4 by rw [hg4]; exact blk_lt CB3.out)); clear hb hbox hg4 HB CB2 CB3 G2 G23; obtain ⟨v20, v21, v30, v31, v32, v33, v40, v41, f40, f41⟩ := HX.out.vis)
  | (go_at_call 48; (with_reducible refine (store_Formed.calls _ a0_0 A0_1 c0_1 l0_1 true _ (Kd.C_below HR.out HX.out.B) HC.out HF.out).mono ?_); rintro e w5 ⟨rfl, hb⟩; have HX_ := Aside0.mk (HX.out.step hb); clear HX hb v20 v21 v30 v31 v32 v33 v40 v41 f40 f41; have HX := HX_; clear HX_; obtain ⟨v20, v21, v30, v31, v32, v33, v40, v41, f40, f41⟩ := HX.out.vis)
  | (go_at_call 49; (with_reducible refine (store_named.calls a1_1 true _ HN.out).mono ?_); rintro e w6 ⟨rfl, hd⟩; have hb := Drawn0.below hd; clear hd; have HX_ := Aside0.mk (HX.out.step hb); clear HX hb v20 v21 v30 v31 v32 v33 v40 v41 f40 f41; have HX := HX_; clear HX_; obtain ⟨v20, v21, v30, v31, v32, v33, v40, v41, f40, f41⟩ := HX.out.vis))
 refine bodyPost_ret (results_ct rfl _ _ g4 50 #[.int .i64 0, .slice none 0 0] (0, 0) _ rfl (blk_put (cs := #[.int .i64 0, .slice none 0 0]) (blk_put (cs := #[.int .i64 0, .slice none 0 0]) HX.out.c4 0 _ rfl) 1 _ rfl) Tryd.underlying50 rfl (by kernel_rfl)) rfl ?_
 exact ⟨_, rfl, Kd.V_nil _ _ _ _ _, below_set (below_set HX.out.B HX.out.l) HX.out.l⟩
set_option maxHeartbeats 4000000 in
set_option maxRecDepth 100000 in
theorem do_bad4 (a0_0 : Int) (A0_1 : Option Addr) (c0_1 : Nat) (l0_1 : List S84) (a1_0 : Int) (a1_1 : ByteArray) (a1_2 : ByteArray) (A1_3 : Option Addr) (c1_3 : Nat) (l1_3 : List Int) (r1 : Int) (r2 : List S84) (r3 : Int) (w : World) (hr0_1 : Kd.C k84 w A0_1 l0_1.length l0_1) (hc0_1 : l0_1.length ≤ c0_1) (hr1_3 : Kd.C (Kd.int .u8) w A1_3 l1_3.length l1_3) (hc1_3 : l1_3.length ≤ c1_3) (hs : SmallD l0_1) (hf : FormedR a0_0 l0_1) (hn : nmd a1_1) (hk : 4 < a1_0) (he : (0, [], 1) = (r1, r2, r3)) :
  Calls Tryd.prog 29 #[.agg #[.int .i64 a0_0, .slice A0_1 l0_1.length c0_1], .agg #[.int .i64 a1_0, .string a1_1, .string a1_2, .slice A1_3 l1_3.length c1_3]] w fun e w' => ∃ v1_ : Value, e = .returned (.tuple #[.agg #[.int .i64 r1, v1_], .int .i64 r3]) ∧ Kd.V k84 84 w' w.heap.size (fun k_ => w.heap.size ≤ k_) v1_ r2 ∧ Below w.heap.size w w' := by
 have HR := Aside0.mk hr0_1
 have HC := Aside0.mk hc0_1
 have HR3 := Aside0.mk hr1_3
 have HC3 := Aside0.mk hc1_3
 have HB := Aside0.mk (Below.refl w.heap.size w)
 clear hr0_1 hc0_1 hr1_3 hc1_3
 have hu24 := Tryd.underlying50
 have hu27 := Tryd.underlying60
 have hu61 := Tryd.underlying84
 have HF := Aside0.mk (show store_Formed.f (3 * l0_1.length + 3) a0_0 l0_1 = some true by rw [formed_plain a0_0 l0_1 hs.small, decide_eq_true hf])
 clear hs hf
 have HN := Aside0.mk (show store_named.f a1_1 = some true by rw [named_nmd, decide_eq_true hn])
 clear hn
 have hkd := decide_eq_true hk
 have hk1 : decide (a1_0 < 1) = false := decide_eq_false (by omega)
 injection he with he1 he2
 injection he2 with he2 he3
 subst he1
 subst he2
 subst he3
 go_enter Tryd.func29, Tryd.ntmps29
 go_wp2_with (first
  | ((with_reducible refine gate_dst (N := 2) rfl ?_); refine box_event ?hg (N := 2) ?hd (cs := #[.int .i64 a0_0, .slice A0_1 l0_1.length c0_1]) (t := 50) ?hr ?_; (case hd => rfl); (case hg => rfl); (case hr => first | (go_simp; done) | (go_simp; rfl)); intro g2 hg2 w2 hbox hb; have HB2 := Aside0.mk (below_step HB.out hb); have CB2 := Aside0.mk hbox; have G2 := Aside0.mk (show w.heap.size ≤ g2 by rw [hg2]; exact below_size HB.out); clear hb hbox hg2 HB; have HB := HB2; clear HB2)
  | ((with_reducible refine gate_dst (N := 3) rfl ?_); refine box_event ?hg (N := 3) ?hd (cs := #[.int .i64 a1_0, .string a1_1, .string a1_2, .slice A1_3 l1_3.length c1_3]) (t := 60) ?hr ?_; (case hd => rfl); (case hg => rfl); (case hr => first | (go_simp; done) | (go_simp; rfl)); intro g3 hg3 w3 hbox hb; have HB3 := Aside0.mk (below_step HB.out hb); have CB3 := Aside0.mk hbox; have G23 := Aside0.mk (show g2 < g3 by rw [hg3]; exact blk_lt CB2.out); have CB2_ := Aside0.mk (blk_below CB2.out hb); clear hb hbox hg3 HB CB2; have HB := HB3; have CB2 := CB2_; clear HB3 CB2_)
  | ((with_reducible refine gate_dst (N := 4) rfl ?_); refine box_event ?hg (N := 4) ?hd (cs := #[.int .i64 0, .slice none 0 0]) (t := 50) ?hr ?_; (case hd => rfl); (case hg => rfl); (case hr => first | (go_simp; done) | (go_simp; rfl)); intro g4 hg4 w4 hbox hb; have HX := Aside0.mk (Rbox.mk (below_step HB.out hb) (blk_below CB2.out hb) (blk_below CB3.out hb) hbox G2.out G23.out (show g3 < g4 by rw [hg4]; exact blk_lt CB3.out)); clear hb hbox hg4 HB CB2 CB3 G2 G23; obtain ⟨v20, v21, v30, v31, v32, v33, v40, v41, f40, f41⟩ := HX.out.vis)
  | (go_at_call 48; (with_reducible refine (store_Formed.calls _ a0_0 A0_1 c0_1 l0_1 true _ (Kd.C_below HR.out HX.out.B) HC.out HF.out).mono ?_); rintro e w5 ⟨rfl, hb⟩; have HX_ := Aside0.mk (HX.out.step hb); clear HX hb v20 v21 v30 v31 v32 v33 v40 v41 f40 f41; have HX := HX_; clear HX_; obtain ⟨v20, v21, v30, v31, v32, v33, v40, v41, f40, f41⟩ := HX.out.vis)
  | (go_at_call 49; (with_reducible refine (store_named.calls a1_1 true _ HN.out).mono ?_); rintro e w6 ⟨rfl, hd⟩; have hb := Drawn0.below hd; clear hd; have HX_ := Aside0.mk (HX.out.step hb); clear HX hb v20 v21 v30 v31 v32 v33 v40 v41 f40 f41; have HX := HX_; clear HX_; obtain ⟨v20, v21, v30, v31, v32, v33, v40, v41, f40, f41⟩ := HX.out.vis))
 refine bodyPost_ret (results_ct rfl _ _ g4 50 #[.int .i64 0, .slice none 0 0] (0, 0) _ rfl (blk_put (cs := #[.int .i64 0, .slice none 0 0]) (blk_put (cs := #[.int .i64 0, .slice none 0 0]) HX.out.c4 0 _ rfl) 1 _ rfl) Tryd.underlying50 rfl (by kernel_rfl)) rfl ?_
 exact ⟨_, rfl, Kd.V_nil _ _ _ _ _, below_set (below_set HX.out.B HX.out.l) HX.out.l⟩
set_option maxHeartbeats 4000000 in
set_option maxRecDepth 100000 in
theorem do_bad5 (a0_0 : Int) (A0_1 : Option Addr) (c0_1 : Nat) (l0_1 : List S84) (a1_0 : Int) (a1_1 : ByteArray) (a1_2 : ByteArray) (A1_3 : Option Addr) (c1_3 : Nat) (l1_3 : List Int) (r1 : Int) (r2 : List S84) (r3 : Int) (w : World) (hr0_1 : Kd.C k84 w A0_1 l0_1.length l0_1) (hc0_1 : l0_1.length ≤ c0_1) (hr1_3 : Kd.C (Kd.int .u8) w A1_3 l1_3.length l1_3) (hc1_3 : l1_3.length ≤ c1_3) (hs : SmallD l0_1) (hf : FormedR a0_0 l0_1) (hn : nmd a1_1) (hk : a1_0 = 3) (ht : ¬ nmd a1_2) (he : (0, [], 1) = (r1, r2, r3)) :
  Calls Tryd.prog 29 #[.agg #[.int .i64 a0_0, .slice A0_1 l0_1.length c0_1], .agg #[.int .i64 a1_0, .string a1_1, .string a1_2, .slice A1_3 l1_3.length c1_3]] w fun e w' => ∃ v1_ : Value, e = .returned (.tuple #[.agg #[.int .i64 r1, v1_], .int .i64 r3]) ∧ Kd.V k84 84 w' w.heap.size (fun k_ => w.heap.size ≤ k_) v1_ r2 ∧ Below w.heap.size w w' := by
 have HR := Aside0.mk hr0_1
 have HC := Aside0.mk hc0_1
 have HR3 := Aside0.mk hr1_3
 have HC3 := Aside0.mk hc1_3
 have HB := Aside0.mk (Below.refl w.heap.size w)
 clear hr0_1 hc0_1 hr1_3 hc1_3
 have hu24 := Tryd.underlying50
 have hu27 := Tryd.underlying60
 have hu61 := Tryd.underlying84
 have hk3 : decide (a1_0 = 3) = true := decide_eq_true hk
 have hk3b : (a1_0 == 3) = true := by simp [hk]
 have hk1 : decide (a1_0 < 1) = false := decide_eq_false (by omega)
 have hk4 : decide (4 < a1_0) = false := decide_eq_false (by omega)
 clear hk
 have HF := Aside0.mk (show store_Formed.f (3 * l0_1.length + 3) a0_0 l0_1 = some true by rw [formed_plain a0_0 l0_1 hs.small, decide_eq_true hf])
 clear hs hf
 have HN := Aside0.mk (show store_named.f a1_1 = some true by rw [named_nmd, decide_eq_true hn])
 clear hn
 have HT := Aside0.mk (show store_named.f a1_2 = some false by rw [named_nmd, decide_eq_false ht])
 clear ht
 injection he with he1 he2
 injection he2 with he2 he3
 subst he1
 subst he2
 subst he3
 go_enter Tryd.func29, Tryd.ntmps29
 go_wp2_with (first
  | ((with_reducible refine gate_dst (N := 2) rfl ?_); refine box_event ?hg (N := 2) ?hd (cs := #[.int .i64 a0_0, .slice A0_1 l0_1.length c0_1]) (t := 50) ?hr ?_; (case hd => rfl); (case hg => rfl); (case hr => first | (go_simp; done) | (go_simp; rfl)); intro g2 hg2 w2 hbox hb; have HB2 := Aside0.mk (below_step HB.out hb); have CB2 := Aside0.mk hbox; have G2 := Aside0.mk (show w.heap.size ≤ g2 by rw [hg2]; exact below_size HB.out); clear hb hbox hg2 HB; have HB := HB2; clear HB2)
  | ((with_reducible refine gate_dst (N := 3) rfl ?_); refine box_event ?hg (N := 3) ?hd (cs := #[.int .i64 a1_0, .string a1_1, .string a1_2, .slice A1_3 l1_3.length c1_3]) (t := 60) ?hr ?_; (case hd => rfl); (case hg => rfl); (case hr => first | (go_simp; done) | (go_simp; rfl)); intro g3 hg3 w3 hbox hb; have HB3 := Aside0.mk (below_step HB.out hb); have CB3 := Aside0.mk hbox; have G23 := Aside0.mk (show g2 < g3 by rw [hg3]; exact blk_lt CB2.out); have CB2_ := Aside0.mk (blk_below CB2.out hb); clear hb hbox hg3 HB CB2; have HB := HB3; have CB2 := CB2_; clear HB3 CB2_)
  | ((with_reducible refine gate_dst (N := 4) rfl ?_); refine box_event ?hg (N := 4) ?hd (cs := #[.int .i64 0, .slice none 0 0]) (t := 50) ?hr ?_; (case hd => rfl); (case hg => rfl); (case hr => first | (go_simp; done) | (go_simp; rfl)); intro g4 hg4 w4 hbox hb; have HX := Aside0.mk (Rbox.mk (below_step HB.out hb) (blk_below CB2.out hb) (blk_below CB3.out hb) hbox G2.out G23.out (show g3 < g4 by rw [hg4]; exact blk_lt CB3.out)); clear hb hbox hg4 HB CB2 CB3 G2 G23; obtain ⟨v20, v21, v30, v31, v32, v33, v40, v41, f40, f41⟩ := HX.out.vis)
  | (go_at_call 48; (with_reducible refine (store_Formed.calls _ a0_0 A0_1 c0_1 l0_1 true _ (Kd.C_below HR.out HX.out.B) HC.out HF.out).mono ?_); rintro e w5 ⟨rfl, hb⟩; have HX_ := Aside0.mk (HX.out.step hb); clear HX hb v20 v21 v30 v31 v32 v33 v40 v41 f40 f41; have HX := HX_; clear HX_; obtain ⟨v20, v21, v30, v31, v32, v33, v40, v41, f40, f41⟩ := HX.out.vis)
  | (go_at_call 49; (with_reducible refine (store_named.calls a1_1 true _ HN.out).mono ?_); rintro e w6 ⟨rfl, hd⟩; have hb := Drawn0.below hd; clear hd; have HX_ := Aside0.mk (HX.out.step hb); clear HX hb v20 v21 v30 v31 v32 v33 v40 v41 f40 f41; have HX := HX_; clear HX_; obtain ⟨v20, v21, v30, v31, v32, v33, v40, v41, f40, f41⟩ := HX.out.vis)
  | (go_at_call 49; (with_reducible refine (store_named.calls a1_2 false _ HT.out).mono ?_); rintro e w7 ⟨rfl, hd⟩; have hb := Drawn0.below hd; clear hd; have HX_ := Aside0.mk (HX.out.step hb); clear HX hb v20 v21 v30 v31 v32 v33 v40 v41 f40 f41; have HX := HX_; clear HX_; obtain ⟨v20, v21, v30, v31, v32, v33, v40, v41, f40, f41⟩ := HX.out.vis))
 refine bodyPost_ret (results_ct rfl _ _ g4 50 #[.int .i64 0, .slice none 0 0] (0, 0) _ rfl (blk_put (cs := #[.int .i64 0, .slice none 0 0]) (blk_put (cs := #[.int .i64 0, .slice none 0 0]) HX.out.c4 0 _ rfl) 1 _ rfl) Tryd.underlying50 rfl (by kernel_rfl)) rfl ?_
 exact ⟨_, rfl, Kd.V_nil _ _ _ _ _, below_set (below_set HX.out.B HX.out.l) HX.out.l⟩
set_option maxHeartbeats 4000000 in
set_option maxRecDepth 100000 in
theorem do_bad6 (a0_0 : Int) (A0_1 : Option Addr) (c0_1 : Nat) (l0_1 : List S84) (a1_0 : Int) (a1_1 : ByteArray) (a1_2 : ByteArray) (A1_3 : Option Addr) (c1_3 : Nat) (l1_3 : List Int) (r1 : Int) (r2 : List S84) (r3 : Int) (w : World) (hr0_1 : Kd.C k84 w A0_1 l0_1.length l0_1) (hc0_1 : l0_1.length ≤ c0_1) (hr1_3 : Kd.C (Kd.int .u8) w A1_3 l1_3.length l1_3) (hc1_3 : l1_3.length ≤ c1_3) (hs : SmallD l0_1) (hf : FormedR a0_0 l0_1) (hn : nmd a1_1) (hk : 1 ≤ a1_0 ∧ a1_0 ≤ 4) (hfo : foundS l0_1 a1_1 = false) (hk2 : a1_0 ≠ 1) (h3 : a1_0 ≠ 3) (he : (0, [], 8) = (r1, r2, r3)) :
  Calls Tryd.prog 29 #[.agg #[.int .i64 a0_0, .slice A0_1 l0_1.length c0_1], .agg #[.int .i64 a1_0, .string a1_1, .string a1_2, .slice A1_3 l1_3.length c1_3]] w fun e w' => ∃ v1_ : Value, e = .returned (.tuple #[.agg #[.int .i64 r1, v1_], .int .i64 r3]) ∧ Kd.V k84 84 w' w.heap.size (fun k_ => w.heap.size ≤ k_) v1_ r2 ∧ Below w.heap.size w w' := by
 have HR := Aside0.mk hr0_1
 have HC := Aside0.mk hc0_1
 have HR3 := Aside0.mk hr1_3
 have HC3 := Aside0.mk hc1_3
 have HB := Aside0.mk (Below.refl w.heap.size w)
 clear hr0_1 hc0_1 hr1_3 hc1_3
 have hu24 := Tryd.underlying50
 have hu27 := Tryd.underlying60
 have hu61 := Tryd.underlying84
 have hk1 : decide (a1_0 < 1) = false := decide_eq_false (by omega)
 have hk4 : decide (4 < a1_0) = false := decide_eq_false (by omega)
 have hk3 : decide (a1_0 = 3) = false := decide_eq_false (by omega)
 have hk3b : (a1_0 == 3) = false := by simp; omega
 have hq1 : decide (a1_0 = 1) = false := decide_eq_false (by omega)
 have hq1b : (a1_0 == 1) = false := by simp; omega
 have hne1 : decide (a1_0 ≠ 1) = true := decide_eq_true hk2
 have hne1b : (a1_0 != 1) = true := by simp; omega
 have HFI := Aside0.mk (show store_find.f l0_1 a1_1 = some ((idxS l0_1 a1_1 : Int), false) by unfold store_find.f; rw [if_pos ⟨by have := hf.2.2.2.1; omega, formed_srt hf⟩, hfo])
 clear hfo
 have HF := Aside0.mk (show store_Formed.f (3 * l0_1.length + 3) a0_0 l0_1 = some true by rw [formed_plain a0_0 l0_1 hs.small, decide_eq_true hf])
 clear hs hf
 have HN := Aside0.mk (show store_named.f a1_1 = some true by rw [named_nmd, decide_eq_true hn])
 clear hn
 clear hk hk2 h3
 injection he with he1 he2
 injection he2 with he2 he3
 subst he1
 subst he2
 subst he3
 go_enter Tryd.func29, Tryd.ntmps29
 go_wp2_with (first
  | ((with_reducible refine gate_dst (N := 2) rfl ?_); refine box_event ?hg (N := 2) ?hd (cs := #[.int .i64 a0_0, .slice A0_1 l0_1.length c0_1]) (t := 50) ?hr ?_; (case hd => rfl); (case hg => rfl); (case hr => first | (go_simp; done) | (go_simp; rfl)); intro g2 hg2 w2 hbox hb; have HB2 := Aside0.mk (below_step HB.out hb); have CB2 := Aside0.mk hbox; have G2 := Aside0.mk (show w.heap.size ≤ g2 by rw [hg2]; exact below_size HB.out); clear hb hbox hg2 HB; have HB := HB2; clear HB2)
  | ((with_reducible refine gate_dst (N := 3) rfl ?_); refine box_event ?hg (N := 3) ?hd (cs := #[.int .i64 a1_0, .string a1_1, .string a1_2, .slice A1_3 l1_3.length c1_3]) (t := 60) ?hr ?_; (case hd => rfl); (case hg => rfl); (case hr => first | (go_simp; done) | (go_simp; rfl)); intro g3 hg3 w3 hbox hb; have HB3 := Aside0.mk (below_step HB.out hb); have CB3 := Aside0.mk hbox; have G23 := Aside0.mk (show g2 < g3 by rw [hg3]; exact blk_lt CB2.out); have CB2_ := Aside0.mk (blk_below CB2.out hb); clear hb hbox hg3 HB CB2; have HB := HB3; have CB2 := CB2_; clear HB3 CB2_)
  | ((with_reducible refine gate_dst (N := 4) rfl ?_); refine box_event ?hg (N := 4) ?hd (cs := #[.int .i64 0, .slice none 0 0]) (t := 50) ?hr ?_; (case hd => rfl); (case hg => rfl); (case hr => first | (go_simp; done) | (go_simp; rfl)); intro g4 hg4 w4 hbox hb; have HX := Aside0.mk (Rbox.mk (below_step HB.out hb) (blk_below CB2.out hb) (blk_below CB3.out hb) hbox G2.out G23.out (show g3 < g4 by rw [hg4]; exact blk_lt CB3.out)); clear hb hbox hg4 HB CB2 CB3 G2 G23; obtain ⟨v20, v21, v30, v31, v32, v33, v40, v41, f40, f41⟩ := HX.out.vis)
  | (go_at_call 48; (with_reducible refine (store_Formed.calls _ a0_0 A0_1 c0_1 l0_1 true _ (Kd.C_below HR.out HX.out.B) HC.out HF.out).mono ?_); rintro e w5 ⟨rfl, hb⟩; have HX_ := Aside0.mk (HX.out.step hb); clear HX hb v20 v21 v30 v31 v32 v33 v40 v41 f40 f41; have HX := HX_; clear HX_; obtain ⟨v20, v21, v30, v31, v32, v33, v40, v41, f40, f41⟩ := HX.out.vis)
  | (go_at_call 49; (with_reducible refine (store_named.calls a1_1 true _ HN.out).mono ?_); rintro e w6 ⟨rfl, hd⟩; have hb := Drawn0.below hd; clear hd; have HX_ := Aside0.mk (HX.out.step hb); clear HX hb v20 v21 v30 v31 v32 v33 v40 v41 f40 f41; have HX := HX_; clear HX_; obtain ⟨v20, v21, v30, v31, v32, v33, v40, v41, f40, f41⟩ := HX.out.vis)
  | (go_at_call 49; (with_reducible refine (store_named.calls a1_2 true _ HT.out).mono ?_); rintro e w7 ⟨rfl, hd⟩; have hb := Drawn0.below hd; clear hd; have HX_ := Aside0.mk (HX.out.step hb); clear HX hb v20 v21 v30 v31 v32 v33 v40 v41 f40 f41; have HX := HX_; clear HX_; obtain ⟨v20, v21, v30, v31, v32, v33, v40, v41, f40, f41⟩ := HX.out.vis)
  | (go_at_call 50; (with_reducible refine (store_find.calls A0_1 c0_1 l0_1 a1_1 _ _ _ (Kd.C_below HR.out HX.out.B) HC.out HFI.out).mono ?_); rintro e w8 ⟨rfl, hb⟩; have HX_ := Aside0.mk (HX.out.step hb); clear HX hb v20 v21 v30 v31 v32 v33 v40 v41 f40 f41; have HX := HX_; clear HX_; obtain ⟨v20, v21, v30, v31, v32, v33, v40, v41, f40, f41⟩ := HX.out.vis))
 refine bodyPost_ret (results_ct rfl _ _ g4 50 #[.int .i64 0, .slice none 0 0] (0, 0) _ rfl (blk_put (cs := #[.int .i64 0, .slice none 0 0]) (blk_put (cs := #[.int .i64 0, .slice none 0 0]) HX.out.c4 0 _ rfl) 1 _ rfl) Tryd.underlying50 rfl (by kernel_rfl)) rfl ?_
 exact ⟨_, rfl, Kd.V_nil _ _ _ _ _, below_set (below_set HX.out.B HX.out.l) HX.out.l⟩
set_option maxHeartbeats 4000000 in
set_option maxRecDepth 100000 in
theorem do_bad7 (a0_0 : Int) (A0_1 : Option Addr) (c0_1 : Nat) (l0_1 : List S84) (a1_0 : Int) (a1_1 : ByteArray) (a1_2 : ByteArray) (A1_3 : Option Addr) (c1_3 : Nat) (l1_3 : List Int) (r1 : Int) (r2 : List S84) (r3 : Int) (w : World) (hr0_1 : Kd.C k84 w A0_1 l0_1.length l0_1) (hc0_1 : l0_1.length ≤ c0_1) (hr1_3 : Kd.C (Kd.int .u8) w A1_3 l1_3.length l1_3) (hc1_3 : l1_3.length ≤ c1_3) (hs : SmallD l0_1) (hf : FormedR a0_0 l0_1) (hn : nmd a1_1) (hk : 1 ≤ a1_0 ∧ a1_0 ≤ 4) (hfo : foundS l0_1 a1_1 = false) (hk2 : a1_0 = 3) (ht : nmd a1_2) (he : (0, [], 8) = (r1, r2, r3)) :
  Calls Tryd.prog 29 #[.agg #[.int .i64 a0_0, .slice A0_1 l0_1.length c0_1], .agg #[.int .i64 a1_0, .string a1_1, .string a1_2, .slice A1_3 l1_3.length c1_3]] w fun e w' => ∃ v1_ : Value, e = .returned (.tuple #[.agg #[.int .i64 r1, v1_], .int .i64 r3]) ∧ Kd.V k84 84 w' w.heap.size (fun k_ => w.heap.size ≤ k_) v1_ r2 ∧ Below w.heap.size w w' := by
 have HR := Aside0.mk hr0_1
 have HC := Aside0.mk hc0_1
 have HR3 := Aside0.mk hr1_3
 have HC3 := Aside0.mk hc1_3
 have HB := Aside0.mk (Below.refl w.heap.size w)
 clear hr0_1 hc0_1 hr1_3 hc1_3
 have hu24 := Tryd.underlying50
 have hu27 := Tryd.underlying60
 have hu61 := Tryd.underlying84
 have hk1 : decide (a1_0 < 1) = false := decide_eq_false (by omega)
 have hk4 : decide (4 < a1_0) = false := decide_eq_false (by omega)
 have hk3 : decide (a1_0 = 3) = true := decide_eq_true (by omega)
 have hk3b : (a1_0 == 3) = true := by simp; omega
 have hq1 : decide (a1_0 = 1) = false := decide_eq_false (by omega)
 have hq1b : (a1_0 == 1) = false := by simp; omega
 have hne1 : decide (a1_0 ≠ 1) = true := decide_eq_true (by omega)
 have hne1b : (a1_0 != 1) = true := by simp; omega
 have HFI := Aside0.mk (show store_find.f l0_1 a1_1 = some ((idxS l0_1 a1_1 : Int), false) by unfold store_find.f; rw [if_pos ⟨by have := hf.2.2.2.1; omega, formed_srt hf⟩, hfo])
 clear hfo
 have HF := Aside0.mk (show store_Formed.f (3 * l0_1.length + 3) a0_0 l0_1 = some true by rw [formed_plain a0_0 l0_1 hs.small, decide_eq_true hf])
 clear hs hf
 have HN := Aside0.mk (show store_named.f a1_1 = some true by rw [named_nmd, decide_eq_true hn])
 clear hn
 have HT := Aside0.mk (show store_named.f a1_2 = some true by rw [named_nmd, decide_eq_true ht])
 clear ht
 clear hk hk2
 injection he with he1 he2
 injection he2 with he2 he3
 subst he1
 subst he2
 subst he3
 go_enter Tryd.func29, Tryd.ntmps29
 go_wp2_with (first
  | ((with_reducible refine gate_dst (N := 2) rfl ?_); refine box_event ?hg (N := 2) ?hd (cs := #[.int .i64 a0_0, .slice A0_1 l0_1.length c0_1]) (t := 50) ?hr ?_; (case hd => rfl); (case hg => rfl); (case hr => first | (go_simp; done) | (go_simp; rfl)); intro g2 hg2 w2 hbox hb; have HB2 := Aside0.mk (below_step HB.out hb); have CB2 := Aside0.mk hbox; have G2 := Aside0.mk (show w.heap.size ≤ g2 by rw [hg2]; exact below_size HB.out); clear hb hbox hg2 HB; have HB := HB2; clear HB2)
  | ((with_reducible refine gate_dst (N := 3) rfl ?_); refine box_event ?hg (N := 3) ?hd (cs := #[.int .i64 a1_0, .string a1_1, .string a1_2, .slice A1_3 l1_3.length c1_3]) (t := 60) ?hr ?_; (case hd => rfl); (case hg => rfl); (case hr => first | (go_simp; done) | (go_simp; rfl)); intro g3 hg3 w3 hbox hb; have HB3 := Aside0.mk (below_step HB.out hb); have CB3 := Aside0.mk hbox; have G23 := Aside0.mk (show g2 < g3 by rw [hg3]; exact blk_lt CB2.out); have CB2_ := Aside0.mk (blk_below CB2.out hb); clear hb hbox hg3 HB CB2; have HB := HB3; have CB2 := CB2_; clear HB3 CB2_)
  | ((with_reducible refine gate_dst (N := 4) rfl ?_); refine box_event ?hg (N := 4) ?hd (cs := #[.int .i64 0, .slice none 0 0]) (t := 50) ?hr ?_; (case hd => rfl); (case hg => rfl); (case hr => first | (go_simp; done) | (go_simp; rfl)); intro g4 hg4 w4 hbox hb; have HX := Aside0.mk (Rbox.mk (below_step HB.out hb) (blk_below CB2.out hb) (blk_below CB3.out hb) hbox G2.out G23.out (show g3 < g4 by rw [hg4]; exact blk_lt CB3.out)); clear hb hbox hg4 HB CB2 CB3 G2 G23; obtain ⟨v20, v21, v30, v31, v32, v33, v40, v41, f40, f41⟩ := HX.out.vis)
  | (go_at_call 48; (with_reducible refine (store_Formed.calls _ a0_0 A0_1 c0_1 l0_1 true _ (Kd.C_below HR.out HX.out.B) HC.out HF.out).mono ?_); rintro e w5 ⟨rfl, hb⟩; have HX_ := Aside0.mk (HX.out.step hb); clear HX hb v20 v21 v30 v31 v32 v33 v40 v41 f40 f41; have HX := HX_; clear HX_; obtain ⟨v20, v21, v30, v31, v32, v33, v40, v41, f40, f41⟩ := HX.out.vis)
  | (go_at_call 49; (with_reducible refine (store_named.calls a1_1 true _ HN.out).mono ?_); rintro e w6 ⟨rfl, hd⟩; have hb := Drawn0.below hd; clear hd; have HX_ := Aside0.mk (HX.out.step hb); clear HX hb v20 v21 v30 v31 v32 v33 v40 v41 f40 f41; have HX := HX_; clear HX_; obtain ⟨v20, v21, v30, v31, v32, v33, v40, v41, f40, f41⟩ := HX.out.vis)
  | (go_at_call 49; (with_reducible refine (store_named.calls a1_2 true _ HT.out).mono ?_); rintro e w7 ⟨rfl, hd⟩; have hb := Drawn0.below hd; clear hd; have HX_ := Aside0.mk (HX.out.step hb); clear HX hb v20 v21 v30 v31 v32 v33 v40 v41 f40 f41; have HX := HX_; clear HX_; obtain ⟨v20, v21, v30, v31, v32, v33, v40, v41, f40, f41⟩ := HX.out.vis)
  | (go_at_call 50; (with_reducible refine (store_find.calls A0_1 c0_1 l0_1 a1_1 _ _ _ (Kd.C_below HR.out HX.out.B) HC.out HFI.out).mono ?_); rintro e w8 ⟨rfl, hb⟩; have HX_ := Aside0.mk (HX.out.step hb); clear HX hb v20 v21 v30 v31 v32 v33 v40 v41 f40 f41; have HX := HX_; clear HX_; obtain ⟨v20, v21, v30, v31, v32, v33, v40, v41, f40, f41⟩ := HX.out.vis))
 refine bodyPost_ret (results_ct rfl _ _ g4 50 #[.int .i64 0, .slice none 0 0] (0, 0) _ rfl (blk_put (cs := #[.int .i64 0, .slice none 0 0]) (blk_put (cs := #[.int .i64 0, .slice none 0 0]) HX.out.c4 0 _ rfl) 1 _ rfl) Tryd.underlying50 rfl (by kernel_rfl)) rfl ?_
 exact ⟨_, rfl, Kd.V_nil _ _ _ _ _, below_set (below_set HX.out.B HX.out.l) HX.out.l⟩
set_option maxHeartbeats 4000000 in
set_option maxRecDepth 100000 in
theorem do_bad8 (a0_0 : Int) (A0_1 : Option Addr) (c0_1 : Nat) (l0_1 : List S84) (a1_0 : Int) (a1_1 : ByteArray) (a1_2 : ByteArray) (A1_3 : Option Addr) (c1_3 : Nat) (l1_3 : List Int) (r1 : Int) (r2 : List S84) (r3 : Int) (w : World) (hr0_1 : Kd.C k84 w A0_1 l0_1.length l0_1) (hc0_1 : l0_1.length ≤ c0_1) (hr1_3 : Kd.C (Kd.int .u8) w A1_3 l1_3.length l1_3) (hc1_3 : l1_3.length ≤ c1_3) (hs : SmallD l0_1) (hf : FormedR a0_0 l0_1) (hn : nmd a1_1) (hk : 1 ≤ a1_0 ∧ a1_0 ≤ 4) (hfo : foundS l0_1 a1_1 = false) (hk2 : a1_0 = 1) (hl : l0_1.length = 256) (he : (0, [], 6) = (r1, r2, r3)) :
  Calls Tryd.prog 29 #[.agg #[.int .i64 a0_0, .slice A0_1 l0_1.length c0_1], .agg #[.int .i64 a1_0, .string a1_1, .string a1_2, .slice A1_3 l1_3.length c1_3]] w fun e w' => ∃ v1_ : Value, e = .returned (.tuple #[.agg #[.int .i64 r1, v1_], .int .i64 r3]) ∧ Kd.V k84 84 w' w.heap.size (fun k_ => w.heap.size ≤ k_) v1_ r2 ∧ Below w.heap.size w w' := by
 have HR := Aside0.mk hr0_1
 have HC := Aside0.mk hc0_1
 have HR3 := Aside0.mk hr1_3
 have HC3 := Aside0.mk hc1_3
 have HB := Aside0.mk (Below.refl w.heap.size w)
 clear hr0_1 hc0_1 hr1_3 hc1_3
 have hu24 := Tryd.underlying50
 have hu27 := Tryd.underlying60
 have hu61 := Tryd.underlying84
 have hk1 : decide (a1_0 < 1) = false := decide_eq_false (by omega)
 have hk4 : decide (4 < a1_0) = false := decide_eq_false (by omega)
 have hk3 : decide (a1_0 = 3) = false := decide_eq_false (by omega)
 have hk3b : (a1_0 == 3) = false := by simp; omega
 have hq1 : decide (a1_0 = 1) = true := decide_eq_true (by omega)
 have hq1b : (a1_0 == 1) = true := by simp; omega
 have hne1 : decide (a1_0 ≠ 1) = false := decide_eq_false (by omega)
 have hne1b : (a1_0 != 1) = false := by simp; omega
 have hl1 : decide ((l0_1.length : Int) = 256) = true := decide_eq_true (by omega)
 have hl2 : ((l0_1.length : Int) == 256) = true := by simp; omega
 have HFI := Aside0.mk (show store_find.f l0_1 a1_1 = some ((idxS l0_1 a1_1 : Int), false) by unfold store_find.f; rw [if_pos ⟨by have := hf.2.2.2.1; omega, formed_srt hf⟩, hfo])
 clear hfo
 have HF := Aside0.mk (show store_Formed.f (3 * l0_1.length + 3) a0_0 l0_1 = some true by rw [formed_plain a0_0 l0_1 hs.small, decide_eq_true hf])
 clear hs hf
 have HN := Aside0.mk (show store_named.f a1_1 = some true by rw [named_nmd, decide_eq_true hn])
 clear hn
 clear hk hk2 hl
 injection he with he1 he2
 injection he2 with he2 he3
 subst he1
 subst he2
 subst he3
 go_enter Tryd.func29, Tryd.ntmps29
 go_wp2_with (first
  | ((with_reducible refine gate_dst (N := 2) rfl ?_); refine box_event ?hg (N := 2) ?hd (cs := #[.int .i64 a0_0, .slice A0_1 l0_1.length c0_1]) (t := 50) ?hr ?_; (case hd => rfl); (case hg => rfl); (case hr => first | (go_simp; done) | (go_simp; rfl)); intro g2 hg2 w2 hbox hb; have HB2 := Aside0.mk (below_step HB.out hb); have CB2 := Aside0.mk hbox; have G2 := Aside0.mk (show w.heap.size ≤ g2 by rw [hg2]; exact below_size HB.out); clear hb hbox hg2 HB; have HB := HB2; clear HB2)
  | ((with_reducible refine gate_dst (N := 3) rfl ?_); refine box_event ?hg (N := 3) ?hd (cs := #[.int .i64 a1_0, .string a1_1, .string a1_2, .slice A1_3 l1_3.length c1_3]) (t := 60) ?hr ?_; (case hd => rfl); (case hg => rfl); (case hr => first | (go_simp; done) | (go_simp; rfl)); intro g3 hg3 w3 hbox hb; have HB3 := Aside0.mk (below_step HB.out hb); have CB3 := Aside0.mk hbox; have G23 := Aside0.mk (show g2 < g3 by rw [hg3]; exact blk_lt CB2.out); have CB2_ := Aside0.mk (blk_below CB2.out hb); clear hb hbox hg3 HB CB2; have HB := HB3; have CB2 := CB2_; clear HB3 CB2_)
  | ((with_reducible refine gate_dst (N := 4) rfl ?_); refine box_event ?hg (N := 4) ?hd (cs := #[.int .i64 0, .slice none 0 0]) (t := 50) ?hr ?_; (case hd => rfl); (case hg => rfl); (case hr => first | (go_simp; done) | (go_simp; rfl)); intro g4 hg4 w4 hbox hb; have HX := Aside0.mk (Rbox.mk (below_step HB.out hb) (blk_below CB2.out hb) (blk_below CB3.out hb) hbox G2.out G23.out (show g3 < g4 by rw [hg4]; exact blk_lt CB3.out)); clear hb hbox hg4 HB CB2 CB3 G2 G23; obtain ⟨v20, v21, v30, v31, v32, v33, v40, v41, f40, f41⟩ := HX.out.vis)
  | (go_at_call 48; (with_reducible refine (store_Formed.calls _ a0_0 A0_1 c0_1 l0_1 true _ (Kd.C_below HR.out HX.out.B) HC.out HF.out).mono ?_); rintro e w5 ⟨rfl, hb⟩; have HX_ := Aside0.mk (HX.out.step hb); clear HX hb v20 v21 v30 v31 v32 v33 v40 v41 f40 f41; have HX := HX_; clear HX_; obtain ⟨v20, v21, v30, v31, v32, v33, v40, v41, f40, f41⟩ := HX.out.vis)
  | (go_at_call 49; (with_reducible refine (store_named.calls a1_1 true _ HN.out).mono ?_); rintro e w6 ⟨rfl, hd⟩; have hb := Drawn0.below hd; clear hd; have HX_ := Aside0.mk (HX.out.step hb); clear HX hb v20 v21 v30 v31 v32 v33 v40 v41 f40 f41; have HX := HX_; clear HX_; obtain ⟨v20, v21, v30, v31, v32, v33, v40, v41, f40, f41⟩ := HX.out.vis)
  | (go_at_call 49; (with_reducible refine (store_named.calls a1_2 true _ HT.out).mono ?_); rintro e w7 ⟨rfl, hd⟩; have hb := Drawn0.below hd; clear hd; have HX_ := Aside0.mk (HX.out.step hb); clear HX hb v20 v21 v30 v31 v32 v33 v40 v41 f40 f41; have HX := HX_; clear HX_; obtain ⟨v20, v21, v30, v31, v32, v33, v40, v41, f40, f41⟩ := HX.out.vis)
  | (go_at_call 50; (with_reducible refine (store_find.calls A0_1 c0_1 l0_1 a1_1 _ _ _ (Kd.C_below HR.out HX.out.B) HC.out HFI.out).mono ?_); rintro e w8 ⟨rfl, hb⟩; have HX_ := Aside0.mk (HX.out.step hb); clear HX hb v20 v21 v30 v31 v32 v33 v40 v41 f40 f41; have HX := HX_; clear HX_; obtain ⟨v20, v21, v30, v31, v32, v33, v40, v41, f40, f41⟩ := HX.out.vis))
 refine bodyPost_ret (results_ct rfl _ _ g4 50 #[.int .i64 0, .slice none 0 0] (0, 0) _ rfl (blk_put (cs := #[.int .i64 0, .slice none 0 0]) (blk_put (cs := #[.int .i64 0, .slice none 0 0]) HX.out.c4 0 _ rfl) 1 _ rfl) Tryd.underlying50 rfl (by kernel_rfl)) rfl ?_
 exact ⟨_, rfl, Kd.V_nil _ _ _ _ _, below_set (below_set HX.out.B HX.out.l) HX.out.l⟩
end Go.Proofs.YtdcifmonhaklcaaDoor.A
