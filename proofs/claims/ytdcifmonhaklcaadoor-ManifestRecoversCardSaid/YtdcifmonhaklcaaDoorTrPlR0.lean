/- Walks by hand. -/
import Derived.Test.YtdcifmonhaklcaaDoorTrCxR
import Derived.Test.YtdcifmonhaklcaaDoorTrRx5
import Derived.Test.YtdcifmonhaklcaaDoorTrRx14
import Derived.Test.YtdcifmonhaklcaaDoorTrRx15
import Derived.Test.YtdcifmonhaklcaaDoorTrRx10
import Derived.Test.YtdcifmonhaklcaaDoorTrRx17
import Derived.Laws.BytesArg
namespace Go.Proofs.YtdcifmonhaklcaaDoor.R
open Go.RowKit YtdcifmonhaklcaaDoorW.PrintWords YtdcifmonhaklcaaDoorW.PrintLast YtdcifmonhaklcaaDoorW.PrintMore
attribute [local go_sem] min2_int min_two
set_option linter.unusedVariables false
set_option linter.unusedSimpArgs false
theorem same18_l0 (l : List S63) (a b : Int) (hl : l.length ≤ 140737488355328) (n : Nat) : ∀ (e i : Nat), i + n = l.length → dragnetref18_Same.l0 (n + 1 + e) (i : Int) l a b l a b = some true := by
 induction n with
 | zero =>
  intro e i h
  rw [show 0 + 1 + e = e + 1 by omega, dragnetref18_Same.l0, if_neg (by omega)]
 | succ n ih =>
  intro e i h
  rw [show n + 1 + 1 + e = (n + 1 + e) + 1 by omega, dragnetref18_Same.l0, if_pos (by omega), if_pos (by omega), if_pos (by omega), if_neg (by simp), show wrap64 ((i : Int) + 1) = ((i + 1 : Nat) : Int) by unfold wrap64; omega]
  exact ih e (i + 1) (by omega)
theorem takeM_len (p : List Int) : (takeM p).1.length ≤ 64 := by
 unfold takeM
 simp only []
 split
 ·exact Nat.zero_le _
 ·next h =>
  have := Decidable.not_not.1 (fun hf => h (.inr (.inr hf)))
  exact this.1
def takeF (l : List Int) : List S63 × Int × Int × Int := if (unwrap l).2 = 0 then takeM (unwrap l).1 else ([], 0, 0, 13)
theorem takeF_len (l : List Int) : (takeF l).1.length ≤ 64 := by
 unfold takeF
 split
 ·exact takeM_len _
 ·exact Nat.zero_le _
theorem mtake_f {l : List Int} (h : Bytes l) (hl : l.length < 140737488355328) : manifest_Take.f l = some (takeF l) := by
 unfold manifest_Take.f takeF
 rw [unwrap_f h hl, Option.bind_some]
 by_cases e : (unwrap l).2 = 0
 ·rw [if_pos e, if_pos e, if_pos (unwrap_ok h e)]
 ·rw [if_neg e, if_neg e]
theorem rtake18_f {l : List Int} (h : Bytes l) (hl : l.length < 140737488355328) : dragnetref18_Take.f l = some (takeF l) := by
 unfold dragnetref18_Take.f takeF
 rw [refUnwrap_f h hl _ (Nat.le_refl _), Option.bind_some]
 by_cases e : (unwrap l).2 = 0
 ·rw [if_pos e, if_pos e, if_pos (unwrap_ok h e), take_eq (unwrap_ok h e).1]
 ·rw [if_neg e, if_neg e]
theorem ba_append (a b : ByteArray) : (a ++ b).toList = a.toList ++ b.toList := by
 rw [Lib.toList_data, Lib.toList_data, Lib.toList_data, ByteArray.data_append]
 simp
theorem strOf_one (d : Int) : (strOfNums [d]).toList = [UInt8.ofNat d.toNat] := by
 unfold strOfNums
 rw [Lib.toList_data]
 rfl
theorem digits_l0 (n : Nat) : ∀ (x : Nat) (acc : ByteArray) (e : Nat), x < 10 ^ (n + 1) → x < 18446744073709551616 → acc.size + n ≤ 1000 → ∃ r, dragnetref08_Digits.l0 (n + 1 + e) (x : Int) acc = some r ∧ r.toList = (if 10 ≤ x then Lib.decDigits (x / 10) else []) ++ acc.toList ∧ r.size ≤ acc.size + n := by
 induction n with
 | zero =>
  intro x acc e h _ _
  refine ⟨acc, ?_, ?_, by omega⟩
  ·rw [show 0 + 1 + e = e + 1 by omega, dragnetref08_Digits.l0, if_neg (by omega)]
  ·rw [if_neg (by omega)]
   rfl
 | succ n ih =>
  intro x acc e h h2 h3
  rw [show n + 1 + 1 + e = (n + 1 + e) + 1 by omega, dragnetref08_Digits.l0]
  by_cases c : 10 ≤ x
  ·have e1 : IntKind.u64.wrap (Int.tdiv (x : Int) 10) = ((x / 10 : Nat) : Int) := by
    rw [wrapU64, Int.tdiv_eq_ediv_of_nonneg (by omega)]
    omega
   have e2 : IntKind.u64.wrap (48 + Int.tmod ((x / 10 : Nat) : Int) 10) % 256 = ((48 + x / 10 % 10 : Nat) : Int) := by
    rw [wrapU64, Int.tmod_eq_emod_of_nonneg (by omega)]
    omega
   have hs : (strOfNums [((48 + x / 10 % 10 : Nat) : Int)]).toList = [UInt8.ofNat (48 + x / 10 % 10)] := by rw [strOf_one, Int.toNat_natCast]
   have hz : (strOfNums [((48 + x / 10 % 10 : Nat) : Int)]).size = 1 := by
    have h3 : ∀ b : ByteArray, b.size = b.toList.length := fun b => by rw [Lib.toList_data, Array.length_toList]; rfl
    rw [h3, hs]
    rfl
   rw [if_pos (by omega), Option.bind_some, e1, e2, if_pos (by rw [hz]; omega)]
   have hsz : ∀ a b : ByteArray, (a ++ b).size = a.size + b.size := fun a b => ByteArray.size_append
   obtain ⟨r, hr, hl, hrs⟩ := ih (x / 10) (strOfNums [((48 + x / 10 % 10 : Nat) : Int)] ++ acc) e (by rw [Nat.pow_succ] at h; omega) (by omega) (by rw [hsz, hz]; omega)
   refine ⟨r, hr, ?_, by rw [hsz, hz] at hrs; omega⟩
   rw [hl, ba_append, hs, if_pos c]
   conv => rhs; rw [Lib.decDigits]
   by_cases c2 : x / 10 < 10
   ·rw [if_neg (by omega), dif_pos c2, show x / 10 % 10 = x / 10 by omega]
    rfl
   ·rw [if_pos (by omega), dif_neg c2, List.append_assoc]
  ·rw [if_neg (by omega)]
   refine ⟨acc, rfl, ?_, by omega⟩
   rw [if_neg c]
   rfl
theorem digits_f (x : Nat) (h : x ≤ 2147483647) (k : Nat) (hk : 20 ≤ k) : ∃ r, dragnetref08_Digits.f k (x : Int) = some r ∧ r.toList = Lib.decDigits x ∧ r.size ≤ 100 := by
 have e2 : IntKind.u64.wrap (48 + Int.tmod (x : Int) 10) % 256 = ((48 + x % 10 : Nat) : Int) := by
  rw [wrapU64, Int.tmod_eq_emod_of_nonneg (by omega)]
  omega
 have hs : (strOfNums [((48 + x % 10 : Nat) : Int)]).toList = [UInt8.ofNat (48 + x % 10)] := by rw [strOf_one, Int.toNat_natCast]
 have hz : (strOfNums [((48 + x % 10 : Nat) : Int)]).size = 1 := by
  have h3 : ∀ b : ByteArray, b.size = b.toList.length := fun b => by rw [Lib.toList_data, Array.length_toList]; rfl
  rw [h3, hs]
  rfl
 unfold dragnetref08_Digits.f
 rw [e2]
 obtain ⟨e, rfl⟩ : ∃ e, k = 10 + 1 + e := ⟨k - 11, by omega⟩
 obtain ⟨r, hr, hl, hrs⟩ := digits_l0 10 x (strOfNums [((48 + x % 10 : Nat) : Int)]) e (by omega) (by omega) (by rw [hz]; omega)
 refine ⟨r, hr, ?_, by omega⟩
 rw [hl, hs]
 conv => rhs; rw [Lib.decDigits]
 by_cases c : x < 10
 ·rw [if_neg (by omega), dif_pos c, show x % 10 = x by omega]
  rfl
 ·rw [if_pos (by omega), dif_neg c]
theorem rname_f (n : Int) (k : Nat) (hk : 20 ≤ k) : ∃ r, dragnetref18_Name.f k n = some r ∧ (nameM n).toList = r.toList := by
 unfold dragnetref18_Name.f
 by_cases h1 : n < 0
 ·rw [if_pos h1]
  exact ⟨_, rfl, by unfold nameM; rw [if_pos h1]⟩
 ·rw [if_neg h1]
  by_cases h2 : n > 2147483647
  ·rw [if_pos h2]
   exact ⟨_, rfl, by unfold nameM; rw [if_neg h1, if_pos h2]⟩
  ·obtain ⟨x, rfl⟩ : ∃ x : Nat, n = (x : Int) := ⟨n.toNat, by omega⟩
   obtain ⟨r, hr, hl, hs⟩ := digits_f x (by omega) k hk
   rw [if_neg h2, show IntKind.u64.wrap (x : Int) = (x : Int) by rw [wrapU64]; omega, hr, Option.bind_some, if_pos (by omega)]
   refine ⟨_, rfl, ?_⟩
   rw [name_list (by omega) (by omega), ba_append, hl, Int.toNat_natCast, show (⟨#[115]⟩ : ByteArray).toList = [115] by rw [Lib.toList_data]]
   rfl
theorem same18_reflk (l : List S63) (a b : Int) (hl : l.length ≤ 140737488355328) (k : Nat) (hk : l.length + 2 ≤ k) : dragnetref18_Same.f k l a b l a b = some true := by
 obtain ⟨e, rfl⟩ : ∃ e, k = l.length + 1 + e + 1 := ⟨k - (l.length + 2), by omega⟩
 unfold dragnetref18_Same.f
 rw [if_pos rfl, if_pos rfl, show ((l.length : Int) != (l.length : Int)) = false by simp, dragnetref18_Same.j0, if_neg Bool.false_ne_true]
 exact same18_l0 l a b hl l.length e 0 (by omega)
theorem wr64 {x : Int} (h : -9223372036854775808 ≤ x ∧ x ≤ 9223372036854775807) : wrap64 x = x := by
 unfold wrap64
 omega
def Small (l : List S84) : Prop := l.length ≤ 140737488351232 ∧ ∀ j, (rd_T84 l j).f1.length ≤ 140737488351232
theorem tot_nonneg (l : List S84) : 0 ≤ totS l := by
 unfold totS
 induction l with
 | nil => simp
 | cons x r ih => rw [List.map_cons, List.sum_cons]; omega
theorem tot_append (a b : List S84) : totS (a ++ b) = totS a + totS b := by unfold totS; rw [List.map_append, List.sum_append]
theorem tot_take_le (l : List S84) (i : Nat) : totS (l.take i) ≤ totS l := by
 conv => rhs; rw [← List.take_append_drop i l, tot_append]
 have := tot_nonneg (l.drop i)
 omega
theorem tot_at (l : List S84) (i : Nat) (h : i < l.length) : ((rd_T84 l (i : Int)).f1.length : Int) ≤ totS l := by
 have h1 := tot_snoc l i h
 have h2 := tot_take_le l (i + 1)
 have h3 := tot_nonneg (l.take i)
 omega
theorem used_l0 (room : Int) (l : List S84) (hs : Small l) (hr : 0 ≤ room ∧ room ≤ 67108864) : ∀ m i : Nat, l.length - i = m → i ≤ l.length → totS (l.take i) ≤ room →
  store_used.l0 (m + 1) (totS (l.take i)) l (l.length : Int) (i : Int) room l = some (if totS l ≤ room then totS l else -1)
 | 0, i, hm, hi, ht => by
  obtain rfl : i = l.length := by omega
  rw [List.take_length] at ht ⊢
  rw [store_used.l0, if_neg (Int.lt_irrefl _), if_pos ht]
 | m + 1, i, hm, hi, ht => by
  have hlt : i < l.length := by omega
  have h0 := tot_nonneg (l.take i)
  have hb := hs.2 (i : Int)
  have hsn := tot_snoc l i hlt
  rw [store_used.l0, if_pos (by omega), if_pos (by omega), if_pos (by omega), wr64 (by omega), wr64 (by have := hs.1; omega), ← hsn]
  have hle := tot_take_le l (i + 1)
  by_cases hc : totS (l.take (i + 1)) > room
  ·rw [if_pos hc, if_neg (by omega)]
  ·rw [if_neg hc, show (i : Int) + 1 = ((i + 1 : Nat) : Int) by omega]
   exact used_l0 room l hs hr m (i + 1) (by omega) hlt (by omega)
theorem used_plain (room : Int) (l : List S84) (hs : Small l) (hr : 0 ≤ room ∧ room ≤ 67108864) : store_used.f (l.length + 1) room l = some (if totS l ≤ room then totS l else -1) := by
 have h := used_l0 room l hs hr l.length 0 (by omega) (by omega) (by rw [List.take_zero]; exact hr.1)
 rw [List.take_zero] at h
 exact h
def okS (l : List S84) (i : Nat) : Prop := (1 ≤ (rd_T84 l i).f0.size ∧ (rd_T84 l i).f0.size ≤ 32) ∧ 0 ≤ (rd_T84 l i).f2 ∧ (rd_T84 l i).f2 ≤ (rd_T84 l i).f1.length ∧ (0 < i → cmpS (rd_T84 l ((i : Int) - 1)).f0 (rd_T84 l i).f0 < 0)
instance (l : List S84) (i : Nat) : Decidable (okS l i) := by unfold okS; exact inferInstance
theorem less_cmp : ∀ x y : List UInt8, Go.Op.bytesLess x y = true ↔ Lib.compareBytes x y < 0
 | [], [] => by simp [Go.Op.bytesLess, Lib.compareBytes]
 | [], _ :: _ => by simp [Go.Op.bytesLess, Lib.compareBytes]
 | _ :: _, [] => by simp [Go.Op.bytesLess, Lib.compareBytes]
 | a :: x, b :: y => by
  have ih := less_cmp x y
  unfold Go.Op.bytesLess Lib.compareBytes
  have t : ∀ p q : UInt8, p < q ↔ p.toNat < q.toNat := fun p q => UInt8.lt_iff_toNat_lt
  by_cases h : a < b
  ·simp [h]
  ·by_cases h2 : b < a
   ·have h3 : ¬ a = b := fun e => by subst e; exact h h2
    simp [h, h2, h3]
   ·have h3 : a = b := UInt8.toNat_inj.1 (by have h4 : ¬ a.toNat < b.toNat := fun hh => h ((t a b).2 hh); have h5 : ¬ b.toNat < a.toNat := fun hh => h2 ((t b a).2 hh); omega)
    subst h3
    simp [h, ih]
theorem less_S (a b : ByteArray) : Go.Op.bytesLess a.toList b.toList = true ↔ cmpS a b < 0 := by
 unfold cmpS
 rw [Lib.toList_data, Lib.toList_data]
 exact less_cmp _ _
theorem formed_iff (room : Int) (l : List S84) : FormedR room l ↔ ((∀ i, i < l.length → okS l i) ∧ 0 ≤ room ∧ room ≤ 67108864 ∧ l.length ≤ 256 ∧ totS l ≤ room) := by
 unfold FormedR
 constructor
 ·rintro ⟨h1, h2⟩
  refine ⟨fun i hi => ?_, h2⟩
  have h := h1 i hi
  exact ⟨h.1, h.2.1, h.2.2.1, fun h0 => (less_S _ _).1 (h.2.2.2.1 h0)⟩
 ·rintro ⟨h1, h2, h3, h4, h5⟩
  refine ⟨fun i hi => ?_, h2, h3, h4, h5⟩
  have h := h1 i hi
  have h6 := tot_at l i hi
  have h7 := tot_take_le l i
  exact ⟨h.1, h.2.1, h.2.2.1, fun h0 => (less_S _ _).2 (h.2.2.2 h0), by omega, by omega⟩
theorem named_plain (n : ByteArray) : store_named.f n = some (decide (1 ≤ n.size ∧ n.size ≤ 32)) := by
 unfold store_named.f
 have hs : n.toList.length = n.size := by rw [Lib.toList_data]; exact data_length n
 by_cases h : n.toList = []
 ·rw [if_pos h, decide_eq_false]
  intro hc
  rw [h] at hs
  simp at hs
  omega
 ·rw [if_neg h]
  have : 0 < n.size := by
   rw [← hs]
   exact List.length_pos_iff.2 h
  congr 1
  rw [decide_eq_decide]
  omega
theorem formed_l0 (room : Int) (l : List S84) (hs : Small l) (hr : 0 ≤ room ∧ room ≤ 67108864) : ∀ m i : Nat, l.length - i = m → i ≤ l.length → (∀ j, j < i → okS l j) →
  store_Formed.l0 (2 * m + l.length + 2) l (l.length : Int) (i : Int) room l = some (decide ((∀ i, i < l.length → okS l i) ∧ totS l ≤ room))
 | 0, i, hm, hi, hok => by
  obtain rfl : i = l.length := by omega
  rw [show 2 * 0 + l.length + 2 = (l.length + 1) + 1 by omega, store_Formed.l0, if_neg (Int.lt_irrefl _), used_plain room l hs hr, Option.bind_some]
  congr 1
  rw [decide_eq_decide]
  have := tot_nonneg l
  constructor
  ·intro h
   refine ⟨hok, ?_⟩
   by_cases hc : totS l ≤ room
   ·exact hc
   ·rw [if_neg hc] at h
    omega
  ·rintro ⟨_, h⟩
   rw [if_pos h]
   omega
 | m + 1, i, hm, hi, hok => by
  have hlt : i < l.length := by omega
  have hb := hs.2 (i : Int)
  have bad : ¬ okS l i → some false = some (decide ((∀ i, i < l.length → okS l i) ∧ totS l ≤ room)) := by
   intro h
   rw [decide_eq_false (fun h2 => h (h2.1 i hlt))]
  have next : okS l i → store_Formed.l0 (2 * m + l.length + 2) l (l.length : Int) (wrap64 ((i : Int) + 1)) room l = some (decide ((∀ i, i < l.length → okS l i) ∧ totS l ≤ room)) := by
   intro h
   rw [wr64 (by have := hs.1; omega), show (i : Int) + 1 = ((i + 1 : Nat) : Int) by omega]
   exact formed_l0 room l hs hr m (i + 1) (by omega) hlt (fun j hj => by
    rcases Nat.lt_succ_iff_lt_or_eq.1 hj with h1 | h1
    ·exact hok j h1
    ·exact h1 ▸ h)
  rw [show 2 * (m + 1) + l.length + 2 = (2 * m + l.length + 2) + 1 + 1 by omega, store_Formed.l0, if_pos (by omega), if_pos (by omega), if_pos (by omega), named_plain, Option.bind_some]
  by_cases h1 : 1 ≤ (rd_T84 l (i : Int)).f0.size ∧ (rd_T84 l (i : Int)).f0.size ≤ 32
  ·rw [decide_eq_true h1, if_pos rfl]
   by_cases h2 : (rd_T84 l (i : Int)).f2 < 0
   ·rw [if_pos h2, store_Formed.j2, if_pos rfl]
    exact bad (fun h => by have := h.2.1; omega)
   ·rw [if_neg h2]
    by_cases h3 : (rd_T84 l (i : Int)).f2 > ((rd_T84 l (i : Int)).f1.length : Int)
    ·rw [decide_eq_true h3, store_Formed.j2, if_pos rfl]
     exact bad (fun h => by have := h.2.2.1; omega)
    ·rw [decide_eq_false h3, store_Formed.j2, if_neg (by decide)]
     by_cases h4 : (i : Int) > 0
     ·rw [if_pos h4, wr64 (by have := hs.1; omega), if_pos (by omega), if_pos (by omega)]
      unfold strings_Compare.f
      rw [Option.bind_some]
      by_cases h5 : Lib.compareBytes (rd_T84 l ((i : Int) - 1)).f0.data.toList (rd_T84 l (i : Int)).f0.data.toList ≥ 0
      ·rw [if_pos h5]
       exact bad (fun h => by have := h.2.2.2 (by omega); unfold cmpS at this; omega)
      ·rw [if_neg h5]
       exact next ⟨h1, by omega, by omega, fun _ => by unfold cmpS; omega⟩
     ·rw [if_neg h4]
      exact next ⟨h1, by omega, by omega, fun h => by omega⟩
  ·rw [decide_eq_false h1, if_neg (by decide), store_Formed.j2, if_pos rfl]
   exact bad (fun h => h1 h.1)
theorem formed_plain (room : Int) (l : List S84) (hs : Small l) : store_Formed.f (3 * l.length + 3) room l = some (decide (FormedR room l)) := by
 unfold store_Formed.f
 have bad : ¬ (0 ≤ room ∧ room ≤ 67108864 ∧ l.length ≤ 256) → some false = some (decide (FormedR room l)) := by
  intro h
  rw [decide_eq_false (fun h2 => h ⟨h2.2.1, h2.2.2.1, h2.2.2.2.1⟩)]
 rw [show 3 * l.length + 3 = (3 * l.length + 2) + 1 by omega]
 by_cases h1 : room < 0
 ·rw [if_pos h1, store_Formed.j0, if_pos rfl]
  exact bad (by omega)
 ·rw [if_neg h1]
  by_cases h2 : room > 67108864
  ·rw [if_pos h2, store_Formed.j0, if_pos rfl]
   exact bad (by omega)
  ·rw [if_neg h2]
   by_cases h3 : (l.length : Int) > 256
   ·rw [decide_eq_true h3, store_Formed.j0, if_pos rfl]
    exact bad (by omega)
   ·rw [decide_eq_false h3, store_Formed.j0, if_neg (by decide)]
    have h := formed_l0 room l hs (by omega) l.length 0 (by omega) (by omega) (fun j hj => by omega)
    rw [show 3 * l.length + 2 = 2 * l.length + l.length + 2 by omega]
    refine h.trans ?_
    congr 1
    rw [decide_eq_decide, formed_iff]
    constructor
    ·rintro ⟨h4, h5⟩
     exact ⟨h4, by omega, by omega, by omega, h5⟩
    ·rintro ⟨h4, _, _, _, h5⟩
     exact ⟨h4, h5⟩
theorem formed_srt {room : Int} {l : List S84} (h : FormedR room l) : Srt l := by
 have hk := ((formed_iff room l).1 h).1
 have adj : ∀ i, i + 1 < l.length → cmpS (rd_T84 l (i : Int)).f0 (rd_T84 l ((i + 1 : Nat) : Int)).f0 < 0 := by
  intro i hi
  have := (hk (i + 1) hi).2.2.2 (by omega)
  rwa [show (((i + 1 : Nat) : Int)) - 1 = (i : Int) by omega] at this
 have all : ∀ d i, i + d + 1 < l.length → cmpS (rd_T84 l (i : Int)).f0 (rd_T84 l ((i + d + 1 : Nat) : Int)).f0 < 0 := by
  intro d
  induction d with
  | zero => intro i hi; exact adj i hi
  | succ d ih => intro i hi; exact cmpB_trans _ _ _ (ih i (by omega)) (adj (i + d + 1) hi)
 unfold Srt
 rw [List.pairwise_iff_getElem]
 intro i j hi hj hij
 have h2 := all (j - i - 1) i (by omega)
 rw [show i + (j - i - 1) + 1 = j by omega] at h2
 unfold rd_T84 at h2
 rw [Int.toNat_natCast, Int.toNat_natCast, List.getD_eq_getElem?_getD, List.getD_eq_getElem?_getD, List.getElem?_eq_getElem hi, List.getElem?_eq_getElem hj] at h2
 exact h2
def SmallD (l : List S84) : Prop := l.length ≤ 140737488351232 ∧ ∀ x ∈ l, x.f1.length ≤ 140737488351232
instance (l : List S84) : Decidable (SmallD l) := by unfold SmallD; exact inferInstance
theorem SmallD.small {l : List S84} (h : SmallD l) : Small l := by
 refine ⟨h.1, fun j => ?_⟩
 unfold rd_T84
 rw [List.getD_eq_getElem?_getD]
 cases hj : l[j.toNat]? with
 | none => exact Nat.zero_le _
 | some x => exact h.2 x (List.mem_of_getElem? hj)
def nmd (n : ByteArray) : Prop := 1 ≤ n.size ∧ n.size ≤ 32
instance (n : ByteArray) : Decidable (nmd n) := by unfold nmd; exact inferInstance
theorem named_nmd (n : ByteArray) : store_named.f n = some (decide (nmd n)) := by
 rw [named_plain]
 congr 1
theorem found_lt {l : List S84} {n : ByteArray} (h : foundS l n = true) : idxS l n < l.length := by
 unfold foundS at h
 rw [Bool.and_eq_true] at h
 exact of_decide_eq_true h.1
theorem rdm (l : List S84) (i : Nat) (h : i < l.length) : rd_T84 l (i : Int) ∈ l := by
 unfold rd_T84
 rw [Int.toNat_natCast, List.getD_eq_getElem?_getD, List.getElem?_eq_getElem h]
 exact List.getElem_mem h
theorem take_snoc (l : List S84) (i : Nat) (h : i < l.length) : l.take i ++ [rd_T84 l (i : Int)] = l.take (i + 1) := by
 unfold rd_T84
 rw [Int.toNat_natCast, List.getD_eq_getElem?_getD, List.getElem?_eq_getElem h, List.take_succ_eq_append_getElem h]
 rfl
def Reach (l : List S84) : Prop := l.length < 2932031007402 ∧ ∀ x ∈ l, x.f1.length ≤ 140737488351232
theorem Reach.small {l : List S84} (h : Reach l) : SmallD l := ⟨by have := h.1; omega, h.2⟩
theorem copy1 (l : List Int) (h : l.length ≤ 140737488351232) : dragnetref01_Copy.f l = some l := by
 unfold dragnetref01_Copy.f
 rw [Option.bind_some, if_pos (by simp; omega)]
 rfl
theorem copy_l0 (room : Int) (l : List S84) (hr : Reach l) : ∀ m i : Nat, l.length - i = m → i ≤ l.length → dragnetref16_Copy.l0 (m + 1) (i : Int) room l room (l.take i) = some (room, l)
 | 0, i, hm, hi => by
  obtain rfl : i = l.length := by omega
  rw [dragnetref16_Copy.l0, if_neg (Int.lt_irrefl _), List.take_length]
 | m + 1, i, hm, hi => by
  have hlt : i < l.length := by omega
  have h1 := hr.1
  rw [dragnetref16_Copy.l0, if_pos (by omega), if_pos (by omega), copy1 _ (hr.2 _ (rdm l i hlt)), Option.bind_some, if_pos (by rw [List.length_take]; omega), wr64 (by omega)]
  rw [show (⟨(rd_T84 l (i : Int)).f0, (rd_T84 l (i : Int)).f1, (rd_T84 l (i : Int)).f2⟩ : S84) = rd_T84 l (i : Int) from rfl, take_snoc l i hlt, show (i : Int) + 1 = ((i + 1 : Nat) : Int) by omega]
  exact copy_l0 room l hr m (i + 1) (by omega) hlt
theorem copy_plain (room : Int) (l : List S84) (hr : Reach l) : dragnetref16_Copy.f (l.length + 1) room l = some (room, l) := copy_l0 room l hr l.length 0 (by omega) (by omega)
theorem same1 (l : List Int) : dragnetref01_Same.f l l = some true := by
 unfold dragnetref01_Same.f
 rw [beq_self_eq_true]
theorem same_l0 (room : Int) (l : List S84) (hl : l.length < 2932031007402) : ∀ m i : Nat, l.length - i = m → i ≤ l.length → dragnetref16_Same.l0 (2 * m + 1) (i : Int) room l room l = some true
 | 0, i, hm, hi => by
  obtain rfl : i = l.length := by omega
  rw [dragnetref16_Same.l0, if_neg (Int.lt_irrefl _)]
 | m + 1, i, hm, hi => by
  have hlt : i < l.length := by omega
  rw [show 2 * (m + 1) + 1 = (2 * m + 1) + 1 + 1 by omega, dragnetref16_Same.l0, if_pos (by omega), if_pos (by omega), if_pos (by omega), if_pos rfl, if_pos rfl, same1, Option.bind_some, dragnetref16_Same.j2, if_neg (by decide), wr64 (by omega), show (i : Int) + 1 = ((i + 1 : Nat) : Int) by omega]
  exact same_l0 room l hl m (i + 1) (by omega) hlt
theorem same_plain (room : Int) (l : List S84) (hl : l.length < 2932031007402) : dragnetref16_Same.f (2 * l.length + 2) room l room l = some true := by
 unfold dragnetref16_Same.f
 rw [if_pos rfl, show 2 * l.length + 2 = (2 * l.length + 1) + 1 by omega, dragnetref16_Same.j0, bne_self_eq_false, if_neg (by decide)]
 exact same_l0 room l hl l.length 0 (by omega) (by omega)
theorem toList_inj {a b : ByteArray} (h : a.toList = b.toList) : a = b := by
 rw [Lib.toList_data, Lib.toList_data] at h
 cases a
 cases b
 congr 1
 exact Array.toList_inj.1 h
theorem rd_get (l : List S84) (i : Nat) (h : i < l.length) : rd_T84 l (i : Int) = l[i] := by
 unfold rd_T84
 rw [Int.toNat_natCast, List.getD_eq_getElem?_getD, List.getElem?_eq_getElem h]
 rfl
theorem srt_get {l : List S84} (h : Srt l) {i j : Nat} (hij : i < j) (hj : j < l.length) : cmpS (rd_T84 l (i : Int)).f0 (rd_T84 l (j : Int)).f0 < 0 := by
 rw [rd_get l i (by omega), rd_get l j hj]
 exact List.pairwise_iff_getElem.1 h i j (by omega) hj hij
theorem cmp_self : ∀ a : List UInt8, Lib.compareBytes a a = 0
 | [] => rfl
 | x :: a => by
  unfold Lib.compareBytes
  have h : ¬ x < x := fun hh => by have := UInt8.lt_iff_toNat_lt.1 hh; omega
  rw [if_neg h, if_neg h]
  exact cmp_self a
theorem cmp_zero : ∀ a b : List UInt8, Lib.compareBytes a b = 0 → a = b
 | [], [], _ => rfl
 | [], _ :: _, h => by simp [Lib.compareBytes] at h
 | _ :: _, [], h => by simp [Lib.compareBytes] at h
 | x :: a, y :: b, h => by
  unfold Lib.compareBytes at h
  by_cases h1 : x < y
  ·rw [if_pos h1] at h
   simp at h
  ·rw [if_neg h1] at h
   by_cases h2 : y < x
   ·rw [if_pos h2] at h
    simp at h
   ·rw [if_neg h2] at h
    have t : ∀ p q : UInt8, p < q ↔ p.toNat < q.toNat := fun p q => UInt8.lt_iff_toNat_lt
    have h4 : ¬ x.toNat < y.toNat := fun hh => h1 ((t _ _).2 hh)
    have h5 : ¬ y.toNat < x.toNat := fun hh => h2 ((t _ _).2 hh)
    have h3 : x = y := UInt8.toNat_inj.1 (by omega)
    rw [h3, cmp_zero a b h]
theorem cmpS_eq {a b : ByteArray} (h : cmpS a b = 0) : a = b := by
 have := cmp_zero _ _ h
 cases a
 cases b
 congr 1
 exact Array.toList_inj.1 this
theorem above_idx {l : List S84} (hs : Srt l) (n : ByteArray) {j : Nat} (hj : idxS l n ≤ j) (hl : j < l.length) : ¬ cmpS (rd_T84 l (j : Int)).f0 n < 0 := fun h => by
 have := idx_low hs n hl h
 omega
theorem found_name {l : List S84} {n : ByteArray} (h : foundS l n = true) : (rd_T84 l (idxS l n : Int)).f0 = n := by
 unfold foundS at h
 rw [Bool.and_eq_true] at h
 exact cmpS_eq (by simpa using h.2)
theorem place_l0 (room : Int) (l : List S84) (n : ByteArray) (hs : Srt l) (hl : l.length < 2932031007402) : ∀ m i : Nat, l.length - i = m → i ≤ l.length → (∀ j : Nat, j < i → (rd_T84 l (j : Int)).f0 ≠ n) → dragnetref16_place.l0 (m + 1) n (i : Int) room l = some (if foundS l n = true then (idxS l n : Int) else -1)
 | 0, i, hm, hi, hj => by
  obtain rfl : i = l.length := by omega
  rw [dragnetref16_place.l0, if_neg (Int.lt_irrefl _)]
  cases hf : foundS l n with
  | false => rfl
  | true => exact absurd (found_name hf) (hj _ (found_lt hf))
 | m + 1, i, hm, hi, hj => by
  have hlt : i < l.length := by omega
  rw [dragnetref16_place.l0, if_pos (by omega), if_pos (by omega)]
  by_cases he : (rd_T84 l (i : Int)).f0 = n
  ·rw [if_pos (by rw [he])]
   have h0 : ¬ cmpS (rd_T84 l (i : Int)).f0 n < 0 := by rw [he]; unfold cmpS; rw [cmp_self]; decide
   have h1 := idx_high l n hlt h0
   have h2 : idxS l n = i := by
    rcases Nat.lt_or_eq_of_le h1 with h | h
    ·have h3 := srt_get hs h hlt
     rw [he] at h3
     exact absurd h3 (above_idx hs n (Nat.le_refl _) (by omega))
    ·exact h
   have h3 : foundS l n = true := by
    unfold foundS
    rw [h2, he, decide_eq_true hlt]
    unfold cmpS
    rw [cmp_self]
    rfl
   rw [h3, if_pos rfl, h2]
  ·rw [if_neg (fun h => he (toList_inj h)), wr64 (by omega), show (i : Int) + 1 = ((i + 1 : Nat) : Int) by omega]
   exact place_l0 room l n hs hl m (i + 1) (by omega) hlt fun j hj2 => by
    rcases Nat.lt_or_eq_of_le (Nat.le_of_lt_succ hj2) with h | h
    ·exact hj j h
    ·rw [h]; exact he
def RR (room : Int) (l : List S84) (n : ByteArray) : List Int × Int := if FormedR room l ∧ nmd n then (if foundS l n = true then ((rd_T84 l (idxS l n : Int)).f1, 0) else ([], 8)) else ([], 1)
theorem rnamed (n : ByteArray) : dragnetref16_named.f n = some (decide (nmd n)) := by
 unfold dragnetref16_named.f
 by_cases h : 1 ≤ n.size
 ·rw [if_pos (by omega)]
  congr 1
  exact decide_eq_decide.2 ⟨fun h2 => ⟨h, by omega⟩, fun h2 => by have := h2.2; omega⟩
 ·rw [if_neg (by omega), decide_eq_false (fun h2 : nmd n => h h2.1)]
theorem ref_read (room : Int) (l : List S84) (n : ByteArray) (hr : Reach l) : dragnetref16_Read.f (l.length + 2) room l n = some (RR room l n) := by
 have h1 := hr.1
 unfold dragnetref16_Read.f dragnetref16_Formed.f RR
 rw [if_pos (by omega), Option.bind_some]
 by_cases hf : FormedR room l
 ·rw [decide_eq_true hf, if_pos rfl, rnamed, Option.bind_some]
  by_cases hn : nmd n
  ·rw [decide_eq_true hn, if_pos ⟨hf, hn⟩, show l.length + 2 = (l.length + 1) + 1 by omega, dragnetref16_Read.j0, if_neg (by decide)]
   unfold dragnetref16_place.f
   have hp := place_l0 room l n (formed_srt hf) h1 l.length 0 (by omega) (by omega) (fun j hj => absurd hj (Nat.not_lt_zero _))
   rw [show ((0 : Nat) : Int) = 0 from rfl] at hp
   rw [hp, Option.bind_some]
   cases hfd : foundS l n with
   | false => rw [if_neg Bool.false_ne_true, if_pos (by decide), if_neg Bool.false_ne_true]
   | true =>
    have hi := found_lt hfd
    rw [if_pos rfl, if_neg (by omega), if_pos (by omega), if_pos (by omega), copy1 _ (hr.2 _ (rdm l _ hi)), Option.bind_some, if_pos rfl]
  ·rw [decide_eq_false hn, if_neg (fun h => hn h.2), show l.length + 2 = (l.length + 1) + 1 by omega, dragnetref16_Read.j0, if_pos (by decide)]
 ·rw [decide_eq_false hf, if_neg (by decide), if_neg (fun h => hf h.1), show l.length + 2 = (l.length + 1) + 1 by omega, dragnetref16_Read.j0, if_pos rfl]
theorem own_read (room : Int) (l : List S84) (n : ByteArray) (hr : Reach l) : store_Read.f (3 * l.length + 3) room l n = some (RR room l n) := by
 have h1 := hr.1
 unfold store_Read.f RR
 rw [formed_plain room l hr.small.small, Option.bind_some]
 by_cases hf : FormedR room l
 ·rw [decide_eq_true hf, if_pos rfl, named_nmd, Option.bind_some]
  by_cases hn : nmd n
  ·rw [decide_eq_true hn, if_pos ⟨hf, hn⟩, show 3 * l.length + 3 = (3 * l.length + 2) + 1 by omega, store_Read.j0, if_neg (by decide)]
   unfold store_find.f
   rw [if_pos ⟨by omega, formed_srt hf⟩, Option.bind_some]
   simp only []
   cases hfd : foundS l n with
   | false => rw [if_neg (by decide), if_neg (by decide)]
   | true =>
    have hi := found_lt hfd
    have hb := hr.2 _ (rdm l _ hi)
    unfold slices_Clone_byte_byte.f
    rw [if_pos rfl, if_pos (by omega), if_pos (by omega), if_pos (by omega), Option.bind_some, if_pos rfl]
  ·rw [decide_eq_false hn, if_neg (fun h => hn h.2), show 3 * l.length + 3 = (3 * l.length + 2) + 1 by omega, store_Read.j0, if_pos (by decide)]
 ·rw [decide_eq_false hf, if_neg (by decide), if_neg (fun h => hf h.1), show 3 * l.length + 3 = (3 * l.length + 2) + 1 by omega, store_Read.j0, if_pos rfl]
def nmL (l : List S84) : List ByteArray := l.map (·.f0)
theorem nm_len (l : List S84) : (nmL l).length = l.length := List.length_map _
theorem nm_snoc (l : List S84) (i : Nat) (h : i < l.length) : (nmL l).take i ++ [(rd_T84 l (i : Int)).f0] = (nmL l).take (i + 1) := by
 have h1 : i < (nmL l).length := by rw [nm_len]; exact h
 rw [List.take_succ_eq_append_getElem h1, rd_get l i h]
 show _ = _ ++ [(l.map (·.f0))[i]'(by rw [List.length_map]; exact h)]
 rw [List.getElem_map]
theorem set_take {α : Type} (a : List α) (i : Nat) (x y : α) (r : List α) (h : a.length = i) : (a ++ y :: r).set i x = (a ++ [x]) ++ r := by
 subst h
 rw [List.set_append, if_neg (Nat.lt_irrefl _), Nat.sub_self, List.set_cons_zero, List.append_assoc, List.singleton_append]
theorem own_names_l0 (l : List S84) (hl : l.length < 2932031007402) : ∀ m i : Nat, l.length - i = m → i ≤ l.length → store_Names.l0 (m + 1) ((nmL l).take i ++ List.replicate m (⟨#[]⟩ : ByteArray)) l (l.length : Int) (i : Int) = some (nmL l)
 | 0, i, hm, hi => by
  obtain rfl : i = l.length := by omega
  rw [store_Names.l0, if_neg (Int.lt_irrefl _), ← nm_len l, List.take_length, List.replicate_zero, List.append_nil]
 | m + 1, i, hm, hi => by
  have hlt : i < l.length := by omega
  have hln := nm_len l
  have htk : ((nmL l).take i).length = i := by rw [List.length_take]; omega
  rw [store_Names.l0, if_pos (by omega), if_pos (by omega), if_pos (by omega), if_pos (by rw [List.length_append, htk, List.length_replicate]; omega), Int.toNat_natCast, List.replicate_succ, set_take _ _ _ _ _ htk, nm_snoc l i hlt, wr64 (by omega), show (i : Int) + 1 = ((i + 1 : Nat) : Int) by omega]
  exact own_names_l0 l hl m (i + 1) (by omega) hlt
theorem own_names (room : Int) (l : List S84) (hr : Reach l) : store_Names.f (3 * l.length + 3) room l = some (if FormedR room l then nmL l else []) := by
 have h1 := hr.1
 unfold store_Names.f
 rw [formed_plain room l hr.small.small, Option.bind_some]
 by_cases hf : FormedR room l
 ·rw [decide_eq_true hf, if_pos rfl, if_pos hf, if_pos (by omega), if_pos (by rw [Int.toNat_natCast]; omega), Int.toNat_natCast]
  exact at_rounds (fun k => (store_Names.mono_l k) _ _ _ _) (by omega) (own_names_l0 l h1 l.length 0 (by omega) (by omega))
 ·rw [decide_eq_false hf, if_neg (by decide), if_neg hf]
def QF (x : S84) : Prop := x.f0.size ≤ 140737488351232 ∧ (x.f1.length * Tryd.prog.bytesOf 5 ≤ 140737488351232 ∧ ∀ u ∈ x.f1, (Lit.int .u8 u).wf = true) ∧ (Lit.int .i64 x.f2).wf = true
def QD (room : Int) (l : List S84) : Prop := (Lit.int .i64 room).wf = true ∧ (l.length * Tryd.prog.bytesOf 84 ≤ 140737488351232 ∧ ∀ x ∈ l, QF x)
theorem bytes84 : Tryd.prog.bytesOf 84 = 48 := by kernel_rfl
theorem bytes5 : Tryd.prog.bytesOf 5 = 1 := by kernel_rfl
theorem reach_q {room : Int} {l : List S84} (h : QD room l) : Reach l := by
 obtain ⟨_, h1, h2⟩ := h
 rw [bytes84] at h1
 refine ⟨by omega, fun x hx => ?_⟩
 have h3 := (h2 x hx).2.1.1
 rw [bytes5] at h3
 omega
end Go.Proofs.YtdcifmonhaklcaaDoor.R
