/- Walks by hand. -/
import Derived.Test.YtdcifmonhaklcaaDoorTaCxA
import Derived.Test.YtdcifmonhaklcaaDoorTaAx5
import Derived.Test.YtdcifmonhaklcaaDoorTaAx6
import Derived.Test.YtdcifmonhaklcaaDoorTaAx7
import Derived.Test.YtdcifmonhaklcaaDoorTaAx9
import Derived.Test.YtdcifmonhaklcaaDoorTaAx10
import Derived.Test.YtdcifmonhaklcaaDoorTaAx14
import Derived.Test.YtdcifmonhaklcaaDoorTaAx15
namespace Go.Proofs.YtdcifmonhaklcaaDoor.A
open Go.RowKit YtdcifmonhaklcaaDoorW.PrintWords YtdcifmonhaklcaaDoorW.PrintLast YtdcifmonhaklcaaDoorW.PrintMore
attribute [local go_sem] max2_int min2_int max_two min_two
set_option linter.unusedVariables false
set_option linter.unusedSimpArgs false
theorem rdm (l : List S84) (i : Nat) (h : i < l.length) : rd_T84 l (i : Int) ∈ l := by
 unfold rd_T84
 rw [Int.toNat_natCast, List.getD_eq_getElem?_getD, List.getElem?_eq_getElem h]
 exact List.getElem_mem h
def Reach (l : List S84) : Prop := l.length < 2932031007402 ∧ ∀ x ∈ l, x.f1.length ≤ 140737488351232
theorem Reach.small {l : List S84} (h : Reach l) : SmallD l := ⟨by have := h.1; omega, h.2⟩
theorem toList_inj {a b : ByteArray} (h : a.toList = b.toList) : a = b := by
 rw [Lib.toList_data, Lib.toList_data] at h
 cases a
 cases b
 congr 1
 exact Array.toList_inj.1 h
theorem rd_get (l : List S84) (i : Nat) (h : i < l.length) : rd_T84 l (i : Int) = l[i] := by
 unfold rd_T84
 rw [Int.toNat_natCast, List.getD_eq_getElem?_getD, List.getElem?_eq_getElem h]
 rfl
theorem srt_get {l : List S84} (h : Srt l) {i j : Nat} (hij : i < j) (hj : j < l.length) : cmpS (rd_T84 l (i : Int)).f0 (rd_T84 l (j : Int)).f0 < 0 := by
 rw [rd_get l i (by omega), rd_get l j hj]
 exact List.pairwise_iff_getElem.1 h i j (by omega) hj hij
theorem cmp_self : ∀ a : List UInt8, Lib.compareBytes a a = 0
 | [] => rfl
 | x :: a => by
  unfold Lib.compareBytes
  have h : ¬ x < x := fun hh => by have := UInt8.lt_iff_toNat_lt.1 hh; omega
  rw [if_neg h, if_neg h]
  exact cmp_self a
theorem cmp_zero : ∀ a b : List UInt8, Lib.compareBytes a b = 0 → a = b
 | [], [], _ => rfl
 | [], _ :: _, h => by simp [Lib.compareBytes] at h
 | _ :: _, [], h => by simp [Lib.compareBytes] at h
 | x :: a, y :: b, h => by
  unfold Lib.compareBytes at h
  by_cases h1 : x < y
  ·rw [if_pos h1] at h
   simp at h
  ·rw [if_neg h1] at h
   by_cases h2 : y < x
   ·rw [if_pos h2] at h
    simp at h
   ·rw [if_neg h2] at h
    have t : ∀ p q : UInt8, p < q ↔ p.toNat < q.toNat := fun p q => UInt8.lt_iff_toNat_lt
    have h4 : ¬ x.toNat < y.toNat := fun hh => h1 ((t _ _).2 hh)
    have h5 : ¬ y.toNat < x.toNat := fun hh => h2 ((t _ _).2 hh)
    have h3 : x = y := UInt8.toNat_inj.1 (by omega)
    rw [h3, cmp_zero a b h]
theorem cmp_neg : ∀ a b : List UInt8, ¬ Lib.compareBytes a b < 0 → Lib.compareBytes a b ≠ 0 → Lib.compareBytes b a < 0
 | [], [], _, h => absurd rfl h
 | [], _ :: _, h, _ => absurd (by simp [Lib.compareBytes]) h
 | _ :: _, [], _, _ => by simp [Lib.compareBytes]
 | x :: a, y :: b, h, h0 => by
  unfold Lib.compareBytes at h h0 ⊢
  by_cases h1 : x < y
  ·rw [if_pos h1] at h
   exact absurd (by decide) h
  ·rw [if_neg h1] at h h0
   by_cases h2 : y < x
   ·rw [if_pos h2]
    decide
   ·rw [if_neg h2] at h h0 ⊢
    rw [if_neg h1]
    exact cmp_neg a b h h0
theorem cmpS_eq {a b : ByteArray} (h : cmpS a b = 0) : a = b := by
 have := cmp_zero _ _ h
 cases a
 cases b
 congr 1
 exact Array.toList_inj.1 this
theorem cmpS_neg {a b : ByteArray} (h : ¬ cmpS a b < 0) (h0 : cmpS a b ≠ 0) : cmpS b a < 0 := cmp_neg _ _ h h0
theorem cmpS_trans {a b c : ByteArray} (h : cmpS a b < 0) (h2 : cmpS b c < 0) : cmpS a c < 0 := cmpB_trans _ _ _ h h2
theorem below_idx {l : List S84} (n : ByteArray) {j : Nat} (hj : j < idxS l n) : cmpS (rd_T84 l (j : Int)).f0 n < 0 := by
 have hl := idx_le l n
 by_cases h : cmpS (rd_T84 l (j : Int)).f0 n < 0
 ·exact h
 ·have := idx_high l n (b := j) (by omega) h
  omega
theorem above_idx {l : List S84} (hs : Srt l) (n : ByteArray) {j : Nat} (hj : idxS l n ≤ j) (hl : j < l.length) : ¬ cmpS (rd_T84 l (j : Int)).f0 n < 0 := fun h => by
 have := idx_low hs n hl h
 omega
theorem other_idx {l : List S84} (hs : Srt l) (n : ByteArray) (hf : foundS l n = false) {j : Nat} (hj : idxS l n ≤ j) (hl : j < l.length) : cmpS n (rd_T84 l (j : Int)).f0 < 0 := by
 refine cmpS_neg (above_idx hs n hj hl) fun h0 => ?_
 rcases Nat.lt_or_eq_of_le hj with h | h
 ·have h1 := srt_get hs h hl
  rw [cmpS_eq h0] at h1
  exact above_idx hs n (Nat.le_refl _) (by omega) h1
 ·unfold foundS at hf
  rw [h, h0] at hf
  simp [hl] at hf
theorem mem_take {l : List S84} {i : Nat} {a : S84} (h : a ∈ l.take i) : ∃ j : Nat, j < i ∧ j < l.length ∧ a = rd_T84 l (j : Int) := by
 obtain ⟨j, hj, rfl⟩ := List.mem_iff_getElem.1 h
 rw [List.length_take] at hj
 refine ⟨j, by omega, by omega, ?_⟩
 rw [rd_get l j (by omega), List.getElem_take]
theorem mem_drop {l : List S84} {i : Nat} {a : S84} (h : a ∈ l.drop i) : ∃ j : Nat, i ≤ j ∧ j < l.length ∧ a = rd_T84 l (j : Int) := by
 obtain ⟨j, hj, rfl⟩ := List.mem_iff_getElem.1 h
 rw [List.length_drop] at hj
 refine ⟨i + j, by omega, by omega, ?_⟩
 rw [rd_get l (i + j) (by omega), List.getElem_drop]
theorem found_name {l : List S84} {n : ByteArray} (h : foundS l n = true) : (rd_T84 l (idxS l n : Int)).f0 = n := by
 unfold foundS at h
 rw [Bool.and_eq_true] at h
 exact cmpS_eq (by simpa using h.2)
theorem put_length (l : List S84) (i : Nat) (x : S84) : (putAt l i x).length = l.length + 1 := by
 unfold putAt
 rw [List.length_append, List.length_cons, List.length_take, List.length_drop]
 omega
def okx (x : S84) : Prop := nmd x.f0 ∧ 0 ≤ x.f2 ∧ x.f2 ≤ x.f1.length
theorem formed_iff2 (room : Int) (l : List S84) : FormedR room l ↔ (Srt l ∧ (∀ x ∈ l, okx x) ∧ 0 ≤ room ∧ room ≤ 67108864 ∧ l.length ≤ 256 ∧ totS l ≤ room) := by
 constructor
 ·intro h
  have h2 := (formed_iff room l).1 h
  refine ⟨formed_srt h, fun x hx => ?_, h2.2⟩
  obtain ⟨i, hi, rfl⟩ := List.mem_iff_getElem.1 hx
  have h3 := h2.1 i hi
  unfold okS at h3
  rw [rd_get l i hi] at h3
  exact ⟨h3.1, h3.2.1, h3.2.2.1⟩
 ·rintro ⟨h1, h2, h3⟩
  refine (formed_iff room l).2 ⟨fun i hi => ?_, h3⟩
  have h4 := h2 _ (List.getElem_mem hi)
  unfold okS
  refine ⟨by rw [rd_get l i hi]; exact h4.1, by rw [rd_get l i hi]; exact h4.2.1, by rw [rd_get l i hi]; exact h4.2.2, fun h0 => ?_⟩
  have h5 := srt_get h1 (i := i - 1) (j := i) (by omega) hi
  rwa [show ((i - 1 : Nat) : Int) = (i : Int) - 1 by omega] at h5
theorem srt_names (l : List S84) : Srt l ↔ (l.map (·.f0)).Pairwise (fun a b => cmpS a b < 0) := by
 unfold Srt
 rw [List.pairwise_map]
theorem srt_set {l : List S84} (h : Srt l) (i : Nat) (hi : i < l.length) (x : S84) (hx : x.f0 = (rd_T84 l (i : Int)).f0) : Srt (l.set i x) := by
 rw [srt_names] at h ⊢
 rw [List.map_set, hx, rd_get l i hi, show l[i].f0 = (l.map (·.f0))[i]'(by rw [List.length_map]; exact hi) by rw [List.getElem_map], List.set_getElem_self]
 exact h
theorem srt_put {l : List S84} (hs : Srt l) (n : ByteArray) (hf : foundS l n = false) (x : S84) (hx : x.f0 = n) : Srt (putAt l (idxS l n) x) := by
 unfold Srt putAt
 rw [List.pairwise_append]
 refine ⟨List.Pairwise.sublist (List.take_sublist _ _) hs, ?_, ?_⟩
 ·rw [List.pairwise_cons]
  refine ⟨fun b hb => ?_, List.Pairwise.sublist (List.drop_sublist _ _) hs⟩
  obtain ⟨j, h1, h2, rfl⟩ := mem_drop hb
  rw [hx]
  exact other_idx hs n hf h1 h2
 ·intro a ha b hb
  obtain ⟨j, h1, h2, rfl⟩ := mem_take ha
  have h3 := below_idx n h1
  rcases List.mem_cons.1 hb with rfl | hb
  ·rw [hx]
   exact h3
  ·obtain ⟨q, h4, h5, rfl⟩ := mem_drop hb
   exact cmpS_trans h3 (other_idx hs n hf h4 h5)
theorem srt_erase {l : List S84} (hs : Srt l) (i : Nat) : Srt (l.eraseIdx i) := List.Pairwise.sublist (List.eraseIdx_sublist _ _) hs
theorem tot_put (l : List S84) (i : Nat) (x : S84) : totS (putAt l i x) = totS l + x.f1.length := by
 unfold putAt
 rw [tot_append, tot_cons]
 have := tot_append (l.take i) (l.drop i)
 rw [List.take_append_drop] at this
 omega
theorem tot_erase (l : List S84) (i : Nat) (h : i < l.length) : totS (l.eraseIdx i) = totS l - (rd_T84 l (i : Int)).f1.length := by
 rw [List.eraseIdx_eq_take_drop_succ, tot_append]
 have h1 := tot_append (l.take i) (l.drop i)
 rw [List.take_append_drop, List.drop_eq_getElem_cons h, tot_cons, ← rd_get l i h] at h1
 omega
theorem tot_set (l : List S84) (i : Nat) (h : i < l.length) (x : S84) : totS (l.set i x) = totS l - (rd_T84 l (i : Int)).f1.length + x.f1.length := by
 rw [List.set_eq_take_append_cons_drop, if_pos h, tot_append, tot_cons]
 have h1 := tot_append (l.take i) (l.drop i)
 rw [List.take_append_drop, List.drop_eq_getElem_cons h, tot_cons, ← rd_get l i h] at h1
 omega
theorem mem_put {l : List S84} {i : Nat} {x y : S84} (h : y ∈ putAt l i x) : y = x ∨ y ∈ l := by
 unfold putAt at h
 rcases List.mem_append.1 h with h | h
 ·exact .inr (List.mem_of_mem_take h)
 ·rcases List.mem_cons.1 h with h | h
  ·exact .inl h
  ·exact .inr (List.mem_of_mem_drop h)
theorem doL_formed {room : Int} {l : List S84} {kind : Int} {name nto : ByteArray} {bytes : List Int} (hf : FormedR room l) (hn : nmd name) (hk : 1 ≤ kind ∧ kind ≤ 4) (ht : kind = 3 → nmd nto) (hfo : kind ≠ 1 → foundS l name = true) (hl : kind = 1 → foundS l name = false → l.length ≠ 256) (hsp : kind = 1 → totS l + (bytes.length : Int) ≤ room) :
  FormedR room (doL l kind name nto bytes) ∧ (kind = 1 → totS (doL l kind name nto bytes) = totS l + bytes.length) ∧ (kind = 2 → totS (doL l kind name nto bytes) = totS l) ∧ (kind ≠ 1 → totS (doL l kind name nto bytes) ≤ totS l ∧ (doL l kind name nto bytes).length ≤ l.length) := by
 obtain ⟨h1, h2, h3, h4, h5, h6⟩ := (formed_iff2 room l).1 hf
 unfold doL
 simp only []
 by_cases k1 : kind = 1
 ·rw [if_pos k1]
  have hs := hsp k1
  cases hfd : foundS l name with
  | true =>
   rw [if_pos rfl]
   have hi := found_lt hfd
   have hx := h2 _ (rdm l _ hi)
   have htot := tot_set l (idxS l name) hi ⟨(rd_T84 l (idxS l name : Int)).f0, (rd_T84 l (idxS l name : Int)).f1 ++ bytes, (rd_T84 l (idxS l name : Int)).f2⟩
   simp only [List.length_append] at htot
   refine ⟨(formed_iff2 _ _).2 ⟨srt_set h1 _ hi _ rfl, fun y hy => ?_, h3, h4, by rw [List.length_set]; exact h5, by omega⟩, fun _ => by omega, fun h => by omega, fun h => absurd k1 h⟩
   rcases List.mem_or_eq_of_mem_set hy with hy | rfl
   ·exact h2 y hy
   ·exact ⟨hx.1, hx.2.1, by show (rd_T84 l (idxS l name : Int)).f2 ≤ (((rd_T84 l (idxS l name : Int)).f1 ++ bytes).length : Int); rw [List.length_append]; have := hx.2.2; omega⟩
  | false =>
   rw [if_neg (by decide)]
   have htot := tot_put l (idxS l name) ⟨name, bytes, 0⟩
   simp only [] at htot
   have hne := hl k1 hfd
   refine ⟨(formed_iff2 _ _).2 ⟨srt_put h1 name hfd _ rfl, fun y hy => ?_, h3, h4, by rw [put_length]; omega, by omega⟩, fun _ => htot, fun h => by omega, fun h => absurd k1 h⟩
   rcases mem_put hy with rfl | hy
   ·exact ⟨hn, Int.le_refl _, by show (0 : Int) ≤ _; omega⟩
   ·exact h2 y hy
 ·rw [if_neg k1]
  have hfd := hfo k1
  have hi := found_lt hfd
  have hx := h2 _ (rdm l _ hi)
  by_cases k2 : kind = 2
  ·rw [if_pos k2]
   have htot := tot_set l (idxS l name) hi ⟨(rd_T84 l (idxS l name : Int)).f0, (rd_T84 l (idxS l name : Int)).f1, ((rd_T84 l (idxS l name : Int)).f1.length : Int)⟩
   simp only [] at htot
   refine ⟨(formed_iff2 _ _).2 ⟨srt_set h1 _ hi _ rfl, fun y hy => ?_, h3, h4, by rw [List.length_set]; exact h5, by omega⟩, fun h => absurd h k1, fun _ => by omega, fun _ => ⟨by omega, by rw [List.length_set]; exact Nat.le_refl _⟩⟩
   rcases List.mem_or_eq_of_mem_set hy with hy | rfl
   ·exact h2 y hy
   ·exact ⟨hx.1, Int.natCast_nonneg _, Int.le_refl _⟩
  ·rw [if_neg k2]
   have hse := srt_erase h1 (idxS l name)
   have hte := tot_erase l (idxS l name) hi
   have hle : (l.eraseIdx (idxS l name)).length = l.length - 1 := by rw [List.length_eraseIdx, if_pos hi]
   have hme : ∀ y ∈ l.eraseIdx (idxS l name), okx y := fun y hy => h2 y (List.mem_of_mem_eraseIdx hy)
   by_cases k4 : kind = 4
   ·rw [if_pos k4]
    exact ⟨(formed_iff2 _ _).2 ⟨hse, hme, h3, h4, by omega, by omega⟩, fun h => absurd h k1, fun h => absurd h k2, fun _ => ⟨by omega, by omega⟩⟩
   ·rw [if_neg k4]
    have k3 : kind = 3 := by omega
    have hnt := ht k3
    generalize l.eraseIdx (idxS l name) = E at hse hte hle hme ⊢
    cases hf2 : foundS E nto with
    | true =>
     rw [if_pos rfl]
     have hk2 := found_lt hf2
     have hb := tot_at E (idxS E nto) hk2
     have htot := tot_set E (idxS E nto) hk2 ⟨nto, (rd_T84 l (idxS l name : Int)).f1, (rd_T84 l (idxS l name : Int)).f2⟩
     simp only [] at htot
     refine ⟨(formed_iff2 _ _).2 ⟨srt_set hse _ hk2 _ (found_name hf2).symm, fun y hy => ?_, h3, h4, by rw [List.length_set]; omega, by omega⟩, fun h => absurd h k1, fun h => absurd h k2, fun _ => ⟨by omega, by rw [List.length_set]; omega⟩⟩
     rcases List.mem_or_eq_of_mem_set hy with hy | rfl
     ·exact hme y hy
     ·exact ⟨hnt, hx.2⟩
    | false =>
     rw [if_neg (by decide)]
     have htot := tot_put E (idxS E nto) ⟨nto, (rd_T84 l (idxS l name : Int)).f1, (rd_T84 l (idxS l name : Int)).f2⟩
     simp only [] at htot
     refine ⟨(formed_iff2 _ _).2 ⟨srt_put hse nto hf2 _ rfl, fun y hy => ?_, h3, h4, by rw [put_length]; omega, by omega⟩, fun h => absurd h k1, fun h => absurd h k2, fun _ => ⟨by omega, by rw [put_length]; omega⟩⟩
     rcases mem_put hy with rfl | hy
     ·exact ⟨hnt, hx.2⟩
     ·exact hme y hy
theorem reach_of {room : Int} {l : List S84} (h : FormedR room l) : Reach l := by
 refine ⟨by have := h.2.2.2.1; omega, fun x hx => ?_⟩
 obtain ⟨i, hi, rfl⟩ := List.mem_iff_getElem.1 hx
 have h1 := tot_at l i hi
 rw [rd_get l i hi] at h1
 have := h.2.2.1
 have := h.2.2.2.2
 omega
def RR (room : Int) (l : List S84) (n : ByteArray) : List Int × Int := if FormedR room l ∧ nmd n then (if foundS l n = true then ((rd_T84 l (idxS l n : Int)).f1, 0) else ([], 8)) else ([], 1)
theorem own_read (room : Int) (l : List S84) (n : ByteArray) (hr : Reach l) : store_Read.f (3 * l.length + 3) room l n = some (RR room l n) := by
 have h1 := hr.1
 unfold store_Read.f RR
 rw [formed_plain room l hr.small.small, Option.bind_some]
 by_cases hf : FormedR room l
 ·rw [decide_eq_true hf, if_pos rfl, named_nmd, Option.bind_some]
  by_cases hn : nmd n
  ·rw [decide_eq_true hn, if_pos ⟨hf, hn⟩, show 3 * l.length + 3 = (3 * l.length + 2) + 1 by omega, store_Read.j0, if_neg (by decide)]
   unfold store_find.f
   rw [if_pos ⟨by omega, formed_srt hf⟩, Option.bind_some]
   simp only []
   cases hfd : foundS l n with
   | false => rw [if_neg (by decide), if_neg (by decide)]
   | true =>
    have hi := found_lt hfd
    have hb := hr.2 _ (rdm l _ hi)
    unfold slices_Clone_byte_byte.f
    rw [if_pos rfl, if_pos (by omega), if_pos (by omega), if_pos (by omega), Option.bind_some, if_pos rfl]
  ·rw [decide_eq_false hn, if_neg (fun h => hn h.2), show 3 * l.length + 3 = (3 * l.length + 2) + 1 by omega, store_Read.j0, if_pos (by decide)]
 ·rw [decide_eq_false hf, if_neg (by decide), if_neg (fun h => hf h.1), show 3 * l.length + 3 = (3 * l.length + 2) + 1 by omega, store_Read.j0, if_pos rfl]
theorem name_found {l : List S84} (hs : Srt l) {n : ByteArray} {i : Nat} (hi : i < l.length) (he : (rd_T84 l (i : Int)).f0 = n) : foundS l n = true ∧ idxS l n = i := by
 have h0 : ¬ cmpS (rd_T84 l (i : Int)).f0 n < 0 := by rw [he]; unfold cmpS; rw [cmp_self]; decide
 have h1 := idx_high l n hi h0
 have h2 : idxS l n = i := by
  rcases Nat.lt_or_eq_of_le h1 with h | h
  ·have h3 := srt_get hs h hi
   rw [he] at h3
   exact absurd h3 (above_idx hs n (Nat.le_refl _) (by omega))
  ·exact h
 refine ⟨?_, h2⟩
 unfold foundS
 rw [h2, he, decide_eq_true hi]
 unfold cmpS
 rw [cmp_self]
 rfl
theorem found_mem {L : List S84} (hs : Srt L) {n : ByteArray} (h : foundS L n = true) : rd_T84 L (idxS L n : Int) ∈ L ∧ (rd_T84 L (idxS L n : Int)).f0 = n := ⟨rdm L _ (found_lt h), found_name h⟩
theorem mem_found {L : List S84} (hs : Srt L) {n : ByteArray} {x : S84} (hx : x ∈ L) (he : x.f0 = n) : foundS L n = true ∧ rd_T84 L (idxS L n : Int) = x := by
 obtain ⟨i, hi, rfl⟩ := List.mem_iff_getElem.1 hx
 rw [← rd_get L i hi] at he ⊢
 obtain ⟨h1, h2⟩ := name_found hs hi he
 rw [h1, h2]
 exact ⟨rfl, rfl⟩
theorem not_found {L : List S84} (hs : Srt L) {n : ByteArray} (h : foundS L n = false) {x : S84} (hx : x ∈ L) : x.f0 ≠ n := fun he => by rw [(mem_found hs hx he).1] at h; cases h
theorem crash_ok {keeps : List S97} {x : S84} (h : okx x) : okx (crashF keeps x) ∧ x.f2 ≤ ((crashF keeps x).f1.length : Int) ∧ (crashF keeps x).f1 = x.f1.take (crashF keeps x).f1.length := by
 obtain ⟨h1, h2, h3⟩ := h
 have hl : 0 ≤ leftOf keeps x ∧ leftOf keeps x ≤ x.f1.length ∧ x.f2 ≤ leftOf keeps x := by unfold leftOf; omega
 have hlen : (crashF keeps x).f1.length = (leftOf keeps x).toNat := by
  unfold crashF
  show (x.f1.take _).length = _
  rw [List.length_take]
  omega
 refine ⟨⟨h1, hl.1, ?_⟩, by rw [hlen]; omega, ?_⟩
 ·rw [hlen]
  show leftOf keeps x ≤ _
  omega
 ·rw [hlen]
  rfl
theorem tot_map_le (keeps : List S97) (l : List S84) : totS (l.map (crashF keeps)) ≤ totS l := by
 induction l with
 | nil => exact Int.le_refl _
 | cons x r ih =>
  rw [List.map_cons, tot_cons, tot_cons]
  have : (crashF keeps x).f1.length ≤ x.f1.length := by
   unfold crashF
   show (x.f1.take _).length ≤ _
   rw [List.length_take]
   exact Nat.min_le_right _ _
  omega
theorem crash_formed {room : Int} {L : List S84} (keeps : List S97) (h : FormedR room L) : FormedR room (L.map (crashF keeps)) := by
 obtain ⟨h1, h2, h3, h4, h5, h6⟩ := (formed_iff2 room L).1 h
 refine (formed_iff2 _ _).2 ⟨?_, fun y hy => ?_, h3, h4, by rw [List.length_map]; exact h5, Int.le_trans (tot_map_le keeps L) h6⟩
 ·rw [srt_names] at h1 ⊢
  rw [List.map_map]
  exact h1
 ·obtain ⟨x, hx, rfl⟩ := List.mem_map.1 hy
  exact (crash_ok (h2 x hx)).1
theorem same18_l0 (l : List S63) (a b : Int) (hl : l.length ≤ 140737488355328) (n : Nat) : ∀ (e i : Nat), i + n = l.length → dragnetref18_Same.l0 (n + 1 + e) (i : Int) l a b l a b = some true := by
 induction n with
 | zero =>
  intro e i h
  rw [show 0 + 1 + e = e + 1 by omega, dragnetref18_Same.l0, if_neg (by omega)]
 | succ n ih =>
  intro e i h
  rw [show n + 1 + 1 + e = (n + 1 + e) + 1 by omega, dragnetref18_Same.l0, if_pos (by omega), if_pos (by omega), if_pos (by omega), if_neg (by simp), show wrap64 ((i : Int) + 1) = ((i + 1 : Nat) : Int) by unfold wrap64; omega]
  exact ih e (i + 1) (by omega)
theorem takeM_len (p : List Int) : (takeM p).1.length ≤ 64 := by
 unfold takeM
 simp only []
 split
 ·exact Nat.zero_le _
 ·next h =>
  have := Decidable.not_not.1 (fun hf => h (.inr (.inr hf)))
  exact this.1
def takeF (l : List Int) : List S63 × Int × Int × Int := if (unwrap l).2 = 0 then takeM (unwrap l).1 else ([], 0, 0, 13)
theorem takeF_len (l : List Int) : (takeF l).1.length ≤ 64 := by
 unfold takeF
 split
 ·exact takeM_len _
 ·exact Nat.zero_le _
theorem mtake_f {l : List Int} (h : Bytes l) (hl : l.length < 140737488355328) : manifest_Take.f l = some (takeF l) := by
 unfold manifest_Take.f takeF
 rw [unwrap_f h hl, Option.bind_some]
 by_cases e : (unwrap l).2 = 0
 ·rw [if_pos e, if_pos e, if_pos (unwrap_ok h e)]
 ·rw [if_neg e, if_neg e]
theorem same18_reflk (l : List S63) (a b : Int) (hl : l.length ≤ 140737488355328) (k : Nat) (hk : l.length + 2 ≤ k) : dragnetref18_Same.f k l a b l a b = some true := by
 obtain ⟨e, rfl⟩ : ∃ e, k = l.length + 1 + e + 1 := ⟨k - (l.length + 2), by omega⟩
 unfold dragnetref18_Same.f
 rw [if_pos rfl, if_pos rfl, show ((l.length : Int) != (l.length : Int)) = false by simp, dragnetref18_Same.j0, if_neg Bool.false_ne_true]
 exact same18_l0 l a b hl l.length e 0 (by omega)
theorem putB_byteL {v : Int} (h0 : 0 ≤ v) (h : v < 18446744073709551616) : ByteL (putB v) := by
 unfold putB
 by_cases c : v ≤ 247
 ·rw [if_pos c]
  intro x hx
  rw [List.mem_singleton] at hx
  omega
 ·obtain ⟨_, s2, s3⟩ := szN_low (by omega : 0 < v) h
  rw [if_neg c]
  intro x hx
  rcases List.mem_cons.1 hx with rfl | hx
  ·omega
  ·exact leN_bytes _ _ x hx
theorem takeN_putB {v : Int} (h0 : 0 ≤ v) (h : v < 18446744073709551616) (r : List Int) : takeN (putB v ++ r) = (v, ((putB v).length : Int), 0) := by
 unfold putB
 by_cases c : v ≤ 247
 ·rw [if_pos c, List.singleton_append, takeN_cons, if_pos c]
  rfl
 ·obtain ⟨s1, s2, s3⟩ := szN_low (by omega : 0 < v) h
  have hl := leN_length (szN v) v
  have e1 : (247 + (szN v : Int) - 247).toNat = szN v := by omega
  have e2 : (leN (szN v) v ++ r).take (szN v) = leN (szN v) v := by rw [List.take_append_of_le_length (by omega), List.take_of_length_le (by omega)]
  rw [if_neg c, List.cons_append, takeN_cons, if_neg (by omega), if_neg (by rw [List.length_append]; omega), e1, e2, leV_leN _ _ h0 s1, if_neg (by omega), List.length_cons, hl]
  congr 2
  omega
theorem stepT_put {v : Int} (h0 : 0 ≤ v) (h : v ≤ 1099511627776) (r : List Int) (b : Bool) : stepT (putB v ++ r) b = (v, r, b) := by
 unfold stepT
 rw [takeN_putB h0 (by omega), if_neg (fun h2 => h2.elim (fun h3 => h3 rfl) (fun h3 => by have : (1099511627776 : Int) < v := h3; omega))]
 show (v, (putB v ++ r).drop ((putB v).length : Int).toNat, b) = _
 rw [Int.toNat_natCast, List.drop_left]
def RngT (x : S63) : Prop := (0 ≤ x.f0 ∧ x.f0 ≤ 1099511627776) ∧ (0 ≤ x.f1 ∧ x.f1 ≤ 1099511627776) ∧ (0 ≤ x.f2 ∧ x.f2 ≤ 1099511627776) ∧ (0 ≤ x.f3 ∧ x.f3 ≤ 1099511627776)
theorem ref4_put {x : S63} (h : RngT x) (r : List Int) : ref4 (refB x ++ r) false = x ∧ take4 (refB x ++ r) false 4 = (r, false) := by
 have e0 : refB x ++ r = putB x.f0 ++ (putB x.f1 ++ (putB x.f2 ++ (putB x.f3 ++ r))) := by unfold refB; simp only [List.append_assoc]
 rw [e0]
 have t1 : take4 (putB x.f0 ++ (putB x.f1 ++ (putB x.f2 ++ (putB x.f3 ++ r)))) false 1 = (putB x.f1 ++ (putB x.f2 ++ (putB x.f3 ++ r)), false) := by
  show (stepT _ false).2 = _
  rw [show take4 (putB x.f0 ++ (putB x.f1 ++ (putB x.f2 ++ (putB x.f3 ++ r)))) false 0 = (putB x.f0 ++ (putB x.f1 ++ (putB x.f2 ++ (putB x.f3 ++ r))), false) from rfl, stepT_put h.1.1 h.1.2]
 have t2 : take4 (putB x.f0 ++ (putB x.f1 ++ (putB x.f2 ++ (putB x.f3 ++ r)))) false 2 = (putB x.f2 ++ (putB x.f3 ++ r), false) := by
  show (stepT (take4 _ false 1).1 (take4 _ false 1).2).2 = _
  rw [t1, stepT_put h.2.1.1 h.2.1.2]
 have t3 : take4 (putB x.f0 ++ (putB x.f1 ++ (putB x.f2 ++ (putB x.f3 ++ r)))) false 3 = (putB x.f3 ++ r, false) := by
  show (stepT (take4 _ false 2).1 (take4 _ false 2).2).2 = _
  rw [t2, stepT_put h.2.2.1.1 h.2.2.1.2]
 have t4 : take4 (putB x.f0 ++ (putB x.f1 ++ (putB x.f2 ++ (putB x.f3 ++ r)))) false 4 = (r, false) := by
  show (stepT (take4 _ false 3).1 (take4 _ false 3).2).2 = _
  rw [t3, stepT_put h.2.2.2.1 h.2.2.2.2]
 refine ⟨?_, t4⟩
 unfold ref4 fld4
 rw [t1, t2, t3, show take4 (putB x.f0 ++ (putB x.f1 ++ (putB x.f2 ++ (putB x.f3 ++ r)))) false 0 = (putB x.f0 ++ (putB x.f1 ++ (putB x.f2 ++ (putB x.f3 ++ r))), false) from rfl, stepT_put h.1.1 h.1.2, stepT_put h.2.1.1 h.2.1.2, stepT_put h.2.2.1.1 h.2.2.1.2, stepT_put h.2.2.2.1 h.2.2.2.2]
theorem loop_put : ∀ (l : List S63), (∀ x ∈ l, RngT x) → ∀ r : List Int, loopT l.length (flatB l ++ r) false = (l, r, false)
 | [], _, _ => rfl
 | x :: m, h, r => by
  obtain ⟨h1, h2⟩ := ref4_put (h x List.mem_cons_self) (flatB m ++ r)
  rw [List.length_cons, flatB, List.append_assoc]
  show (ref4 _ false :: (loopT m.length (take4 _ false 4).1 (take4 _ false 4).2).1, (loopT m.length (take4 _ false 4).1 (take4 _ false 4).2).2) = _
  rw [h1, h2, loop_put m (fun y hy => h y (List.mem_cons_of_mem _ hy)) r]
theorem formed_rng {l : List S63} {a b : Int} (h : FormedC l a b) : ∀ x ∈ l, RngT x := by
 intro x hx
 obtain ⟨i, hi, hxi⟩ := List.mem_iff_getElem.1 hx
 have h1 := h.2.2.2.2.2 i hi
 have h2 := endC_ge (i := i) (fun j hj => h.2.2.2.2.2 j (by omega))
 have h3 := h.2.2.1
 have h4 := h.2.2.2.2.1
 have e : rd_T63 l (i : Int) = x := by
  unfold rd_T63
  rw [Int.toNat_natCast, List.getD_eq_getElem?_getD, List.getElem?_eq_getElem hi, hxi]
  rfl
 unfold okC at h1
 rw [e] at h1
 unfold RngT
 omega
theorem take_bytes {l : List S63} {a b : Int} (h : FormedC l a b) : takeM (bytesC l a b) = (l, a, b, 0) := by
 have e0 : bytesC l a b = putB (l.length : Int) ++ (flatB l ++ (putB a ++ (putB b ++ []))) := by
  unfold bytesC accB
  rw [List.take_length, List.append_nil]
  simp only [List.append_assoc]
 have h1 := h.1
 have h2 := h.2.1
 have h3 := h.2.2.1
 have h4 := h.2.2.2.1
 have h5 := h.2.2.2.2.1
 rw [e0]
 unfold takeM
 simp only []
 rw [stepT_put (by omega) (by omega)]
 simp only [Int.toNat_natCast]
 rw [loop_put l (formed_rng h)]
 simp only []
 rw [stepT_put h2 (by omega)]
 simp only []
 rw [stepT_put h4 h5]
 simp only []
 rw [if_neg (fun h => by rcases h with h | h | h; cases h; cases h; exact h (by assumption))]
theorem flat_byte : ∀ (l : List S63), (∀ x ∈ l, RngT x) → ByteL (flatB l)
 | [], _ => fun x hx => by cases hx
 | y :: m, h => by
  have hy := h y List.mem_cons_self
  unfold RngT at hy
  have hm := flat_byte m (fun z hz => h z (List.mem_cons_of_mem _ hz))
  intro x hx
  unfold flatB refB at hx
  simp only [List.mem_append] at hx
  rcases hx with (((hx | hx) | hx) | hx) | hx
  ·exact putB_byteL (by omega) (by omega) x hx
  ·exact putB_byteL (by omega) (by omega) x hx
  ·exact putB_byteL (by omega) (by omega) x hx
  ·exact putB_byteL (by omega) (by omega) x hx
  ·exact hm x hx
theorem bytesC_byte {l : List S63} {a b : Int} (h : FormedC l a b) : ByteL (bytesC l a b) := by
 have h1 := h.1
 have h2 := h.2.1
 have h3 := h.2.2.1
 have h4 := h.2.2.2.1
 have h5 := h.2.2.2.2.1
 intro x hx
 unfold bytesC accB at hx
 rw [List.take_length] at hx
 simp only [List.mem_append] at hx
 rcases hx with ((hx | hx) | hx) | hx
 ·exact putB_byteL (by omega) (by omega) x hx
 ·exact flat_byte l (formed_rng h) x hx
 ·exact putB_byteL (by omega) (by omega) x hx
 ·exact putB_byteL (by omega) (by omega) x hx
theorem bytesC_len {l : List S63} {a b : Int} (h : FormedC l a b) : (bytesC l a b).length ≤ 3000 := by
 have h1 := accB_length h l.length (Nat.le_refl _)
 have h2 := h.1
 have h3 := (putB_length h.2.1 (by have := h.2.2.1; omega)).2
 have h4 := (putB_length h.2.2.2.1 (by have := h.2.2.2.2.1; omega)).2
 unfold bytesC
 rw [List.length_append, List.length_append]
 omega
theorem take_frame {l : List S63} {a b : Int} (h : FormedC l a b) : takeF (frame (bytesC l a b)) = (l, a, b, 0) := by
 unfold takeF
 rw [unwrap_frame (bytesC_byte h) (by have := bytesC_len h; omega), if_pos rfl]
 exact take_bytes h
def nmL (l : List S84) : List ByteArray := l.map (·.f0)
theorem nm_len (l : List S84) : (nmL l).length = l.length := List.length_map _
theorem nm_snoc (l : List S84) (i : Nat) (h : i < l.length) : (nmL l).take i ++ [(rd_T84 l (i : Int)).f0] = (nmL l).take (i + 1) := by
 have h1 : i < (nmL l).length := by rw [nm_len]; exact h
 rw [List.take_succ_eq_append_getElem h1, rd_get l i h]
 show _ = _ ++ [(l.map (·.f0))[i]'(by rw [List.length_map]; exact h)]
 rw [List.getElem_map]
theorem set_take {α : Type} (a : List α) (i : Nat) (x y : α) (r : List α) (h : a.length = i) : (a ++ y :: r).set i x = (a ++ [x]) ++ r := by
 subst h
 rw [List.set_append, if_neg (Nat.lt_irrefl _), Nat.sub_self, List.set_cons_zero, List.append_assoc, List.singleton_append]
theorem own_names_l0 (l : List S84) (hl : l.length < 2932031007402) : ∀ m i : Nat, l.length - i = m → i ≤ l.length → store_Names.l0 (m + 1) ((nmL l).take i ++ List.replicate m (⟨#[]⟩ : ByteArray)) l (l.length : Int) (i : Int) = some (nmL l)
 | 0, i, hm, hi => by
  obtain rfl : i = l.length := by omega
  rw [store_Names.l0, if_neg (Int.lt_irrefl _), ← nm_len l, List.take_length, List.replicate_zero, List.append_nil]
 | m + 1, i, hm, hi => by
  have hlt : i < l.length := by omega
  have hln := nm_len l
  have htk : ((nmL l).take i).length = i := by rw [List.length_take]; omega
  rw [store_Names.l0, if_pos (by omega), if_pos (by omega), if_pos (by omega), if_pos (by rw [List.length_append, htk, List.length_replicate]; omega), Int.toNat_natCast, List.replicate_succ, set_take _ _ _ _ _ htk, nm_snoc l i hlt, wr64 (by omega), show (i : Int) + 1 = ((i + 1 : Nat) : Int) by omega]
  exact own_names_l0 l hl m (i + 1) (by omega) hlt
theorem own_names (room : Int) (l : List S84) (hr : Reach l) : store_Names.f (3 * l.length + 3) room l = some (if FormedR room l then nmL l else []) := by
 have h1 := hr.1
 unfold store_Names.f
 rw [formed_plain room l hr.small.small, Option.bind_some]
 by_cases hf : FormedR room l
 ·rw [decide_eq_true hf, if_pos rfl, if_pos hf, if_pos (by omega), if_pos (by rw [Int.toNat_natCast]; omega), Int.toNat_natCast]
  exact at_rounds (fun k => (store_Names.mono_l k) _ _ _ _) (by omega) (own_names_l0 l h1 l.length 0 (by omega) (by omega))
 ·rw [decide_eq_false hf, if_neg (by decide), if_neg hf]
def QF (x : S84) : Prop := x.f0.size ≤ 140737488351232 ∧ (x.f1.length * Tryd.prog.bytesOf 5 ≤ 140737488351232 ∧ ∀ u ∈ x.f1, (Lit.int .u8 u).wf = true) ∧ (Lit.int .i64 x.f2).wf = true
def QD (room : Int) (l : List S84) : Prop := (Lit.int .i64 room).wf = true ∧ (l.length * Tryd.prog.bytesOf 84 ≤ 140737488351232 ∧ ∀ x ∈ l, QF x)
theorem bytes84 : Tryd.prog.bytesOf 84 = 48 := by kernel_rfl
theorem bytes5 : Tryd.prog.bytesOf 5 = 1 := by kernel_rfl
theorem reach_q {room : Int} {l : List S84} (h : QD room l) : Reach l := by
 obtain ⟨_, h1, h2⟩ := h
 rw [bytes84] at h1
 refine ⟨by omega, fun x hx => ?_⟩
 have h3 := (h2 x hx).2.1.1
 rw [bytes5] at h3
 omega
theorem nm_mem {l : List S84} {n : ByteArray} : n ∈ nmL l ↔ ∃ j : Nat, j < l.length ∧ (rd_T84 l (j : Int)).f0 = n := by
 unfold nmL
 rw [List.mem_map]
 constructor
 ·rintro ⟨x, hx, rfl⟩
  obtain ⟨j, hj, hxj⟩ := List.mem_iff_getElem.1 hx
  exact ⟨j, hj, by rw [rd_get l j hj, hxj]⟩
 ·rintro ⟨j, hj, rfl⟩
  exact ⟨_, rdm l j hj, rfl⟩
theorem nm_nmd {room : Int} {l : List S84} (hf : FormedR room l) {n : ByteArray} (h : n ∈ nmL l) : nmd n := by
 obtain ⟨j, hj, rfl⟩ := nm_mem.1 h
 have h1 := ((formed_iff room l).1 hf).1 j hj
 exact h1.1
theorem takeF_err (l : List Int) (h : (takeF l).2.2.2 ≠ 0) : takeF l = ([], 0, 0, 13) := by
 unfold takeF at h ⊢
 by_cases c : (unwrap l).2 = 0
 ·rw [if_pos c] at h ⊢
  unfold takeM at h ⊢
  simp only [] at h ⊢
  split
  ·rfl
  ·next hn =>
   rw [if_neg hn] at h
   exact absurd rfl h
 ·rw [if_neg c]
def manB : ByteArray := ⟨#[109]⟩
def recC (l : List S84) : List S63 × Int × Int × Int := if foundS l manB = true then takeF (rd_T84 l (idxS l manB : Int)).f1 else ([], 0, 0, 0)
def recF (room : Int) (l : List S84) : List S63 × Int × Int × List S60 × Int :=
 if FormedR room l then (if (recC l).2.2.2 = 0 then (if recOk (nmL l) (recC l).1 = true then ((recC l).1, (recC l).2.1, (recC l).2.2.1, recOps (nmL l) (recStay (recC l).1 (recC l).1.length), 0) else ([], 0, 0, [], 13)) else ([], 0, 0, [], 13)) else ([], 0, 0, [], 1)
theorem recC_len (l : List S84) : (recC l).1.length ≤ 64 := by
 unfold recC
 split
 ·exact takeF_len _
 ·exact Nat.zero_le _
def BytesD (l : List S84) : Prop := ∀ x ∈ l, Bytes x.f1
theorem rec_m {room : Int} {l : List S84} (hf : FormedR room l) : RR room l manB = if foundS l manB = true then ((rd_T84 l (idxS l manB : Int)).f1, 0) else ([], 8) := by
 unfold RR
 rw [if_pos ⟨hf, by unfold nmd manB; decide⟩]
theorem own_rec (room : Int) (l : List S84) (hr : Reach l) (hb : BytesD l) : manifest_Recover.f room l = some (recF room l) := by
 unfold manifest_Recover.f recF
 rw [show (⟨#[109]⟩ : ByteArray) = manB from rfl, own_read room l manB hr, Option.bind_some]
 by_cases hf : FormedR room l
 ·rw [if_pos hf, rec_m hf]
  have hN : store_Names.f (3 * l.length + 3) room l = some (nmL l) := by rw [own_names room l hr, if_pos hf]
  have hlen : (nmL l).length ≤ 274877906944 := by
   have := hf.2.2.2.1
   rw [nm_len]
   omega
  have hsz : ∀ n, n ∈ nmL l → n.size ≤ maxLen := fun n hn => by
   have h2 := (nm_nmd hf hn).2
   unfold maxLen
   omega
  have key : ∀ c : List S63 × Int × Int × Int, c.1.length ≤ 64 → (c.2.2.2 ≠ 0 → c = ([], 0, 0, 13)) → ((some c).bind fun t => if t.2.2.2 = 0 then ((store_Names.f (3 * l.length + 3) room l).bind fun names => if names.length ≤ 274877906944 ∧ t.1.length ≤ 64 ∧ ∀ n, n ∈ names → n.size ≤ maxLen then (if recOk names t.1 = true then some (t.1, t.2.1, t.2.2.1, recOps names (recStay t.1 t.1.length), 0) else some ([], 0, 0, [], 13)) else none) else some ([], 0, 0, [], t.2.2.2)) = some (if c.2.2.2 = 0 then (if recOk (nmL l) c.1 = true then (c.1, c.2.1, c.2.2.1, recOps (nmL l) (recStay c.1 c.1.length), 0) else ([], 0, 0, [], 13)) else ([], 0, 0, [], 13)) := by
   intro c hc he
   rw [Option.bind_some]
   by_cases c0 : c.2.2.2 = 0
   ·rw [if_pos c0, if_pos c0, hN, Option.bind_some, if_pos ⟨hlen, hc, hsz⟩]
    by_cases c1 : recOk (nmL l) c.1 = true
    ·rw [if_pos c1, if_pos c1]
    ·rw [if_neg c1, if_neg c1]
   ·rw [if_neg c0, if_neg c0, he c0]
  cases hfd : foundS l manB with
  | true =>
   have hi := rdm l _ (found_lt hfd)
   have hC : recC l = takeF (rd_T84 l (idxS l manB : Int)).f1 := by unfold recC; rw [if_pos hfd]
   rw [if_pos rfl, if_neg (show ¬ (0 : Int) = 1 by decide), if_pos (show (((rd_T84 l (idxS l manB : Int)).f1, (0 : Int)) : List Int × Int).2 = 0 from rfl), mtake_f (hb _ hi) (by have := hr.2 _ hi; show (rd_T84 l (idxS l manB : Int)).f1.length < _; omega), hC]
   exact key _ (takeF_len _) (takeF_err _)
  | false =>
   have hC : recC l = ([], 0, 0, 0) := by unfold recC; rw [hfd, if_neg Bool.false_ne_true]
   rw [if_neg Bool.false_ne_true, if_neg (show ¬ (8 : Int) = 1 by decide), if_neg (show ¬ (8 : Int) = 0 by decide), hC]
   exact key ([], 0, 0, 0) (Nat.zero_le _) (fun h => absurd rfl h)
 ·have hRR : RR room l manB = ([], 1) := by unfold RR; rw [if_neg (fun h => hf h.1)]
  rw [if_neg hf, hRR, if_pos rfl]
end Go.Proofs.YtdcifmonhaklcaaDoor.A
