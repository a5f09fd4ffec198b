/- Walks: each Go function that is told here comes to what the plain function beside it says, wherever that one answers. Written by a program of this session (wip/tools/pr.sh), after the manner of print.sh. -/
import Derived.Test.YtopjdjljpkcdlaaTdDx0
import Derived.Test.YtopjdjljpkcdlaaTdDx4
import Derived.Test.YtopjdjljpkcdlaaTdDx5
import Derived.Test.YtopjdjljpkcdlaaTdDx6
import Derived.Test.YtopjdjljpkcdlaaTdDx7
import Derived.Test.YtopjdjljpkcdlaaTdDx8
import Derived.Test.YtopjdjljpkcdlaaTdDx9
import Derived.Test.YtopjdjljpkcdlaaTdDx10
namespace Go.Proofs.Ytopjdjljpkcdlaa.D
open Go.RowKit Go.Proofs.YtopjdjljpkcdlaaW.PrintWords Go.Proofs.YtopjdjljpkcdlaaW.PrintLast Go.Proofs.YtopjdjljpkcdlaaW.PrintMore
attribute [local go_sem] max2_int min2_int max_two min_two -- for this text's walks alone
set_option linter.unusedVariables false
set_option linter.unusedSimpArgs false
attribute [local go_sem] gtr_str geq_str
theorem rdm (l : List S61) (i : Nat) (h : i < l.length) : rd_T61 l (i : Int) ∈ l := by
  unfold rd_T61
  rw [Int.toNat_natCast, List.getD_eq_getElem?_getD, List.getElem?_eq_getElem h]
  exact List.getElem_mem h
theorem take_snoc (l : List S61) (i : Nat) (h : i < l.length) : l.take i ++ [rd_T61 l (i : Int)] = l.take (i + 1) := by
  unfold rd_T61
  rw [Int.toNat_natCast, List.getD_eq_getElem?_getD, List.getElem?_eq_getElem h, List.take_succ_eq_append_getElem h]
  rfl
def Reach (l : List S61) : Prop := l.length < 2932031007402 ∧ ∀ x ∈ l, x.f1.length ≤ 140737488351232
theorem Reach.small {l : List S61} (h : Reach l) : SmallD l := ⟨by have := h.1; omega, h.2⟩
theorem copy1 (l : List Int) (h : l.length ≤ 140737488351232) : dragnetref01_Copy.f l = some l := by
  unfold dragnetref01_Copy.f
  rw [Option.bind_some, if_pos (by simp; omega)]
  rfl
theorem copy_l0 (room : Int) (l : List S61) (hr : Reach l) : ∀ m i : Nat, l.length - i = m → i ≤ l.length → dragnetref16_Copy.l0 (m + 1) (i : Int) room l room (l.take i) = some (room, l)
  | 0, i, hm, hi => by
    obtain rfl : i = l.length := by omega
    rw [dragnetref16_Copy.l0, if_neg (Int.lt_irrefl _), List.take_length]
  | m + 1, i, hm, hi => by
    have hlt : i < l.length := by omega
    have h1 := hr.1
    rw [dragnetref16_Copy.l0, if_pos (by omega), if_pos (by omega), copy1 _ (hr.2 _ (rdm l i hlt)), Option.bind_some, if_pos (by rw [List.length_take]; omega), wr64 (by omega)]
    rw [show (⟨(rd_T61 l (i : Int)).f0, (rd_T61 l (i : Int)).f1, (rd_T61 l (i : Int)).f2⟩ : S61) = rd_T61 l (i : Int) from rfl, take_snoc l i hlt, show (i : Int) + 1 = ((i + 1 : Nat) : Int) by omega]
    exact copy_l0 room l hr m (i + 1) (by omega) hlt
theorem copy_plain (room : Int) (l : List S61) (hr : Reach l) : dragnetref16_Copy.f (l.length + 1) room l = some (room, l) := copy_l0 room l hr l.length 0 (by omega) (by omega)
theorem toList_inj {a b : ByteArray} (h : a.toList = b.toList) : a = b := by
  rw [Lib.toList_data, Lib.toList_data] at h
  cases a
  cases b
  congr 1
  exact Array.toList_inj.1 h
theorem rd_get (l : List S61) (i : Nat) (h : i < l.length) : rd_T61 l (i : Int) = l[i] := by
  unfold rd_T61
  rw [Int.toNat_natCast, List.getD_eq_getElem?_getD, List.getElem?_eq_getElem h]
  rfl
theorem srt_get {l : List S61} (h : Srt l) {i j : Nat} (hij : i < j) (hj : j < l.length) : cmpS (rd_T61 l (i : Int)).f0 (rd_T61 l (j : Int)).f0 < 0 := by
  rw [rd_get l i (by omega), rd_get l j hj]
  exact List.pairwise_iff_getElem.1 h i j (by omega) hj hij
theorem cmp_self : ∀ a : List UInt8, Lib.compareBytes a a = 0
  | [] => rfl
  | x :: a => by
    unfold Lib.compareBytes
    have h : ¬ x < x := fun hh => by have := UInt8.lt_iff_toNat_lt.1 hh; omega
    rw [if_neg h, if_neg h]
    exact cmp_self a
theorem cmp_zero : ∀ a b : List UInt8, Lib.compareBytes a b = 0 → a = b
  | [], [], _ => rfl
  | [], _ :: _, h => by simp [Lib.compareBytes] at h
  | _ :: _, [], h => by simp [Lib.compareBytes] at h
  | x :: a, y :: b, h => by
    unfold Lib.compareBytes at h
    by_cases h1 : x < y
    · rw [if_pos h1] at h
      simp at h
    · rw [if_neg h1] at h
      by_cases h2 : y < x
      · rw [if_pos h2] at h
        simp at h
      · rw [if_neg h2] at h
        have t : ∀ p q : UInt8, p < q ↔ p.toNat < q.toNat := fun p q => UInt8.lt_iff_toNat_lt
        have h4 : ¬ x.toNat < y.toNat := fun hh => h1 ((t _ _).2 hh)
        have h5 : ¬ y.toNat < x.toNat := fun hh => h2 ((t _ _).2 hh)
        have h3 : x = y := UInt8.toNat_inj.1 (by omega)
        rw [h3, cmp_zero a b h]
theorem cmp_neg : ∀ a b : List UInt8, ¬ Lib.compareBytes a b < 0 → Lib.compareBytes a b ≠ 0 → Lib.compareBytes b a < 0
  | [], [], _, h => absurd rfl h
  | [], _ :: _, h, _ => absurd (by simp [Lib.compareBytes]) h
  | _ :: _, [], _, _ => by simp [Lib.compareBytes]
  | x :: a, y :: b, h, h0 => by
    unfold Lib.compareBytes at h h0 ⊢
    by_cases h1 : x < y
    · rw [if_pos h1] at h
      exact absurd (by decide) h
    · rw [if_neg h1] at h h0
      by_cases h2 : y < x
      · rw [if_pos h2]
        decide
      · rw [if_neg h2] at h h0 ⊢
        rw [if_neg h1]
        exact cmp_neg a b h h0
theorem cmpS_eq {a b : ByteArray} (h : cmpS a b = 0) : a = b := by
  have := cmp_zero _ _ h
  cases a
  cases b
  congr 1
  exact Array.toList_inj.1 this
theorem cmpS_neg {a b : ByteArray} (h : ¬ cmpS a b < 0) (h0 : cmpS a b ≠ 0) : cmpS b a < 0 := cmp_neg _ _ h h0
theorem cmpS_trans {a b c : ByteArray} (h : cmpS a b < 0) (h2 : cmpS b c < 0) : cmpS a c < 0 := cmpB_trans _ _ _ h h2
theorem below_idx {l : List S61} (n : ByteArray) {j : Nat} (hj : j < idxS l n) : cmpS (rd_T61 l (j : Int)).f0 n < 0 := by
  have hl := idx_le l n
  by_cases h : cmpS (rd_T61 l (j : Int)).f0 n < 0
  · exact h
  · have := idx_high l n (b := j) (by omega) h
    omega
theorem above_idx {l : List S61} (hs : Srt l) (n : ByteArray) {j : Nat} (hj : idxS l n ≤ j) (hl : j < l.length) : ¬ cmpS (rd_T61 l (j : Int)).f0 n < 0 := fun h => by
  have := idx_low hs n hl h
  omega
theorem other_idx {l : List S61} (hs : Srt l) (n : ByteArray) (hf : foundS l n = false) {j : Nat} (hj : idxS l n ≤ j) (hl : j < l.length) : cmpS n (rd_T61 l (j : Int)).f0 < 0 := by
  refine cmpS_neg (above_idx hs n hj hl) fun h0 => ?_
  rcases Nat.lt_or_eq_of_le hj with h | h
  · have h1 := srt_get hs h hl
    rw [cmpS_eq h0] at h1
    exact above_idx hs n (Nat.le_refl _) (by omega) h1
  · unfold foundS at hf
    rw [h, h0] at hf
    simp [hl] at hf
theorem mem_take {l : List S61} {i : Nat} {a : S61} (h : a ∈ l.take i) : ∃ j : Nat, j < i ∧ j < l.length ∧ a = rd_T61 l (j : Int) := by
  obtain ⟨j, hj, rfl⟩ := List.mem_iff_getElem.1 h
  rw [List.length_take] at hj
  refine ⟨j, by omega, by omega, ?_⟩
  rw [rd_get l j (by omega), List.getElem_take]
theorem mem_drop {l : List S61} {i : Nat} {a : S61} (h : a ∈ l.drop i) : ∃ j : Nat, i ≤ j ∧ j < l.length ∧ a = rd_T61 l (j : Int) := by
  obtain ⟨j, hj, rfl⟩ := List.mem_iff_getElem.1 h
  rw [List.length_drop] at hj
  refine ⟨i + j, by omega, by omega, ?_⟩
  rw [rd_get l (i + j) (by omega), List.getElem_drop]
theorem found_name {l : List S61} {n : ByteArray} (h : foundS l n = true) : (rd_T61 l (idxS l n : Int)).f0 = n := by
  unfold foundS at h
  rw [Bool.and_eq_true] at h
  exact cmpS_eq (by simpa using h.2)
theorem put_length (l : List S61) (i : Nat) (x : S61) : (putAt l i x).length = l.length + 1 := by
  unfold putAt
  rw [List.length_append, List.length_cons, List.length_take, List.length_drop]
  omega
theorem place_l0 (room : Int) (l : List S61) (n : ByteArray) (hs : Srt l) (hl : l.length < 2932031007402) : ∀ m i : Nat, l.length - i = m → i ≤ l.length → (∀ j : Nat, j < i → (rd_T61 l (j : Int)).f0 ≠ n) → dragnetref16_place.l0 (m + 1) n (i : Int) room l = some (if foundS l n = true then (idxS l n : Int) else -1)
  | 0, i, hm, hi, hj => by
    obtain rfl : i = l.length := by omega
    rw [dragnetref16_place.l0, if_neg (Int.lt_irrefl _)]
    cases hf : foundS l n with
    | false => rfl
    | true => exact absurd (found_name hf) (hj _ (found_lt hf))
  | m + 1, i, hm, hi, hj => by
    have hlt : i < l.length := by omega
    rw [dragnetref16_place.l0, if_pos (by omega), if_pos (by omega)]
    by_cases he : (rd_T61 l (i : Int)).f0 = n
    · rw [if_pos (by rw [he])]
      have h0 : ¬ cmpS (rd_T61 l (i : Int)).f0 n < 0 := by rw [he]; unfold cmpS; rw [cmp_self]; decide
      have h1 := idx_high l n hlt h0
      have h2 : idxS l n = i := by
        rcases Nat.lt_or_eq_of_le h1 with h | h
        · have h3 := srt_get hs h hlt
          rw [he] at h3
          exact absurd h3 (above_idx hs n (Nat.le_refl _) (by omega))
        · exact h
      have h3 : foundS l n = true := by
        unfold foundS
        rw [h2, he, decide_eq_true hlt]
        unfold cmpS
        rw [cmp_self]
        rfl
      rw [h3, if_pos rfl, h2]
    · rw [if_neg (fun h => he (toList_inj h)), wr64 (by omega), show (i : Int) + 1 = ((i + 1 : Nat) : Int) by omega]
      exact place_l0 room l n hs hl m (i + 1) (by omega) hlt fun j hj2 => by
        rcases Nat.lt_or_eq_of_le (Nat.le_of_lt_succ hj2) with h | h
        · exact hj j h
        · rw [h]; exact he
theorem rnamed (n : ByteArray) : dragnetref16_named.f n = some (decide (nmd n)) := by
  unfold dragnetref16_named.f
  by_cases h : 1 ≤ n.size
  · rw [if_pos (by omega)]
    congr 1
    exact decide_eq_decide.2 ⟨fun h2 => ⟨h, by omega⟩, fun h2 => by have := h2.2; omega⟩
  · rw [if_neg (by omega), decide_eq_false (fun h2 : nmd n => h h2.1)]
theorem ref_used_l0 (room : Int) (l : List S61) (hl : l.length < 2932031007402) (ht : totS l ≤ 67108864) : ∀ m i : Nat, l.length - i = m → i ≤ l.length → dragnetref16_Used.l0 (m + 1) (totS (l.take i)) (i : Int) room l = some (totS l)
  | 0, i, hm, hi => by
    obtain rfl : i = l.length := by omega
    rw [dragnetref16_Used.l0, if_neg (Int.lt_irrefl _), List.take_length]
  | m + 1, i, hm, hi => by
    have hlt : i < l.length := by omega
    have h1 := tot_snoc l i hlt
    have h2 := tot_take_le l (i + 1)
    have h3 := tot_nonneg (l.take i)
    rw [dragnetref16_Used.l0, if_pos (by omega), if_pos (by omega), ← h1, wr64 (by have := tot_nonneg (l.take (i + 1)); omega), wr64 (by omega), show (i : Int) + 1 = ((i + 1 : Nat) : Int) by omega]
    exact ref_used_l0 room l hl ht m (i + 1) (by omega) hlt
theorem ref_used (room : Int) (l : List S61) (hr : Reach l) : dragnetref16_Used.f (l.length + 1) room l = some (if FormedR room l then totS l else 0) := by
  have h1 := hr.1
  unfold dragnetref16_Used.f dragnetref16_Formed.f
  rw [if_pos (by omega), Option.bind_some]
  by_cases hf : FormedR room l
  · rw [decide_eq_true hf, if_pos rfl, if_pos hf]
    exact ref_used_l0 room l h1 (by have := hf.2.2.1; have := hf.2.2.2.2; omega) l.length 0 (by omega) (by omega)
  · rw [decide_eq_false hf, if_neg (by decide), if_neg hf]
theorem name_found {l : List S61} (hs : Srt l) {n : ByteArray} {i : Nat} (hi : i < l.length) (he : (rd_T61 l (i : Int)).f0 = n) : foundS l n = true ∧ idxS l n = i := by
  have h0 : ¬ cmpS (rd_T61 l (i : Int)).f0 n < 0 := by rw [he]; unfold cmpS; rw [cmp_self]; decide
  have h1 := idx_high l n hi h0
  have h2 : idxS l n = i := by
    rcases Nat.lt_or_eq_of_le h1 with h | h
    · have h3 := srt_get hs h hi
      rw [he] at h3
      exact absurd h3 (above_idx hs n (Nat.le_refl _) (by omega))
    · exact h
  refine ⟨?_, h2⟩
  unfold foundS
  rw [h2, he, decide_eq_true hi]
  unfold cmpS
  rw [cmp_self]
  rfl
def nE (n : ByteArray) (x : S61) : Bool := !decide (x.f0.toList = n.toList)
theorem nE_ne {n : ByteArray} {x : S61} (h : x.f0 ≠ n) : nE n x = true := by unfold nE; rw [decide_eq_false (fun h2 => h (toList_inj h2))]; rfl
def wo (l : List S61) (n : ByteArray) : List S61 := if foundS l n = true then l.eraseIdx (idxS l n) else l
theorem filter_wo {l : List S61} (hs : Srt l) (n : ByteArray) : l.filter (nE n) = wo l n := by
  unfold wo
  cases hf : foundS l n with
  | false =>
    rw [if_neg Bool.false_ne_true, List.filter_eq_self]
    intro x hx
    obtain ⟨i, hi, rfl⟩ := List.mem_iff_getElem.1 hx
    refine nE_ne fun he => ?_
    rw [← rd_get l i hi] at he
    rw [(name_found hs hi he).1] at hf
    cases hf
  | true =>
    have hi := found_lt hf
    rw [if_pos rfl, List.eraseIdx_eq_take_drop_succ]
    have hsp : l = l.take (idxS l n) ++ l[idxS l n] :: l.drop (idxS l n + 1) := by rw [← List.drop_eq_getElem_cons hi, List.take_append_drop]
    have hne : ∀ j : Nat, j < l.length → j ≠ idxS l n → nE n (rd_T61 l (j : Int)) = true := fun j hj hj2 => nE_ne fun he => hj2 (name_found hs hj he).2.symm
    have h1 : (l.take (idxS l n)).filter (nE n) = l.take (idxS l n) := by
      rw [List.filter_eq_self]
      intro x hx
      obtain ⟨j, hj, hl, rfl⟩ := mem_take hx
      exact hne j hl (by omega)
    have h2 : (l.drop (idxS l n + 1)).filter (nE n) = l.drop (idxS l n + 1) := by
      rw [List.filter_eq_self]
      intro x hx
      obtain ⟨j, hj, hl, rfl⟩ := mem_drop hx
      exact hne j hl (by omega)
    have h3 : nE n l[idxS l n] = false := by
      unfold nE
      rw [← rd_get l _ hi, found_name hf, decide_eq_true rfl]
      rfl
    have h4 : l.filter (nE n) = (l.take (idxS l n) ++ l[idxS l n] :: l.drop (idxS l n + 1)).filter (nE n) := by rw [← hsp]
    rw [h4, List.filter_append, List.filter_cons, h3, if_neg Bool.false_ne_true, h1, h2]
theorem filter_snoc (l : List S61) (n : ByteArray) (i : Nat) (h : i < l.length) : (l.take (i + 1)).filter (nE n) = (l.take i).filter (nE n) ++ (if nE n (rd_T61 l (i : Int)) = true then [rd_T61 l (i : Int)] else []) := by
  rw [← take_snoc l i h, List.filter_append, List.filter_cons, List.filter_nil]
theorem without_l0 (room r2 : Int) (l : List S61) (n : ByteArray) (hl : l.length < 2932031007402) : ∀ m i : Nat, l.length - i = m → i ≤ l.length → dragnetref16_without.l0 (m + 1) n (i : Int) r2 ((l.take i).filter (nE n)) room l = some (r2, l.filter (nE n))
  | 0, i, hm, hi => by
    obtain rfl : i = l.length := by omega
    rw [dragnetref16_without.l0, if_neg (Int.lt_irrefl _), List.take_length]
  | m + 1, i, hm, hi => by
    have hlt : i < l.length := by omega
    have ih := without_l0 room r2 l n hl m (i + 1) (by omega) hlt
    have hw : ((i + 1 : Nat) : Int) = wrap64 ((i : Int) + 1) := by rw [wr64 (by omega)]; omega
    rw [filter_snoc l n i hlt, hw] at ih
    rw [dragnetref16_without.l0, if_pos (by omega), if_pos (by omega)]
    by_cases he : (rd_T61 l (i : Int)).f0.toList = n.toList
    · rw [if_pos he]
      have h1 : nE n (rd_T61 l (i : Int)) = false := by unfold nE; rw [decide_eq_true he]; rfl
      rw [h1, if_neg Bool.false_ne_true, List.append_nil] at ih
      exact ih
    · have h1 : nE n (rd_T61 l (i : Int)) = true := by unfold nE; rw [decide_eq_false he]; rfl
      rw [h1, if_pos rfl] at ih
      have h2 : ((l.take i).filter (nE n)).length ≤ i := Nat.le_trans (List.length_filter_le _ _) (by rw [List.length_take]; omega)
      rw [if_neg he, if_pos (by omega)]
      exact ih
theorem without_plain (room : Int) (l : List S61) (n : ByteArray) (hr : Reach l) (hs : Srt l) : dragnetref16_without.f (l.length + 1) room l n = some (room, wo l n) := by
  unfold dragnetref16_without.f
  rw [copy_plain room l hr, Option.bind_some, ← filter_wo hs n]
  exact without_l0 room room l n hr.1 l.length 0 (by omega) (by omega)
theorem wo_srt {l : List S61} (hs : Srt l) (n : ByteArray) : Srt (wo l n) := by
  rw [← filter_wo hs]
  exact List.Pairwise.sublist (List.filter_sublist ..) hs
theorem wo_not {l : List S61} (hs : Srt l) (n : ByteArray) : foundS (wo l n) n = false := by
  cases h : foundS (wo l n) n with
  | false => rfl
  | true =>
    have h1 := found_name h
    have h2 := rdm _ _ (found_lt h)
    have h3 : rd_T61 (wo l n) (idxS (wo l n) n : Int) ∈ l.filter (nE n) := by rw [filter_wo hs]; exact h2
    have h4 := (List.mem_filter.1 h3).2
    unfold nE at h4
    rw [h1, decide_eq_true rfl] at h4
    cases h4
theorem wo_len (l : List S61) (n : ByteArray) : (wo l n).length ≤ l.length := by
  unfold wo
  split
  · exact List.length_eraseIdx_le _ _
  · exact Nat.le_refl _
theorem wo_mem {l : List S61} {n : ByteArray} {x : S61} (h : x ∈ wo l n) : x ∈ l := by
  unfold wo at h
  split at h
  · exact List.mem_of_mem_eraseIdx h
  · exact h
theorem put_snoc (E : List S61) (q i : Nat) (x : S61) (hq : q ≤ i) (hi : i < E.length) : putAt (E.take i) q x ++ [rd_T61 E (i : Int)] = putAt (E.take (i + 1)) q x := by
  have h1 : q ≤ (E.take i).length := by rw [List.length_take]; omega
  unfold putAt
  rw [← take_snoc E i hi, List.take_append_of_le_length h1, List.drop_append_of_le_length h1, List.append_assoc, List.cons_append]
theorem with_put (room r2 : Int) (E : List S61) (hl : E.length < 2932031007402) (q : Nat) (x : S61) : ∀ m i : Nat, E.length - i = m → q ≤ i → i ≤ E.length → dragnetref16_with.l0 (m + 1) true (i : Int) x.f0 x.f1 x.f2 room E r2 (putAt (E.take i) q x) = some (r2, putAt E q x)
  | 0, i, hm, hq, hi => by
    obtain rfl : i = E.length := by omega
    rw [dragnetref16_with.l0, if_neg (Int.lt_irrefl _), List.take_length, if_pos rfl]
  | m + 1, i, hm, hq, hi => by
    have hlt : i < E.length := by omega
    rw [dragnetref16_with.l0, if_pos (by omega), if_pos rfl, if_pos (by omega), if_pos (by rw [put_length, List.length_take]; omega), wr64 (by omega), show (i : Int) + 1 = ((i + 1 : Nat) : Int) by omega]
    have h := with_put room r2 E hl q x m (i + 1) (by omega) (by omega) hlt
    rw [← put_snoc E q i x hq hlt] at h
    exact h
theorem less_idx {E : List S61} (hs : Srt E) {n : ByteArray} (hf : foundS E n = false) {i : Nat} (hi : i < E.length) : (Go.Op.bytesLess n.toList (rd_T61 E (i : Int)).f0.toList = true) ↔ idxS E n ≤ i := by
  rw [less_S]
  constructor
  · intro h
    by_cases h2 : idxS E n ≤ i
    · exact h2
    · have h3 := below_idx (l := E) n (j := i) (by omega)
      have h4 := cmpS_trans h h3
      unfold cmpS at h4
      rw [cmp_self] at h4
      exact absurd h4 (by decide)
  · intro h
    exact other_idx hs n hf h hi
theorem with_l0 (room r2 : Int) (E : List S61) (hl : E.length < 2932031007401) (hs : Srt E) (x : S61) (hf : foundS E x.f0 = false) : ∀ m i : Nat, E.length - i = m → i ≤ idxS E x.f0 → dragnetref16_with.l0 (m + 1) false (i : Int) x.f0 x.f1 x.f2 room E r2 (E.take i) = some (r2, putAt E (idxS E x.f0) x)
  | 0, i, hm, hi => by
    have h1 := idx_le E x.f0
    have h2 : i = E.length := by omega
    subst h2
    have h3 : idxS E x.f0 = E.length := by omega
    rw [dragnetref16_with.l0, if_neg (Int.lt_irrefl _), if_neg Bool.false_ne_true, if_pos (by rw [List.length_take]; omega), h3]
    unfold putAt
    rw [List.drop_length]
  | m + 1, i, hm, hi => by
    have hlt : i < E.length := by omega
    have htl : (E.take i).length = i := by rw [List.length_take]; omega
    have hlx := less_idx hs hf hlt
    rw [dragnetref16_with.l0, if_pos (by omega), if_neg Bool.false_ne_true, if_pos (by omega), wr64 (by omega), show (i : Int) + 1 = ((i + 1 : Nat) : Int) by omega]
    by_cases hb : Go.Op.bytesLess x.f0.toList (rd_T61 E (i : Int)).f0.toList = true
    · have hq : idxS E x.f0 = i := by have := hlx.1 hb; omega
      rw [if_pos hb, if_pos (by omega), Option.bind_some, if_pos (by rw [List.length_append, htl]; simp only [List.length_cons, List.length_nil]; omega)]
      have h := with_put room r2 E (by omega) i x m (i + 1) (by omega) (by omega) hlt
      rw [← put_snoc E i i x (Nat.le_refl _) hlt] at h
      have h5 : putAt (E.take i) i x = E.take i ++ [x] := by
        unfold putAt
        rw [List.take_of_length_le (by omega), List.drop_of_length_le (by omega)]
      rw [h5] at h
      rw [hq]
      exact h
    · have hq : i < idxS E x.f0 := by
        rcases Nat.lt_or_ge i (idxS E x.f0) with h | h
        · exact h
        · exact absurd (hlx.2 h) hb
      rw [if_neg hb, if_pos (by omega)]
      have h := with_l0 room r2 E hl hs x hf m (i + 1) (by omega) hq
      rw [← take_snoc E i hlt] at h
      exact h
theorem put_erase (l : List S61) (i : Nat) (x : S61) (h : i < l.length) : putAt (l.eraseIdx i) i x = l.set i x := by
  unfold putAt
  have h1 : (l.take i).length = i := by rw [List.length_take]; omega
  rw [List.eraseIdx_eq_take_drop_succ, List.take_append_of_le_length (by omega), List.drop_append_of_le_length (by omega), List.take_of_length_le (by omega), List.drop_of_length_le (by omega), List.nil_append, List.set_eq_take_append_cons_drop, if_pos h]
theorem idx_erase {l : List S61} (hs : Srt l) {n : ByteArray} (hf : foundS l n = true) : idxS (l.eraseIdx (idxS l n)) n = idxS l n := by
  have hi := found_lt hf
  have hle : (l.eraseIdx (idxS l n)).length = l.length - 1 := by rw [List.length_eraseIdx, if_pos hi]
  have h1 := idx_le (l.eraseIdx (idxS l n)) n
  have hE : Srt (l.eraseIdx (idxS l n)) := List.Pairwise.sublist (List.eraseIdx_sublist _ _) hs
  have hlow : ∀ j : Nat, j < idxS l n → rd_T61 (l.eraseIdx (idxS l n)) (j : Int) = rd_T61 l (j : Int) := fun j hj => by
    rw [rd_get _ j (by omega), rd_get l j (by omega), List.getElem_eraseIdx, dif_pos hj]
  have hhigh : ∀ j : Nat, idxS l n ≤ j → j < l.length - 1 → rd_T61 (l.eraseIdx (idxS l n)) (j : Int) = rd_T61 l ((j + 1 : Nat) : Int) := fun j hj hj2 => by
    rw [rd_get _ j (by omega), rd_get l (j + 1) (by omega), List.getElem_eraseIdx, dif_neg (by omega)]
  refine Nat.le_antisymm ?_ ?_
  · rcases Nat.lt_or_ge (idxS l n) (l.length - 1) with h | h
    · refine idx_high _ n (by omega) ?_
      rw [hhigh _ (Nat.le_refl _) h]
      exact above_idx hs n (by omega) (by omega)
    · omega
  · rcases Nat.eq_zero_or_pos (idxS l n) with h | h
    · omega
    · have h2 := idx_low hE n (b := idxS l n - 1) (by omega) (by rw [hlow _ (by omega)]; exact below_idx n (by omega))
      omega
def wiL (l : List S61) (x : S61) : List S61 := if foundS l x.f0 = true then l.set (idxS l x.f0) x else putAt l (idxS l x.f0) x
theorem with_plain (room : Int) (l : List S61) (x : S61) (hr : Reach l) (hl : l.length < 2932031007401) (hs : Srt l) : dragnetref16_with.f (l.length + 1) room l x.f0 x.f1 x.f2 = some (room, wiL l x) := by
  have hlen := wo_len l x.f0
  unfold dragnetref16_with.f
  rw [without_plain room l x.f0 hr hs, Option.bind_some]
  have h := with_l0 room room (wo l x.f0) (by omega) (wo_srt hs x.f0) x (wo_not hs x.f0) (wo l x.f0).length 0 (by omega) (by omega)
  have h2 : putAt (wo l x.f0) (idxS (wo l x.f0) x.f0) x = wiL l x := by
    unfold wiL
    cases hf : foundS l x.f0 with
    | false =>
      have h3 : wo l x.f0 = l := by unfold wo; rw [hf, if_neg Bool.false_ne_true]
      rw [h3, if_neg Bool.false_ne_true]
    | true =>
      have h3 : wo l x.f0 = l.eraseIdx (idxS l x.f0) := by unfold wo; rw [hf, if_pos rfl]
      rw [h3, if_pos rfl, idx_erase hs hf, put_erase l _ x (found_lt hf)]
  rw [h2] at h
  exact at_rounds (fun k => dragnetref16_with.mono_l k _ _ _ _ _ _ _ _ _) (by omega) h
theorem vis7 {W : World} {g7 : Nat} {q0 q1 q2 : Value} (h : W.heap[g7]? = some (.cells #[q0, q1, q2] 61 (0, 0))) :
    W.cell? ⟨g7, 0, none⟩ = some q0 ∧ W.cell? ⟨g7, 1, none⟩ = some q1 ∧ W.cell? ⟨g7, 2, none⟩ = some q2 ∧ W.frozen? ⟨g7, 0, none⟩ = false ∧ W.frozen? ⟨g7, 1, none⟩ = false ∧ W.frozen? ⟨g7, 2, none⟩ = false :=
  ⟨(blk_cell h 0).trans rfl, (blk_cell h 1).trans rfl, (blk_cell h 2).trans rfl, blk_frozen h 0, blk_frozen h 1, blk_frozen h 2⟩
def Far (l : List S61) : Prop := l.length < 2932031007401 ∧ ∀ x ∈ l, x.f1.length ≤ 140737488351232
theorem Far.reach {l : List S61} (h : Far l) : Reach l := ⟨by have := h.1; omega, h.2⟩
theorem place_plain (room : Int) (l : List S61) (n : ByteArray) (hs : Srt l) (hl : l.length < 2932031007402) : dragnetref16_place.f (l.length + 1) room l n = some (if foundS l n = true then (idxS l n : Int) else -1) := place_l0 room l n hs hl l.length 0 (by omega) (by omega) (fun j hj => absurd hj (Nat.not_lt_zero _))
theorem field24 (a : Value) (A : Option Addr) (n c : Nat) (W : World) : (Instr.field 24 (.agg #[a, .slice A n c]) 1).run Try.prog W = .ok (.slice A n c) W := by kernel_rfl
set_option maxHeartbeats 4000000 in
set_option maxRecDepth 100000 in
theorem rd_bad1 (a0_0 : Int) (A0_1 : Option Addr) (c0_1 : Nat) (l0_1 : List S61) (a1_0 : Int) (a1_1 : ByteArray) (a1_2 : ByteArray) (A1_3 : Option Addr) (c1_3 : Nat) (l1_3 : List Int) (r1 : Int) (r2 : List S61) (r3 : Int) (w : World) (hr0_1 : Kd.C k61 w A0_1 l0_1.length l0_1) (hc0_1 : l0_1.length ≤ c0_1) (hr1_3 : Kd.C (Kd.int .u8) w A1_3 l1_3.length l1_3) (hc1_3 : l1_3.length ≤ c1_3) (hs : Far l0_1) (hf : ¬ FormedR a0_0 l0_1) (he : (0, [], 1) = (r1, r2, r3)) :
    Calls Try.prog 13 #[.agg #[.int .i64 a0_0, .slice A0_1 l0_1.length c0_1], .agg #[.int .i64 a1_0, .string a1_1, .string a1_2, .slice A1_3 l1_3.length c1_3]] w fun e w' => ∃ v1_ : Value, e = .returned (.tuple #[.agg #[.int .i64 r1, v1_], .int .i64 r3]) ∧ Kd.V k61 61 w' w.heap.size (fun k_ => w.heap.size ≤ k_) v1_ r2 ∧ Below w.heap.size w w' := by
  have HR := Aside0.mk hr0_1
  have HC := Aside0.mk hc0_1
  have HR3 := Aside0.mk hr1_3
  have HC3 := Aside0.mk hc1_3
  have HB := Aside0.mk (Below.refl w.heap.size w)
  clear hr0_1 hc0_1 hr1_3 hc1_3
  have hu24 := Try.underlying24
  have hu27 := Try.underlying27
  have hu61 := Try.underlying61
  have hfl := field24
  have HF := Aside0.mk (show dragnetref16_Formed.f a0_0 l0_1 = some false by unfold dragnetref16_Formed.f; rw [if_pos (by have := hs.1; omega), decide_eq_false hf])
  clear hs hf
  injection he with he1 he2
  injection he2 with he2 he3
  subst he1
  subst he2
  subst he3
  go_enter Try.func13, Try.ntmps13
  go_wp2_with (first
    | ((with_reducible refine gate_dst (N := 2) rfl ?_); refine box_event ?hg (N := 2) ?hd (cs := #[.int .i64 a0_0, .slice A0_1 l0_1.length c0_1]) (t := 24) ?hr ?_; (case hd => rfl); (case hg => rfl); (case hr => first | (go_simp; done) | (go_simp; rfl)); intro g2 hg2 w2 hbox hb; have HB2 := Aside0.mk (below_step HB.out hb); have CB2 := Aside0.mk hbox; have G2 := Aside0.mk (show w.heap.size ≤ g2 by rw [hg2]; exact below_size HB.out); clear hb hbox hg2 HB; have HB := HB2; clear HB2)
    | ((with_reducible refine gate_dst (N := 3) rfl ?_); refine box_event ?hg (N := 3) ?hd (cs := #[.int .i64 a1_0, .string a1_1, .string a1_2, .slice A1_3 l1_3.length c1_3]) (t := 27) ?hr ?_; (case hd => rfl); (case hg => rfl); (case hr => first | (go_simp; done) | (go_simp; rfl)); intro g3 hg3 w3 hbox hb; have HB3 := Aside0.mk (below_step HB.out hb); have CB3 := Aside0.mk hbox; have G23 := Aside0.mk (show g2 < g3 by rw [hg3]; exact blk_lt CB2.out); have CB2_ := Aside0.mk (blk_below CB2.out hb); clear hb hbox hg3 HB CB2; have HB := HB3; have CB2 := CB2_; clear HB3 CB2_)
    | ((with_reducible refine gate_dst (N := 4) rfl ?_); refine box_event ?hg (N := 4) ?hd (cs := #[.int .i64 0, .slice none 0 0]) (t := 24) ?hr ?_; (case hd => rfl); (case hg => rfl); (case hr => first | (go_simp; done) | (go_simp; rfl)); intro g4 hg4 w4 hbox hb; have HX := Aside0.mk (Rbox.mk (below_step HB.out hb) (blk_below CB2.out hb) (blk_below CB3.out hb) hbox G2.out G23.out (show g3 < g4 by rw [hg4]; exact blk_lt CB3.out)); clear hb hbox hg4 HB CB2 CB3 G2 G23; obtain ⟨v20, v21, v30, v31, v32, v33, v40, v41, f40, f41⟩ := HX.out.vis)
    | (go_at_call 22; (with_reducible refine (dragnetref16_Formed.calls a0_0 A0_1 c0_1 l0_1 false _ (Kd.C_below HR.out HX.out.B) HC.out HF.out).mono ?_); rintro e w5 ⟨rfl, hb⟩; have HX_ := Aside0.mk (HX.out.step hb); clear HX hb v20 v21 v30 v31 v32 v33 v40 v41 f40 f41; have HX := HX_; clear HX_; obtain ⟨v20, v21, v30, v31, v32, v33, v40, v41, f40, f41⟩ := HX.out.vis))
  refine bodyPost_ret (results_ct rfl _ _ g4 24 #[.int .i64 0, .slice none 0 0] (0, 0) _ rfl (blk_put (cs := #[.int .i64 0, .slice none 0 0]) (blk_put (cs := #[.int .i64 0, .slice none 0 0]) HX.out.c4 0 _ rfl) 1 _ rfl) Try.underlying24 rfl (by kernel_rfl)) rfl ?_
  exact ⟨_, rfl, Kd.V_nil _ _ _ _ _, below_set (below_set HX.out.B HX.out.l) HX.out.l⟩
set_option maxHeartbeats 4000000 in
set_option maxRecDepth 100000 in
theorem rd_bad2 (a0_0 : Int) (A0_1 : Option Addr) (c0_1 : Nat) (l0_1 : List S61) (a1_0 : Int) (a1_1 : ByteArray) (a1_2 : ByteArray) (A1_3 : Option Addr) (c1_3 : Nat) (l1_3 : List Int) (r1 : Int) (r2 : List S61) (r3 : Int) (w : World) (hr0_1 : Kd.C k61 w A0_1 l0_1.length l0_1) (hc0_1 : l0_1.length ≤ c0_1) (hr1_3 : Kd.C (Kd.int .u8) w A1_3 l1_3.length l1_3) (hc1_3 : l1_3.length ≤ c1_3) (hs : Far l0_1) (hf : FormedR a0_0 l0_1) (hn : ¬ nmd a1_1) (he : (0, [], 1) = (r1, r2, r3)) :
    Calls Try.prog 13 #[.agg #[.int .i64 a0_0, .slice A0_1 l0_1.length c0_1], .agg #[.int .i64 a1_0, .string a1_1, .string a1_2, .slice A1_3 l1_3.length c1_3]] w fun e w' => ∃ v1_ : Value, e = .returned (.tuple #[.agg #[.int .i64 r1, v1_], .int .i64 r3]) ∧ Kd.V k61 61 w' w.heap.size (fun k_ => w.heap.size ≤ k_) v1_ r2 ∧ Below w.heap.size w w' := by
  have HR := Aside0.mk hr0_1
  have HC := Aside0.mk hc0_1
  have HR3 := Aside0.mk hr1_3
  have HC3 := Aside0.mk hc1_3
  have HB := Aside0.mk (Below.refl w.heap.size w)
  clear hr0_1 hc0_1 hr1_3 hc1_3
  have hu24 := Try.underlying24
  have hu27 := Try.underlying27
  have hu61 := Try.underlying61
  have hfl := field24
  have HF := Aside0.mk (show dragnetref16_Formed.f a0_0 l0_1 = some true by unfold dragnetref16_Formed.f; rw [if_pos (by have := hs.1; omega), decide_eq_true hf])
  have HN := Aside0.mk (show dragnetref16_named.f a1_1 = some false by rw [rnamed, decide_eq_false hn])
  clear hs hf hn
  injection he with he1 he2
  injection he2 with he2 he3
  subst he1
  subst he2
  subst he3
  go_enter Try.func13, Try.ntmps13
  go_wp2_with (first
    | ((with_reducible refine gate_dst (N := 2) rfl ?_); refine box_event ?hg (N := 2) ?hd (cs := #[.int .i64 a0_0, .slice A0_1 l0_1.length c0_1]) (t := 24) ?hr ?_; (case hd => rfl); (case hg => rfl); (case hr => first | (go_simp; done) | (go_simp; rfl)); intro g2 hg2 w2 hbox hb; have HB2 := Aside0.mk (below_step HB.out hb); have CB2 := Aside0.mk hbox; have G2 := Aside0.mk (show w.heap.size ≤ g2 by rw [hg2]; exact below_size HB.out); clear hb hbox hg2 HB; have HB := HB2; clear HB2)
    | ((with_reducible refine gate_dst (N := 3) rfl ?_); refine box_event ?hg (N := 3) ?hd (cs := #[.int .i64 a1_0, .string a1_1, .string a1_2, .slice A1_3 l1_3.length c1_3]) (t := 27) ?hr ?_; (case hd => rfl); (case hg => rfl); (case hr => first | (go_simp; done) | (go_simp; rfl)); intro g3 hg3 w3 hbox hb; have HB3 := Aside0.mk (below_step HB.out hb); have CB3 := Aside0.mk hbox; have G23 := Aside0.mk (show g2 < g3 by rw [hg3]; exact blk_lt CB2.out); have CB2_ := Aside0.mk (blk_below CB2.out hb); clear hb hbox hg3 HB CB2; have HB := HB3; have CB2 := CB2_; clear HB3 CB2_)
    | ((with_reducible refine gate_dst (N := 4) rfl ?_); refine box_event ?hg (N := 4) ?hd (cs := #[.int .i64 0, .slice none 0 0]) (t := 24) ?hr ?_; (case hd => rfl); (case hg => rfl); (case hr => first | (go_simp; done) | (go_simp; rfl)); intro g4 hg4 w4 hbox hb; have HX := Aside0.mk (Rbox.mk (below_step HB.out hb) (blk_below CB2.out hb) (blk_below CB3.out hb) hbox G2.out G23.out (show g3 < g4 by rw [hg4]; exact blk_lt CB3.out)); clear hb hbox hg4 HB CB2 CB3 G2 G23; obtain ⟨v20, v21, v30, v31, v32, v33, v40, v41, f40, f41⟩ := HX.out.vis)
    | (go_at_call 22; (with_reducible refine (dragnetref16_Formed.calls a0_0 A0_1 c0_1 l0_1 true _ (Kd.C_below HR.out HX.out.B) HC.out HF.out).mono ?_); rintro e w5 ⟨rfl, hb⟩; have HX_ := Aside0.mk (HX.out.step hb); clear HX hb v20 v21 v30 v31 v32 v33 v40 v41 f40 f41; have HX := HX_; clear HX_; obtain ⟨v20, v21, v30, v31, v32, v33, v40, v41, f40, f41⟩ := HX.out.vis)
    | (go_at_call 37; (with_reducible refine (dragnetref16_named.calls a1_1 false _ HN.out).mono ?_); rintro e w6 ⟨rfl, hd⟩; have hb := Drawn0.below hd; clear hd; have HX_ := Aside0.mk (HX.out.step hb); clear HX hb v20 v21 v30 v31 v32 v33 v40 v41 f40 f41; have HX := HX_; clear HX_; obtain ⟨v20, v21, v30, v31, v32, v33, v40, v41, f40, f41⟩ := HX.out.vis))
  refine bodyPost_ret (results_ct rfl _ _ g4 24 #[.int .i64 0, .slice none 0 0] (0, 0) _ rfl (blk_put (cs := #[.int .i64 0, .slice none 0 0]) (blk_put (cs := #[.int .i64 0, .slice none 0 0]) HX.out.c4 0 _ rfl) 1 _ rfl) Try.underlying24 rfl (by kernel_rfl)) rfl ?_
  exact ⟨_, rfl, Kd.V_nil _ _ _ _ _, below_set (below_set HX.out.B HX.out.l) HX.out.l⟩
set_option maxHeartbeats 4000000 in
set_option maxRecDepth 100000 in
theorem rd_bad3 (a0_0 : Int) (A0_1 : Option Addr) (c0_1 : Nat) (l0_1 : List S61) (a1_0 : Int) (a1_1 : ByteArray) (a1_2 : ByteArray) (A1_3 : Option Addr) (c1_3 : Nat) (l1_3 : List Int) (r1 : Int) (r2 : List S61) (r3 : Int) (w : World) (hr0_1 : Kd.C k61 w A0_1 l0_1.length l0_1) (hc0_1 : l0_1.length ≤ c0_1) (hr1_3 : Kd.C (Kd.int .u8) w A1_3 l1_3.length l1_3) (hc1_3 : l1_3.length ≤ c1_3) (hs : Far l0_1) (hf : FormedR a0_0 l0_1) (hn : nmd a1_1) (hk : a1_0 < 1) (he : (0, [], 1) = (r1, r2, r3)) :
    Calls Try.prog 13 #[.agg #[.int .i64 a0_0, .slice A0_1 l0_1.length c0_1], .agg #[.int .i64 a1_0, .string a1_1, .string a1_2, .slice A1_3 l1_3.length c1_3]] w fun e w' => ∃ v1_ : Value, e = .returned (.tuple #[.agg #[.int .i64 r1, v1_], .int .i64 r3]) ∧ Kd.V k61 61 w' w.heap.size (fun k_ => w.heap.size ≤ k_) v1_ r2 ∧ Below w.heap.size w w' := by
  have HR := Aside0.mk hr0_1
  have HC := Aside0.mk hc0_1
  have HR3 := Aside0.mk hr1_3
  have HC3 := Aside0.mk hc1_3
  have HB := Aside0.mk (Below.refl w.heap.size w)
  clear hr0_1 hc0_1 hr1_3 hc1_3
  have hu24 := Try.underlying24
  have hu27 := Try.underlying27
  have hu61 := Try.underlying61
  have hfl := field24
  have HF := Aside0.mk (show dragnetref16_Formed.f a0_0 l0_1 = some true by unfold dragnetref16_Formed.f; rw [if_pos (by have := hs.1; omega), decide_eq_true hf])
  have HN := Aside0.mk (show dragnetref16_named.f a1_1 = some true by rw [rnamed, decide_eq_true hn])
  have hkd := decide_eq_true hk
  clear hs hf hn
  injection he with he1 he2
  injection he2 with he2 he3
  subst he1
  subst he2
  subst he3
  go_enter Try.func13, Try.ntmps13
  go_wp2_with (first
    | ((with_reducible refine gate_dst (N := 2) rfl ?_); refine box_event ?hg (N := 2) ?hd (cs := #[.int .i64 a0_0, .slice A0_1 l0_1.length c0_1]) (t := 24) ?hr ?_; (case hd => rfl); (case hg => rfl); (case hr => first | (go_simp; done) | (go_simp; rfl)); intro g2 hg2 w2 hbox hb; have HB2 := Aside0.mk (below_step HB.out hb); have CB2 := Aside0.mk hbox; have G2 := Aside0.mk (show w.heap.size ≤ g2 by rw [hg2]; exact below_size HB.out); clear hb hbox hg2 HB; have HB := HB2; clear HB2)
    | ((with_reducible refine gate_dst (N := 3) rfl ?_); refine box_event ?hg (N := 3) ?hd (cs := #[.int .i64 a1_0, .string a1_1, .string a1_2, .slice A1_3 l1_3.length c1_3]) (t := 27) ?hr ?_; (case hd => rfl); (case hg => rfl); (case hr => first | (go_simp; done) | (go_simp; rfl)); intro g3 hg3 w3 hbox hb; have HB3 := Aside0.mk (below_step HB.out hb); have CB3 := Aside0.mk hbox; have G23 := Aside0.mk (show g2 < g3 by rw [hg3]; exact blk_lt CB2.out); have CB2_ := Aside0.mk (blk_below CB2.out hb); clear hb hbox hg3 HB CB2; have HB := HB3; have CB2 := CB2_; clear HB3 CB2_)
    | ((with_reducible refine gate_dst (N := 4) rfl ?_); refine box_event ?hg (N := 4) ?hd (cs := #[.int .i64 0, .slice none 0 0]) (t := 24) ?hr ?_; (case hd => rfl); (case hg => rfl); (case hr => first | (go_simp; done) | (go_simp; rfl)); intro g4 hg4 w4 hbox hb; have HX := Aside0.mk (Rbox.mk (below_step HB.out hb) (blk_below CB2.out hb) (blk_below CB3.out hb) hbox G2.out G23.out (show g3 < g4 by rw [hg4]; exact blk_lt CB3.out)); clear hb hbox hg4 HB CB2 CB3 G2 G23; obtain ⟨v20, v21, v30, v31, v32, v33, v40, v41, f40, f41⟩ := HX.out.vis)
    | (go_at_call 22; (with_reducible refine (dragnetref16_Formed.calls a0_0 A0_1 c0_1 l0_1 true _ (Kd.C_below HR.out HX.out.B) HC.out HF.out).mono ?_); rintro e w5 ⟨rfl, hb⟩; have HX_ := Aside0.mk (HX.out.step hb); clear HX hb v20 v21 v30 v31 v32 v33 v40 v41 f40 f41; have HX := HX_; clear HX_; obtain ⟨v20, v21, v30, v31, v32, v33, v40, v41, f40, f41⟩ := HX.out.vis)
    | (go_at_call 37; (with_reducible refine (dragnetref16_named.calls a1_1 true _ HN.out).mono ?_); rintro e w6 ⟨rfl, hd⟩; have hb := Drawn0.below hd; clear hd; have HX_ := Aside0.mk (HX.out.step hb); clear HX hb v20 v21 v30 v31 v32 v33 v40 v41 f40 f41; have HX := HX_; clear HX_; obtain ⟨v20, v21, v30, v31, v32, v33, v40, v41, f40, f41⟩ := HX.out.vis))
  refine bodyPost_ret (results_ct rfl _ _ g4 24 #[.int .i64 0, .slice none 0 0] (0, 0) _ rfl (blk_put (cs := #[.int .i64 0, .slice none 0 0]) (blk_put (cs := #[.int .i64 0, .slice none 0 0]) HX.out.c4 0 _ rfl) 1 _ rfl) Try.underlying24 rfl (by kernel_rfl)) rfl ?_
  exact ⟨_, rfl, Kd.V_nil _ _ _ _ _, below_set (below_set HX.out.B HX.out.l) HX.out.l⟩
set_option maxHeartbeats 4000000 in
set_option maxRecDepth 100000 in
theorem rd_bad4 (a0_0 : Int) (A0_1 : Option Addr) (c0_1 : Nat) (l0_1 : List S61) (a1_0 : Int) (a1_1 : ByteArray) (a1_2 : ByteArray) (A1_3 : Option Addr) (c1_3 : Nat) (l1_3 : List Int) (r1 : Int) (r2 : List S61) (r3 : Int) (w : World) (hr0_1 : Kd.C k61 w A0_1 l0_1.length l0_1) (hc0_1 : l0_1.length ≤ c0_1) (hr1_3 : Kd.C (Kd.int .u8) w A1_3 l1_3.length l1_3) (hc1_3 : l1_3.length ≤ c1_3) (hs : Far l0_1) (hf : FormedR a0_0 l0_1) (hn : nmd a1_1) (hk : 4 < a1_0) (he : (0, [], 1) = (r1, r2, r3)) :
    Calls Try.prog 13 #[.agg #[.int .i64 a0_0, .slice A0_1 l0_1.length c0_1], .agg #[.int .i64 a1_0, .string a1_1, .string a1_2, .slice A1_3 l1_3.length c1_3]] w fun e w' => ∃ v1_ : Value, e = .returned (.tuple #[.agg #[.int .i64 r1, v1_], .int .i64 r3]) ∧ Kd.V k61 61 w' w.heap.size (fun k_ => w.heap.size ≤ k_) v1_ r2 ∧ Below w.heap.size w w' := by
  have HR := Aside0.mk hr0_1
  have HC := Aside0.mk hc0_1
  have HR3 := Aside0.mk hr1_3
  have HC3 := Aside0.mk hc1_3
  have HB := Aside0.mk (Below.refl w.heap.size w)
  clear hr0_1 hc0_1 hr1_3 hc1_3
  have hu24 := Try.underlying24
  have hu27 := Try.underlying27
  have hu61 := Try.underlying61
  have hfl := field24
  have HF := Aside0.mk (show dragnetref16_Formed.f a0_0 l0_1 = some true by unfold dragnetref16_Formed.f; rw [if_pos (by have := hs.1; omega), decide_eq_true hf])
  have HN := Aside0.mk (show dragnetref16_named.f a1_1 = some true by rw [rnamed, decide_eq_true hn])
  have hkd := decide_eq_true hk
  have hk1 : decide (a1_0 < 1) = false := decide_eq_false (by omega)
  clear hs hf hn
  injection he with he1 he2
  injection he2 with he2 he3
  subst he1
  subst he2
  subst he3
  go_enter Try.func13, Try.ntmps13
  go_wp2_with (first
    | ((with_reducible refine gate_dst (N := 2) rfl ?_); refine box_event ?hg (N := 2) ?hd (cs := #[.int .i64 a0_0, .slice A0_1 l0_1.length c0_1]) (t := 24) ?hr ?_; (case hd => rfl); (case hg => rfl); (case hr => first | (go_simp; done) | (go_simp; rfl)); intro g2 hg2 w2 hbox hb; have HB2 := Aside0.mk (below_step HB.out hb); have CB2 := Aside0.mk hbox; have G2 := Aside0.mk (show w.heap.size ≤ g2 by rw [hg2]; exact below_size HB.out); clear hb hbox hg2 HB; have HB := HB2; clear HB2)
    | ((with_reducible refine gate_dst (N := 3) rfl ?_); refine box_event ?hg (N := 3) ?hd (cs := #[.int .i64 a1_0, .string a1_1, .string a1_2, .slice A1_3 l1_3.length c1_3]) (t := 27) ?hr ?_; (case hd => rfl); (case hg => rfl); (case hr => first | (go_simp; done) | (go_simp; rfl)); intro g3 hg3 w3 hbox hb; have HB3 := Aside0.mk (below_step HB.out hb); have CB3 := Aside0.mk hbox; have G23 := Aside0.mk (show g2 < g3 by rw [hg3]; exact blk_lt CB2.out); have CB2_ := Aside0.mk (blk_below CB2.out hb); clear hb hbox hg3 HB CB2; have HB := HB3; have CB2 := CB2_; clear HB3 CB2_)
    | ((with_reducible refine gate_dst (N := 4) rfl ?_); refine box_event ?hg (N := 4) ?hd (cs := #[.int .i64 0, .slice none 0 0]) (t := 24) ?hr ?_; (case hd => rfl); (case hg => rfl); (case hr => first | (go_simp; done) | (go_simp; rfl)); intro g4 hg4 w4 hbox hb; have HX := Aside0.mk (Rbox.mk (below_step HB.out hb) (blk_below CB2.out hb) (blk_below CB3.out hb) hbox G2.out G23.out (show g3 < g4 by rw [hg4]; exact blk_lt CB3.out)); clear hb hbox hg4 HB CB2 CB3 G2 G23; obtain ⟨v20, v21, v30, v31, v32, v33, v40, v41, f40, f41⟩ := HX.out.vis)
    | (go_at_call 22; (with_reducible refine (dragnetref16_Formed.calls a0_0 A0_1 c0_1 l0_1 true _ (Kd.C_below HR.out HX.out.B) HC.out HF.out).mono ?_); rintro e w5 ⟨rfl, hb⟩; have HX_ := Aside0.mk (HX.out.step hb); clear HX hb v20 v21 v30 v31 v32 v33 v40 v41 f40 f41; have HX := HX_; clear HX_; obtain ⟨v20, v21, v30, v31, v32, v33, v40, v41, f40, f41⟩ := HX.out.vis)
    | (go_at_call 37; (with_reducible refine (dragnetref16_named.calls a1_1 true _ HN.out).mono ?_); rintro e w6 ⟨rfl, hd⟩; have hb := Drawn0.below hd; clear hd; have HX_ := Aside0.mk (HX.out.step hb); clear HX hb v20 v21 v30 v31 v32 v33 v40 v41 f40 f41; have HX := HX_; clear HX_; obtain ⟨v20, v21, v30, v31, v32, v33, v40, v41, f40, f41⟩ := HX.out.vis))
  refine bodyPost_ret (results_ct rfl _ _ g4 24 #[.int .i64 0, .slice none 0 0] (0, 0) _ rfl (blk_put (cs := #[.int .i64 0, .slice none 0 0]) (blk_put (cs := #[.int .i64 0, .slice none 0 0]) HX.out.c4 0 _ rfl) 1 _ rfl) Try.underlying24 rfl (by kernel_rfl)) rfl ?_
  exact ⟨_, rfl, Kd.V_nil _ _ _ _ _, below_set (below_set HX.out.B HX.out.l) HX.out.l⟩
set_option maxHeartbeats 4000000 in
set_option maxRecDepth 100000 in
theorem rd_bad5 (a0_0 : Int) (A0_1 : Option Addr) (c0_1 : Nat) (l0_1 : List S61) (a1_0 : Int) (a1_1 : ByteArray) (a1_2 : ByteArray) (A1_3 : Option Addr) (c1_3 : Nat) (l1_3 : List Int) (r1 : Int) (r2 : List S61) (r3 : Int) (w : World) (hr0_1 : Kd.C k61 w A0_1 l0_1.length l0_1) (hc0_1 : l0_1.length ≤ c0_1) (hr1_3 : Kd.C (Kd.int .u8) w A1_3 l1_3.length l1_3) (hc1_3 : l1_3.length ≤ c1_3) (hs : Far l0_1) (hf : FormedR a0_0 l0_1) (hn : nmd a1_1) (hk : a1_0 = 3) (ht : ¬ nmd a1_2) (he : (0, [], 1) = (r1, r2, r3)) :
    Calls Try.prog 13 #[.agg #[.int .i64 a0_0, .slice A0_1 l0_1.length c0_1], .agg #[.int .i64 a1_0, .string a1_1, .string a1_2, .slice A1_3 l1_3.length c1_3]] w fun e w' => ∃ v1_ : Value, e = .returned (.tuple #[.agg #[.int .i64 r1, v1_], .int .i64 r3]) ∧ Kd.V k61 61 w' w.heap.size (fun k_ => w.heap.size ≤ k_) v1_ r2 ∧ Below w.heap.size w w' := by
  have HR := Aside0.mk hr0_1
  have HC := Aside0.mk hc0_1
  have HR3 := Aside0.mk hr1_3
  have HC3 := Aside0.mk hc1_3
  have HB := Aside0.mk (Below.refl w.heap.size w)
  clear hr0_1 hc0_1 hr1_3 hc1_3
  have hu24 := Try.underlying24
  have hu27 := Try.underlying27
  have hu61 := Try.underlying61
  have hfl := field24
  have hk1 : decide (a1_0 < 1) = false := decide_eq_false (by omega)
  have hk4 : decide (4 < a1_0) = false := decide_eq_false (by omega)
  have hq3 : decide (a1_0 = 3) = true := decide_eq_true (by omega)
  have hq3b : (a1_0 == 3) = true := by simp; omega
  have HF := Aside0.mk (show dragnetref16_Formed.f a0_0 l0_1 = some true by unfold dragnetref16_Formed.f; rw [if_pos (by have := hs.1; omega), decide_eq_true hf])
  have HN := Aside0.mk (show dragnetref16_named.f a1_1 = some true by rw [rnamed, decide_eq_true hn])
  have HT := Aside0.mk (show dragnetref16_named.f a1_2 = some false by rw [rnamed, decide_eq_false ht])
  clear hs hf hn ht hk
  injection he with he1 he2
  injection he2 with he2 he3
  subst he1
  subst he2
  subst he3
  go_enter Try.func13, Try.ntmps13
  go_wp2_with (first
    | ((with_reducible refine gate_dst (N := 2) rfl ?_); refine box_event ?hg (N := 2) ?hd (cs := #[.int .i64 a0_0, .slice A0_1 l0_1.length c0_1]) (t := 24) ?hr ?_; (case hd => rfl); (case hg => rfl); (case hr => first | (go_simp; done) | (go_simp; rfl)); intro g2 hg2 w2 hbox hb; have HB2 := Aside0.mk (below_step HB.out hb); have CB2 := Aside0.mk hbox; have G2 := Aside0.mk (show w.heap.size ≤ g2 by rw [hg2]; exact below_size HB.out); clear hb hbox hg2 HB; have HB := HB2; clear HB2)
    | ((with_reducible refine gate_dst (N := 3) rfl ?_); refine box_event ?hg (N := 3) ?hd (cs := #[.int .i64 a1_0, .string a1_1, .string a1_2, .slice A1_3 l1_3.length c1_3]) (t := 27) ?hr ?_; (case hd => rfl); (case hg => rfl); (case hr => first | (go_simp; done) | (go_simp; rfl)); intro g3 hg3 w3 hbox hb; have HB3 := Aside0.mk (below_step HB.out hb); have CB3 := Aside0.mk hbox; have G23 := Aside0.mk (show g2 < g3 by rw [hg3]; exact blk_lt CB2.out); have CB2_ := Aside0.mk (blk_below CB2.out hb); clear hb hbox hg3 HB CB2; have HB := HB3; have CB2 := CB2_; clear HB3 CB2_)
    | ((with_reducible refine gate_dst (N := 4) rfl ?_); refine box_event ?hg (N := 4) ?hd (cs := #[.int .i64 0, .slice none 0 0]) (t := 24) ?hr ?_; (case hd => rfl); (case hg => rfl); (case hr => first | (go_simp; done) | (go_simp; rfl)); intro g4 hg4 w4 hbox hb; have HX := Aside0.mk (Rbox.mk (below_step HB.out hb) (blk_below CB2.out hb) (blk_below CB3.out hb) hbox G2.out G23.out (show g3 < g4 by rw [hg4]; exact blk_lt CB3.out)); clear hb hbox hg4 HB CB2 CB3 G2 G23; obtain ⟨v20, v21, v30, v31, v32, v33, v40, v41, f40, f41⟩ := HX.out.vis)
    | (go_at_call 22; (with_reducible refine (dragnetref16_Formed.calls a0_0 A0_1 c0_1 l0_1 true _ (Kd.C_below HR.out HX.out.B) HC.out HF.out).mono ?_); rintro e w5 ⟨rfl, hb⟩; have HX_ := Aside0.mk (HX.out.step hb); clear HX hb v20 v21 v30 v31 v32 v33 v40 v41 f40 f41; have HX := HX_; clear HX_; obtain ⟨v20, v21, v30, v31, v32, v33, v40, v41, f40, f41⟩ := HX.out.vis)
    | (go_at_call 37; (with_reducible refine (dragnetref16_named.calls a1_1 true _ HN.out).mono ?_); rintro e w6 ⟨rfl, hd⟩; have hb := Drawn0.below hd; clear hd; have HX_ := Aside0.mk (HX.out.step hb); clear HX hb v20 v21 v30 v31 v32 v33 v40 v41 f40 f41; have HX := HX_; clear HX_; obtain ⟨v20, v21, v30, v31, v32, v33, v40, v41, f40, f41⟩ := HX.out.vis)
    | (go_at_call 37; (with_reducible refine (dragnetref16_named.calls a1_2 false _ HT.out).mono ?_); rintro e w7 ⟨rfl, hd⟩; have hb := Drawn0.below hd; clear hd; have HX_ := Aside0.mk (HX.out.step hb); clear HX hb v20 v21 v30 v31 v32 v33 v40 v41 f40 f41; have HX := HX_; clear HX_; obtain ⟨v20, v21, v30, v31, v32, v33, v40, v41, f40, f41⟩ := HX.out.vis))
  refine bodyPost_ret (results_ct rfl _ _ g4 24 #[.int .i64 0, .slice none 0 0] (0, 0) _ rfl (blk_put (cs := #[.int .i64 0, .slice none 0 0]) (blk_put (cs := #[.int .i64 0, .slice none 0 0]) HX.out.c4 0 _ rfl) 1 _ rfl) Try.underlying24 rfl (by kernel_rfl)) rfl ?_
  exact ⟨_, rfl, Kd.V_nil _ _ _ _ _, below_set (below_set HX.out.B HX.out.l) HX.out.l⟩
set_option maxHeartbeats 4000000 in
set_option maxRecDepth 100000 in
theorem rd_bad6 (a0_0 : Int) (A0_1 : Option Addr) (c0_1 : Nat) (l0_1 : List S61) (a1_0 : Int) (a1_1 : ByteArray) (a1_2 : ByteArray) (A1_3 : Option Addr) (c1_3 : Nat) (l1_3 : List Int) (r1 : Int) (r2 : List S61) (r3 : Int) (w : World) (hr0_1 : Kd.C k61 w A0_1 l0_1.length l0_1) (hc0_1 : l0_1.length ≤ c0_1) (hr1_3 : Kd.C (Kd.int .u8) w A1_3 l1_3.length l1_3) (hc1_3 : l1_3.length ≤ c1_3) (hs : Far l0_1) (hf : FormedR a0_0 l0_1) (hn : nmd a1_1) (hk : 1 ≤ a1_0 ∧ a1_0 ≤ 4) (hfo : foundS l0_1 a1_1 = false) (hk2 : a1_0 ≠ 1) (h3 : a1_0 ≠ 3) (he : (0, [], 8) = (r1, r2, r3)) :
    Calls Try.prog 13 #[.agg #[.int .i64 a0_0, .slice A0_1 l0_1.length c0_1], .agg #[.int .i64 a1_0, .string a1_1, .string a1_2, .slice A1_3 l1_3.length c1_3]] w fun e w' => ∃ v1_ : Value, e = .returned (.tuple #[.agg #[.int .i64 r1, v1_], .int .i64 r3]) ∧ Kd.V k61 61 w' w.heap.size (fun k_ => w.heap.size ≤ k_) v1_ r2 ∧ Below w.heap.size w w' := by
  have HR := Aside0.mk hr0_1
  have HC := Aside0.mk hc0_1
  have HR3 := Aside0.mk hr1_3
  have HC3 := Aside0.mk hc1_3
  have HB := Aside0.mk (Below.refl w.heap.size w)
  clear hr0_1 hc0_1 hr1_3 hc1_3
  have hu24 := Try.underlying24
  have hu27 := Try.underlying27
  have hu61 := Try.underlying61
  have hfl := field24
  have hk1 : decide (a1_0 < 1) = false := decide_eq_false (by omega)
  have hk4 : decide (4 < a1_0) = false := decide_eq_false (by omega)
  have hq3 : decide (a1_0 = 3) = false := decide_eq_false (by omega)
  have hq3b : (a1_0 == 3) = false := by simp; omega
  have hne1 : decide (a1_0 ≠ 1) = true := decide_eq_true (by omega)
  have hne1b : (a1_0 != 1) = true := by simp; omega
  have HP := Aside0.mk (show dragnetref16_place.f (l0_1.length + 1) a0_0 l0_1 a1_1 = some (-1) by rw [place_plain a0_0 l0_1 a1_1 (formed_srt hf) (by have := hs.1; omega), hfo]; rfl)
  have HF := Aside0.mk (show dragnetref16_Formed.f a0_0 l0_1 = some true by unfold dragnetref16_Formed.f; rw [if_pos (by have := hs.1; omega), decide_eq_true hf])
  have HN := Aside0.mk (show dragnetref16_named.f a1_1 = some true by rw [rnamed, decide_eq_true hn])
  clear hs hf hn hk hk2 h3 hfo
  injection he with he1 he2
  injection he2 with he2 he3
  subst he1
  subst he2
  subst he3
  go_enter Try.func13, Try.ntmps13
  go_wp2_with (first
    | ((with_reducible refine gate_dst (N := 2) rfl ?_); refine box_event ?hg (N := 2) ?hd (cs := #[.int .i64 a0_0, .slice A0_1 l0_1.length c0_1]) (t := 24) ?hr ?_; (case hd => rfl); (case hg => rfl); (case hr => first | (go_simp; done) | (go_simp; rfl)); intro g2 hg2 w2 hbox hb; have HB2 := Aside0.mk (below_step HB.out hb); have CB2 := Aside0.mk hbox; have G2 := Aside0.mk (show w.heap.size ≤ g2 by rw [hg2]; exact below_size HB.out); clear hb hbox hg2 HB; have HB := HB2; clear HB2)
    | ((with_reducible refine gate_dst (N := 3) rfl ?_); refine box_event ?hg (N := 3) ?hd (cs := #[.int .i64 a1_0, .string a1_1, .string a1_2, .slice A1_3 l1_3.length c1_3]) (t := 27) ?hr ?_; (case hd => rfl); (case hg => rfl); (case hr => first | (go_simp; done) | (go_simp; rfl)); intro g3 hg3 w3 hbox hb; have HB3 := Aside0.mk (below_step HB.out hb); have CB3 := Aside0.mk hbox; have G23 := Aside0.mk (show g2 < g3 by rw [hg3]; exact blk_lt CB2.out); have CB2_ := Aside0.mk (blk_below CB2.out hb); clear hb hbox hg3 HB CB2; have HB := HB3; have CB2 := CB2_; clear HB3 CB2_)
    | ((with_reducible refine gate_dst (N := 4) rfl ?_); refine box_event ?hg (N := 4) ?hd (cs := #[.int .i64 0, .slice none 0 0]) (t := 24) ?hr ?_; (case hd => rfl); (case hg => rfl); (case hr => first | (go_simp; done) | (go_simp; rfl)); intro g4 hg4 w4 hbox hb; have HX := Aside0.mk (Rbox.mk (below_step HB.out hb) (blk_below CB2.out hb) (blk_below CB3.out hb) hbox G2.out G23.out (show g3 < g4 by rw [hg4]; exact blk_lt CB3.out)); clear hb hbox hg4 HB CB2 CB3 G2 G23; obtain ⟨v20, v21, v30, v31, v32, v33, v40, v41, f40, f41⟩ := HX.out.vis)
    | (go_at_call 22; (with_reducible refine (dragnetref16_Formed.calls a0_0 A0_1 c0_1 l0_1 true _ (Kd.C_below HR.out HX.out.B) HC.out HF.out).mono ?_); rintro e w5 ⟨rfl, hb⟩; have HX_ := Aside0.mk (HX.out.step hb); clear HX hb v20 v21 v30 v31 v32 v33 v40 v41 f40 f41; have HX := HX_; clear HX_; obtain ⟨v20, v21, v30, v31, v32, v33, v40, v41, f40, f41⟩ := HX.out.vis)
    | (go_at_call 37; (with_reducible refine (dragnetref16_named.calls a1_1 true _ HN.out).mono ?_); rintro e w6 ⟨rfl, hd⟩; have hb := Drawn0.below hd; clear hd; have HX_ := Aside0.mk (HX.out.step hb); clear HX hb v20 v21 v30 v31 v32 v33 v40 v41 f40 f41; have HX := HX_; clear HX_; obtain ⟨v20, v21, v30, v31, v32, v33, v40, v41, f40, f41⟩ := HX.out.vis)
    | (go_at_call 38; (with_reducible refine (dragnetref16_place.calls _ a0_0 A0_1 c0_1 l0_1 a1_1 _ _ (Kd.C_below HR.out HX.out.B) HC.out HP.out).mono ?_); rintro e w8 ⟨rfl, hb⟩; have HX_ := Aside0.mk (HX.out.step hb); clear HX hb v20 v21 v30 v31 v32 v33 v40 v41 f40 f41; have HX := HX_; clear HX_; obtain ⟨v20, v21, v30, v31, v32, v33, v40, v41, f40, f41⟩ := HX.out.vis))
  refine bodyPost_ret (results_ct rfl _ _ g4 24 #[.int .i64 0, .slice none 0 0] (0, 0) _ rfl (blk_put (cs := #[.int .i64 0, .slice none 0 0]) (blk_put (cs := #[.int .i64 0, .slice none 0 0]) HX.out.c4 0 _ rfl) 1 _ rfl) Try.underlying24 rfl (by kernel_rfl)) rfl ?_
  exact ⟨_, rfl, Kd.V_nil _ _ _ _ _, below_set (below_set HX.out.B HX.out.l) HX.out.l⟩
set_option maxHeartbeats 4000000 in
set_option maxRecDepth 100000 in
theorem rd_bad7 (a0_0 : Int) (A0_1 : Option Addr) (c0_1 : Nat) (l0_1 : List S61) (a1_0 : Int) (a1_1 : ByteArray) (a1_2 : ByteArray) (A1_3 : Option Addr) (c1_3 : Nat) (l1_3 : List Int) (r1 : Int) (r2 : List S61) (r3 : Int) (w : World) (hr0_1 : Kd.C k61 w A0_1 l0_1.length l0_1) (hc0_1 : l0_1.length ≤ c0_1) (hr1_3 : Kd.C (Kd.int .u8) w A1_3 l1_3.length l1_3) (hc1_3 : l1_3.length ≤ c1_3) (hs : Far l0_1) (hf : FormedR a0_0 l0_1) (hn : nmd a1_1) (hfo : foundS l0_1 a1_1 = false) (hk2 : a1_0 = 3) (ht : nmd a1_2) (he : (0, [], 8) = (r1, r2, r3)) :
    Calls Try.prog 13 #[.agg #[.int .i64 a0_0, .slice A0_1 l0_1.length c0_1], .agg #[.int .i64 a1_0, .string a1_1, .string a1_2, .slice A1_3 l1_3.length c1_3]] w fun e w' => ∃ v1_ : Value, e = .returned (.tuple #[.agg #[.int .i64 r1, v1_], .int .i64 r3]) ∧ Kd.V k61 61 w' w.heap.size (fun k_ => w.heap.size ≤ k_) v1_ r2 ∧ Below w.heap.size w w' := by
  have HR := Aside0.mk hr0_1
  have HC := Aside0.mk hc0_1
  have HR3 := Aside0.mk hr1_3
  have HC3 := Aside0.mk hc1_3
  have HB := Aside0.mk (Below.refl w.heap.size w)
  clear hr0_1 hc0_1 hr1_3 hc1_3
  have hu24 := Try.underlying24
  have hu27 := Try.underlying27
  have hu61 := Try.underlying61
  have hfl := field24
  have hk1 : decide (a1_0 < 1) = false := decide_eq_false (by omega)
  have hk4 : decide (4 < a1_0) = false := decide_eq_false (by omega)
  have hq3 : decide (a1_0 = 3) = true := decide_eq_true (by omega)
  have hq3b : (a1_0 == 3) = true := by simp; omega
  have hne1 : decide (a1_0 ≠ 1) = true := decide_eq_true (by omega)
  have hne1b : (a1_0 != 1) = true := by simp; omega
  have HP := Aside0.mk (show dragnetref16_place.f (l0_1.length + 1) a0_0 l0_1 a1_1 = some (-1) by rw [place_plain a0_0 l0_1 a1_1 (formed_srt hf) (by have := hs.1; omega), hfo]; rfl)
  have HF := Aside0.mk (show dragnetref16_Formed.f a0_0 l0_1 = some true by unfold dragnetref16_Formed.f; rw [if_pos (by have := hs.1; omega), decide_eq_true hf])
  have HN := Aside0.mk (show dragnetref16_named.f a1_1 = some true by rw [rnamed, decide_eq_true hn])
  have HT := Aside0.mk (show dragnetref16_named.f a1_2 = some true by rw [rnamed, decide_eq_true ht])
  clear hs hf hn hk2 ht hfo
  injection he with he1 he2
  injection he2 with he2 he3
  subst he1
  subst he2
  subst he3
  go_enter Try.func13, Try.ntmps13
  go_wp2_with (first
    | ((with_reducible refine gate_dst (N := 2) rfl ?_); refine box_event ?hg (N := 2) ?hd (cs := #[.int .i64 a0_0, .slice A0_1 l0_1.length c0_1]) (t := 24) ?hr ?_; (case hd => rfl); (case hg => rfl); (case hr => first | (go_simp; done) | (go_simp; rfl)); intro g2 hg2 w2 hbox hb; have HB2 := Aside0.mk (below_step HB.out hb); have CB2 := Aside0.mk hbox; have G2 := Aside0.mk (show w.heap.size ≤ g2 by rw [hg2]; exact below_size HB.out); clear hb hbox hg2 HB; have HB := HB2; clear HB2)
    | ((with_reducible refine gate_dst (N := 3) rfl ?_); refine box_event ?hg (N := 3) ?hd (cs := #[.int .i64 a1_0, .string a1_1, .string a1_2, .slice A1_3 l1_3.length c1_3]) (t := 27) ?hr ?_; (case hd => rfl); (case hg => rfl); (case hr => first | (go_simp; done) | (go_simp; rfl)); intro g3 hg3 w3 hbox hb; have HB3 := Aside0.mk (below_step HB.out hb); have CB3 := Aside0.mk hbox; have G23 := Aside0.mk (show g2 < g3 by rw [hg3]; exact blk_lt CB2.out); have CB2_ := Aside0.mk (blk_below CB2.out hb); clear hb hbox hg3 HB CB2; have HB := HB3; have CB2 := CB2_; clear HB3 CB2_)
    | ((with_reducible refine gate_dst (N := 4) rfl ?_); refine box_event ?hg (N := 4) ?hd (cs := #[.int .i64 0, .slice none 0 0]) (t := 24) ?hr ?_; (case hd => rfl); (case hg => rfl); (case hr => first | (go_simp; done) | (go_simp; rfl)); intro g4 hg4 w4 hbox hb; have HX := Aside0.mk (Rbox.mk (below_step HB.out hb) (blk_below CB2.out hb) (blk_below CB3.out hb) hbox G2.out G23.out (show g3 < g4 by rw [hg4]; exact blk_lt CB3.out)); clear hb hbox hg4 HB CB2 CB3 G2 G23; obtain ⟨v20, v21, v30, v31, v32, v33, v40, v41, f40, f41⟩ := HX.out.vis)
    | (go_at_call 22; (with_reducible refine (dragnetref16_Formed.calls a0_0 A0_1 c0_1 l0_1 true _ (Kd.C_below HR.out HX.out.B) HC.out HF.out).mono ?_); rintro e w5 ⟨rfl, hb⟩; have HX_ := Aside0.mk (HX.out.step hb); clear HX hb v20 v21 v30 v31 v32 v33 v40 v41 f40 f41; have HX := HX_; clear HX_; obtain ⟨v20, v21, v30, v31, v32, v33, v40, v41, f40, f41⟩ := HX.out.vis)
    | (go_at_call 37; (with_reducible refine (dragnetref16_named.calls a1_1 true _ HN.out).mono ?_); rintro e w6 ⟨rfl, hd⟩; have hb := Drawn0.below hd; clear hd; have HX_ := Aside0.mk (HX.out.step hb); clear HX hb v20 v21 v30 v31 v32 v33 v40 v41 f40 f41; have HX := HX_; clear HX_; obtain ⟨v20, v21, v30, v31, v32, v33, v40, v41, f40, f41⟩ := HX.out.vis)
    | (go_at_call 37; (with_reducible refine (dragnetref16_named.calls a1_2 true _ HT.out).mono ?_); rintro e w7 ⟨rfl, hd⟩; have hb := Drawn0.below hd; clear hd; have HX_ := Aside0.mk (HX.out.step hb); clear HX hb v20 v21 v30 v31 v32 v33 v40 v41 f40 f41; have HX := HX_; clear HX_; obtain ⟨v20, v21, v30, v31, v32, v33, v40, v41, f40, f41⟩ := HX.out.vis)
    | (go_at_call 38; (with_reducible refine (dragnetref16_place.calls _ a0_0 A0_1 c0_1 l0_1 a1_1 _ _ (Kd.C_below HR.out HX.out.B) HC.out HP.out).mono ?_); rintro e w8 ⟨rfl, hb⟩; have HX_ := Aside0.mk (HX.out.step hb); clear HX hb v20 v21 v30 v31 v32 v33 v40 v41 f40 f41; have HX := HX_; clear HX_; obtain ⟨v20, v21, v30, v31, v32, v33, v40, v41, f40, f41⟩ := HX.out.vis))
  refine bodyPost_ret (results_ct rfl _ _ g4 24 #[.int .i64 0, .slice none 0 0] (0, 0) _ rfl (blk_put (cs := #[.int .i64 0, .slice none 0 0]) (blk_put (cs := #[.int .i64 0, .slice none 0 0]) HX.out.c4 0 _ rfl) 1 _ rfl) Try.underlying24 rfl (by kernel_rfl)) rfl ?_
  exact ⟨_, rfl, Kd.V_nil _ _ _ _ _, below_set (below_set HX.out.B HX.out.l) HX.out.l⟩
set_option maxHeartbeats 4000000 in
set_option maxRecDepth 100000 in
theorem rd_bad8 (a0_0 : Int) (A0_1 : Option Addr) (c0_1 : Nat) (l0_1 : List S61) (a1_0 : Int) (a1_1 : ByteArray) (a1_2 : ByteArray) (A1_3 : Option Addr) (c1_3 : Nat) (l1_3 : List Int) (r1 : Int) (r2 : List S61) (r3 : Int) (w : World) (hr0_1 : Kd.C k61 w A0_1 l0_1.length l0_1) (hc0_1 : l0_1.length ≤ c0_1) (hr1_3 : Kd.C (Kd.int .u8) w A1_3 l1_3.length l1_3) (hc1_3 : l1_3.length ≤ c1_3) (hs : Far l0_1) (hf : FormedR a0_0 l0_1) (hn : nmd a1_1) (hfo : foundS l0_1 a1_1 = false) (hk : a1_0 = 1) (hl : l0_1.length = 256) (he : (0, [], 6) = (r1, r2, r3)) :
    Calls Try.prog 13 #[.agg #[.int .i64 a0_0, .slice A0_1 l0_1.length c0_1], .agg #[.int .i64 a1_0, .string a1_1, .string a1_2, .slice A1_3 l1_3.length c1_3]] w fun e w' => ∃ v1_ : Value, e = .returned (.tuple #[.agg #[.int .i64 r1, v1_], .int .i64 r3]) ∧ Kd.V k61 61 w' w.heap.size (fun k_ => w.heap.size ≤ k_) v1_ r2 ∧ Below w.heap.size w w' := by
  have HR := Aside0.mk hr0_1
  have HC := Aside0.mk hc0_1
  have HR3 := Aside0.mk hr1_3
  have HC3 := Aside0.mk hc1_3
  have HB := Aside0.mk (Below.refl w.heap.size w)
  clear hr0_1 hc0_1 hr1_3 hc1_3
  have hu24 := Try.underlying24
  have hu27 := Try.underlying27
  have hu61 := Try.underlying61
  have hfl := field24
  have hk1 : decide (a1_0 < 1) = false := decide_eq_false (by omega)
  have hk4 : decide (4 < a1_0) = false := decide_eq_false (by omega)
  have hq1 : decide (a1_0 = 1) = true := decide_eq_true (by omega)
  have hq1b : (a1_0 == 1) = true := by simp; omega
  have hq2 : decide (a1_0 = 2) = false := decide_eq_false (by omega)
  have hq2b : (a1_0 == 2) = false := by simp; omega
  have hq3 : decide (a1_0 = 3) = false := decide_eq_false (by omega)
  have hq3b : (a1_0 == 3) = false := by simp; omega
  have hq4 : decide (a1_0 = 4) = false := decide_eq_false (by omega)
  have hq4b : (a1_0 == 4) = false := by simp; omega
  have hne1 : decide (a1_0 ≠ 1) = false := decide_eq_false (by omega)
  have hne1b : (a1_0 != 1) = false := by simp; omega
  have HP := Aside0.mk (show dragnetref16_place.f (l0_1.length + 1) a0_0 l0_1 a1_1 = some (-1) by rw [place_plain a0_0 l0_1 a1_1 (formed_srt hf) (by have := hs.1; omega), hfo]; rfl)
  have HF := Aside0.mk (show dragnetref16_Formed.f a0_0 l0_1 = some true by unfold dragnetref16_Formed.f; rw [if_pos (by have := hs.1; omega), decide_eq_true hf])
  have HN := Aside0.mk (show dragnetref16_named.f a1_1 = some true by rw [rnamed, decide_eq_true hn])
  have hl1 : decide ((l0_1.length : Int) = 256) = true := decide_eq_true (by omega)
  have hl2 : ((l0_1.length : Int) == 256) = true := by simp; omega
  clear hs hf hn hk hfo hl
  injection he with he1 he2
  injection he2 with he2 he3
  subst he1
  subst he2
  subst he3
  go_enter Try.func13, Try.ntmps13
  go_upto_region 7 with (first
    | ((with_reducible refine gate_dst (N := 2) rfl ?_); refine box_event ?hg (N := 2) ?hd (cs := #[.int .i64 a0_0, .slice A0_1 l0_1.length c0_1]) (t := 24) ?hr ?_; (case hd => rfl); (case hg => rfl); (case hr => first | (go_simp; done) | (go_simp; rfl)); intro g2 hg2 w2 hbox hb; have HB2 := Aside0.mk (below_step HB.out hb); have CB2 := Aside0.mk hbox; have G2 := Aside0.mk (show w.heap.size ≤ g2 by rw [hg2]; exact below_size HB.out); clear hb hbox hg2 HB; have HB := HB2; clear HB2)
    | ((with_reducible refine gate_dst (N := 3) rfl ?_); refine box_event ?hg (N := 3) ?hd (cs := #[.int .i64 a1_0, .string a1_1, .string a1_2, .slice A1_3 l1_3.length c1_3]) (t := 27) ?hr ?_; (case hd => rfl); (case hg => rfl); (case hr => first | (go_simp; done) | (go_simp; rfl)); intro g3 hg3 w3 hbox hb; have HB3 := Aside0.mk (below_step HB.out hb); have CB3 := Aside0.mk hbox; have G23 := Aside0.mk (show g2 < g3 by rw [hg3]; exact blk_lt CB2.out); have CB2_ := Aside0.mk (blk_below CB2.out hb); clear hb hbox hg3 HB CB2; have HB := HB3; have CB2 := CB2_; clear HB3 CB2_)
    | ((with_reducible refine gate_dst (N := 4) rfl ?_); refine box_event ?hg (N := 4) ?hd (cs := #[.int .i64 0, .slice none 0 0]) (t := 24) ?hr ?_; (case hd => rfl); (case hg => rfl); (case hr => first | (go_simp; done) | (go_simp; rfl)); intro g4 hg4 w4 hbox hb; have HX := Aside0.mk (Rbox.mk (below_step HB.out hb) (blk_below CB2.out hb) (blk_below CB3.out hb) hbox G2.out G23.out (show g3 < g4 by rw [hg4]; exact blk_lt CB3.out)); clear hb hbox hg4 HB CB2 CB3 G2 G23; obtain ⟨v20, v21, v30, v31, v32, v33, v40, v41, f40, f41⟩ := HX.out.vis)
    | (go_at_call 22; (with_reducible refine (dragnetref16_Formed.calls a0_0 A0_1 c0_1 l0_1 true _ (Kd.C_below HR.out HX.out.B) HC.out HF.out).mono ?_); rintro e w5 ⟨rfl, hb⟩; have HX_ := Aside0.mk (HX.out.step hb); clear HX hb v20 v21 v30 v31 v32 v33 v40 v41 f40 f41; have HX := HX_; clear HX_; obtain ⟨v20, v21, v30, v31, v32, v33, v40, v41, f40, f41⟩ := HX.out.vis)
    | (go_at_call 37; (with_reducible refine (dragnetref16_named.calls a1_1 true _ HN.out).mono ?_); rintro e w6 ⟨rfl, hd⟩; have hb := Drawn0.below hd; clear hd; have HX_ := Aside0.mk (HX.out.step hb); clear HX hb v20 v21 v30 v31 v32 v33 v40 v41 f40 f41; have HX := HX_; clear HX_; obtain ⟨v20, v21, v30, v31, v32, v33, v40, v41, f40, f41⟩ := HX.out.vis)
    | (go_at_call 38; (with_reducible refine (dragnetref16_place.calls _ a0_0 A0_1 c0_1 l0_1 a1_1 _ _ (Kd.C_below HR.out HX.out.B) HC.out HP.out).mono ?_); rintro e w8 ⟨rfl, hb⟩; have HX_ := Aside0.mk (HX.out.step hb); clear HX hb v20 v21 v30 v31 v32 v33 v40 v41 f40 f41; have HX := HX_; clear HX_; obtain ⟨v20, v21, v30, v31, v32, v33, v40, v41, f40, f41⟩ := HX.out.vis)
    | ((with_reducible refine gate_dst (N := 7) rfl ?_); refine box_event ?hg (N := 7) ?hd (cs := #[.string ⟨#[]⟩, .slice none 0 0, .int .i64 0]) (t := 61) ?hr ?_; (case hd => rfl); (case hg => rfl); (case hr => first | (go_simp; done) | (go_simp; rfl)); intro g7 hg7 w9 hbox hb; have CB7 := Aside0.mk hbox; have G7 := Aside0.mk (show g4 < g7 by rw [hg7]; exact blk_lt HX.out.c4); have HX_ := Aside0.mk (HX.out.step hb); clear hbox hg7 hb HX v20 v21 v30 v31 v32 v33 v40 v41 f40 f41; have HX := HX_; clear HX_; obtain ⟨v20, v21, v30, v31, v32, v33, v40, v41, f40, f41⟩ := HX.out.vis; obtain ⟨v70, v71, v72, f70, f71, f72⟩ := vis7 CB7.out))
  have HX_ : Aside0 (Rbox w g2 g3 g4 #[.int .i64 a0_0, .slice A0_1 l0_1.length c0_1] #[.int .i64 a1_0, .string a1_1, .string a1_2, .slice A1_3 l1_3.length c1_3] #[.int .i64 0, .slice none 0 0] (((w9.setCell ⟨g7, 0, none⟩ (.string a1_1)).setCell ⟨g7, 1, none⟩ (.slice none 0 0)).setCell ⟨g7, 2, none⟩ (.int .i64 0))) := ⟨(Rbox.far (Rbox.far (Rbox.far HX.out G7.out 0 (.string a1_1)) G7.out 1 (.slice none 0 0)) G7.out 2 (.int .i64 0))⟩
  have CB7_ : Aside0 ((((w9.setCell ⟨g7, 0, none⟩ (.string a1_1)).setCell ⟨g7, 1, none⟩ (.slice none 0 0)).setCell ⟨g7, 2, none⟩ (.int .i64 0)).heap[g7]? = some (.cells #[.string a1_1, .slice none 0 0, .int .i64 0] 61 (0, 0))) := ⟨(blk_put (cs := #[.string a1_1, .slice none 0 0, .int .i64 0]) (blk_put (cs := #[.string a1_1, .slice none 0 0, .int .i64 0]) (blk_put (cs := #[.string ⟨#[]⟩, .slice none 0 0, .int .i64 0]) CB7.out 0 (.string a1_1) rfl) 1 (.slice none 0 0) rfl) 2 (.int .i64 0) rfl)⟩
  clear HX CB7 v20 v21 v30 v31 v32 v33 v40 v41 f40 f41 v70 v71 v72 f70 f71 f72
  generalize ((w9.setCell ⟨g7, 0, none⟩ (.string a1_1)).setCell ⟨g7, 1, none⟩ (.slice none 0 0)).setCell ⟨g7, 2, none⟩ (.int .i64 0) = W1 at *
  have HX := HX_
  have CB7 := CB7_
  clear HX_ CB7_
  obtain ⟨v20, v21, v30, v31, v32, v33, v40, v41, f40, f41⟩ := HX.out.vis
  obtain ⟨v70, v71, v72, f70, f71, f72⟩ := vis7 CB7.out
  go_wp2
  refine bodyPost_ret (results_ct rfl _ _ g4 24 #[.int .i64 0, .slice none 0 0] (0, 0) _ rfl (blk_put (cs := #[.int .i64 0, .slice none 0 0]) (blk_put (cs := #[.int .i64 0, .slice none 0 0]) HX.out.c4 0 _ rfl) 1 _ rfl) Try.underlying24 rfl (by kernel_rfl)) rfl ?_
  exact ⟨_, rfl, Kd.V_nil _ _ _ _ _, below_set (below_set HX.out.B HX.out.l) HX.out.l⟩
set_option maxHeartbeats 4000000 in
set_option maxRecDepth 100000 in
theorem rd_sync (a0_0 : Int) (A0_1 : Option Addr) (c0_1 : Nat) (l0_1 : List S61) (a1_0 : Int) (a1_1 : ByteArray) (a1_2 : ByteArray) (A1_3 : Option Addr) (c1_3 : Nat) (l1_3 : List Int) (r1 : Int) (r2 : List S61) (r3 : Int) (w : World) (hr0_1 : Kd.C k61 w A0_1 l0_1.length l0_1) (hc0_1 : l0_1.length ≤ c0_1) (hr1_3 : Kd.C (Kd.int .u8) w A1_3 l1_3.length l1_3) (hc1_3 : l1_3.length ≤ c1_3) (hs : Far l0_1) (hf : FormedR a0_0 l0_1) (hn : nmd a1_1) (hfo : foundS l0_1 a1_1 = true) (hk : a1_0 = 2) (hw : dragnetref16_with.f (l0_1.length + 1) a0_0 l0_1 (rd_T61 l0_1 (idxS l0_1 a1_1 : Int)).f0 (rd_T61 l0_1 (idxS l0_1 a1_1 : Int)).f1 ((rd_T61 l0_1 (idxS l0_1 a1_1 : Int)).f1.length : Int) = some (a0_0, r2)) (h1_ : a0_0 = r1) (h3_ : 0 = r3) :
    Calls Try.prog 13 #[.agg #[.int .i64 a0_0, .slice A0_1 l0_1.length c0_1], .agg #[.int .i64 a1_0, .string a1_1, .string a1_2, .slice A1_3 l1_3.length c1_3]] w fun e w' => ∃ v1_ : Value, e = .returned (.tuple #[.agg #[.int .i64 r1, v1_], .int .i64 r3]) ∧ Kd.V k61 61 w' w.heap.size (fun k_ => w.heap.size ≤ k_) v1_ r2 ∧ Below w.heap.size w w' := by
  have HR := Aside0.mk hr0_1
  have HC := Aside0.mk hc0_1
  have HR3 := Aside0.mk hr1_3
  have HC3 := Aside0.mk hc1_3
  have HB := Aside0.mk (Below.refl w.heap.size w)
  clear hr0_1 hc0_1 hr1_3 hc1_3
  have hu24 := Try.underlying24
  have hu27 := Try.underlying27
  have hu61 := Try.underlying61
  have hfl := field24
  obtain ⟨i, hi⟩ : ∃ i, i = idxS l0_1 a1_1 := ⟨_, rfl⟩
  have hin : i < l0_1.length := by rw [hi]; exact found_lt hfo
  have HIN := Aside0.mk hin
  have hl256 := hf.2.2.2.1
  obtain ⟨x, hx⟩ : ∃ x, x = rd_T61 l0_1 (i : Int) := ⟨_, rfl⟩
  have HXX := Aside0.mk hx
  have i0 := eq_true (show (0 : Int) ≤ (i : Int) by omega)
  have i1 := eq_true (show (i : Int) < (l0_1.length : Int) by omega)
  have im : decide ((i : Int) < 0) = false := decide_eq_false (by omega)
  have hlen := hs.1
  have HCP := Aside0.mk (copy_plain a0_0 l0_1 hs.reach)
  have hk1 : decide (a1_0 < 1) = false := decide_eq_false (by omega)
  have hk4 : decide (4 < a1_0) = false := decide_eq_false (by omega)
  have hq1 : decide (a1_0 = 1) = false := decide_eq_false (by omega)
  have hq1b : (a1_0 == 1) = false := by simp; omega
  have hq2 : decide (a1_0 = 2) = true := decide_eq_true (by omega)
  have hq2b : (a1_0 == 2) = true := by simp; omega
  have hq3 : decide (a1_0 = 3) = false := decide_eq_false (by omega)
  have hq3b : (a1_0 == 3) = false := by simp; omega
  have hq4 : decide (a1_0 = 4) = false := decide_eq_false (by omega)
  have hq4b : (a1_0 == 4) = false := by simp; omega
  have hne1 : decide (a1_0 ≠ 1) = true := decide_eq_true (by omega)
  have hne1b : (a1_0 != 1) = true := by simp; omega
  have HP := Aside0.mk (show dragnetref16_place.f (l0_1.length + 1) a0_0 l0_1 a1_1 = some (i : Int) by rw [place_plain a0_0 l0_1 a1_1 (formed_srt hf) (by have := hs.1; omega), hfo, ← hi]; rfl)
  have HF := Aside0.mk (show dragnetref16_Formed.f a0_0 l0_1 = some true by unfold dragnetref16_Formed.f; rw [if_pos (by have := hs.1; omega), decide_eq_true hf])
  have HN := Aside0.mk (show dragnetref16_named.f a1_1 = some true by rw [rnamed, decide_eq_true hn])
  have HW := Aside0.mk hw
  rw [← hi, ← hx] at HW
  clear hw
  clear hl256 hlen hin hx hi hs hf hn hk hfo
  subst h1_
  subst h3_
  go_enter Try.func13, Try.ntmps13
  go_upto_region 7 with (first
    | ((with_reducible refine gate_dst (N := 2) rfl ?_); refine box_event ?hg (N := 2) ?hd (cs := #[.int .i64 a0_0, .slice A0_1 l0_1.length c0_1]) (t := 24) ?hr ?_; (case hd => rfl); (case hg => rfl); (case hr => first | (go_simp; done) | (go_simp; rfl)); intro g2 hg2 w2 hbox hb; have HB2 := Aside0.mk (below_step HB.out hb); have CB2 := Aside0.mk hbox; have G2 := Aside0.mk (show w.heap.size ≤ g2 by rw [hg2]; exact below_size HB.out); clear hb hbox hg2 HB; have HB := HB2; clear HB2)
    | ((with_reducible refine gate_dst (N := 3) rfl ?_); refine box_event ?hg (N := 3) ?hd (cs := #[.int .i64 a1_0, .string a1_1, .string a1_2, .slice A1_3 l1_3.length c1_3]) (t := 27) ?hr ?_; (case hd => rfl); (case hg => rfl); (case hr => first | (go_simp; done) | (go_simp; rfl)); intro g3 hg3 w3 hbox hb; have HB3 := Aside0.mk (below_step HB.out hb); have CB3 := Aside0.mk hbox; have G23 := Aside0.mk (show g2 < g3 by rw [hg3]; exact blk_lt CB2.out); have CB2_ := Aside0.mk (blk_below CB2.out hb); clear hb hbox hg3 HB CB2; have HB := HB3; have CB2 := CB2_; clear HB3 CB2_)
    | ((with_reducible refine gate_dst (N := 4) rfl ?_); refine box_event ?hg (N := 4) ?hd (cs := #[.int .i64 0, .slice none 0 0]) (t := 24) ?hr ?_; (case hd => rfl); (case hg => rfl); (case hr => first | (go_simp; done) | (go_simp; rfl)); intro g4 hg4 w4 hbox hb; have HX := Aside0.mk (Rbox.mk (below_step HB.out hb) (blk_below CB2.out hb) (blk_below CB3.out hb) hbox G2.out G23.out (show g3 < g4 by rw [hg4]; exact blk_lt CB3.out)); clear hb hbox hg4 HB CB2 CB3 G2 G23; obtain ⟨v20, v21, v30, v31, v32, v33, v40, v41, f40, f41⟩ := HX.out.vis)
    | (go_at_call 22; (with_reducible refine (dragnetref16_Formed.calls a0_0 A0_1 c0_1 l0_1 true _ (Kd.C_below HR.out HX.out.B) HC.out HF.out).mono ?_); rintro e w5 ⟨rfl, hb⟩; have HX_ := Aside0.mk (HX.out.step hb); clear HX hb v20 v21 v30 v31 v32 v33 v40 v41 f40 f41; have HX := HX_; clear HX_; obtain ⟨v20, v21, v30, v31, v32, v33, v40, v41, f40, f41⟩ := HX.out.vis)
    | (go_at_call 37; (with_reducible refine (dragnetref16_named.calls a1_1 true _ HN.out).mono ?_); rintro e w6 ⟨rfl, hd⟩; have hb := Drawn0.below hd; clear hd; have HX_ := Aside0.mk (HX.out.step hb); clear HX hb v20 v21 v30 v31 v32 v33 v40 v41 f40 f41; have HX := HX_; clear HX_; obtain ⟨v20, v21, v30, v31, v32, v33, v40, v41, f40, f41⟩ := HX.out.vis)
    | (go_at_call 38; (with_reducible refine (dragnetref16_place.calls _ a0_0 A0_1 c0_1 l0_1 a1_1 _ _ (Kd.C_below HR.out HX.out.B) HC.out HP.out).mono ?_); rintro e w8 ⟨rfl, hb⟩; have HX_ := Aside0.mk (HX.out.step hb); clear HX hb v20 v21 v30 v31 v32 v33 v40 v41 f40 f41; have HX := HX_; clear HX_; obtain ⟨v20, v21, v30, v31, v32, v33, v40, v41, f40, f41⟩ := HX.out.vis)
    | ((with_reducible refine gate_dst (N := 7) rfl ?_); refine box_event ?hg (N := 7) ?hd (cs := #[.string ⟨#[]⟩, .slice none 0 0, .int .i64 0]) (t := 61) ?hr ?_; (case hd => rfl); (case hg => rfl); (case hr => first | (go_simp; done) | (go_simp; rfl)); intro g7 hg7 w9 hbox hb; have CB7 := Aside0.mk hbox; have G7 := Aside0.mk (show g4 < g7 by rw [hg7]; exact blk_lt HX.out.c4); have HX_ := Aside0.mk (HX.out.step hb); clear hbox hg7 hb HX v20 v21 v30 v31 v32 v33 v40 v41 f40 f41; have HX := HX_; clear HX_; obtain ⟨v20, v21, v30, v31, v32, v33, v40, v41, f40, f41⟩ := HX.out.vis; obtain ⟨v70, v71, v72, f70, f71, f72⟩ := vis7 CB7.out))
  have HX_ : Aside0 (Rbox w g2 g3 g4 #[.int .i64 a0_0, .slice A0_1 l0_1.length c0_1] #[.int .i64 a1_0, .string a1_1, .string a1_2, .slice A1_3 l1_3.length c1_3] #[.int .i64 0, .slice none 0 0] (((w9.setCell ⟨g7, 0, none⟩ (.string a1_1)).setCell ⟨g7, 1, none⟩ (.slice none 0 0)).setCell ⟨g7, 2, none⟩ (.int .i64 0))) := ⟨(Rbox.far (Rbox.far (Rbox.far HX.out G7.out 0 (.string a1_1)) G7.out 1 (.slice none 0 0)) G7.out 2 (.int .i64 0))⟩
  have CB7_ : Aside0 ((((w9.setCell ⟨g7, 0, none⟩ (.string a1_1)).setCell ⟨g7, 1, none⟩ (.slice none 0 0)).setCell ⟨g7, 2, none⟩ (.int .i64 0)).heap[g7]? = some (.cells #[.string a1_1, .slice none 0 0, .int .i64 0] 61 (0, 0))) := ⟨(blk_put (cs := #[.string a1_1, .slice none 0 0, .int .i64 0]) (blk_put (cs := #[.string a1_1, .slice none 0 0, .int .i64 0]) (blk_put (cs := #[.string ⟨#[]⟩, .slice none 0 0, .int .i64 0]) CB7.out 0 (.string a1_1) rfl) 1 (.slice none 0 0) rfl) 2 (.int .i64 0) rfl)⟩
  clear HX CB7 v20 v21 v30 v31 v32 v33 v40 v41 f40 f41 v70 v71 v72 f70 f71 f72
  generalize ((w9.setCell ⟨g7, 0, none⟩ (.string a1_1)).setCell ⟨g7, 1, none⟩ (.slice none 0 0)).setCell ⟨g7, 2, none⟩ (.int .i64 0) = W1 at *
  have HX := HX_
  have CB7 := CB7_
  clear HX_ CB7_
  obtain ⟨v20, v21, v30, v31, v32, v33, v40, v41, f40, f41⟩ := HX.out.vis
  obtain ⟨v70, v71, v72, f70, f71, f72⟩ := vis7 CB7.out
  have HB0 := Aside0.mk (below_size HX.out.B)
  go_upto_region 9 with (first
    | (go_at_call 10; (with_reducible refine (dragnetref16_Copy.calls _ a0_0 A0_1 c0_1 l0_1 a0_0 l0_1 _ (Kd.C_below HR.out HX.out.B) HC.out HCP.out).mono ?_); rintro e w10 ⟨v10, rfl, hS, hb⟩; obtain ⟨A10, c10, rfl⟩ := Kd.S_slice hS; have HS := Aside0.mk (Kd.S_mono (Kd.S_bound hS) (ok' := fun k => g7 < k) (fun k hk => by have := hk.2.1; have := blk_lt CB7.out; omega)); clear hS; have HX_ := Aside0.mk (HX.out.step hb); have CB7_ := Aside0.mk (blk_below CB7.out hb); clear HX CB7 hb v20 v21 v30 v31 v32 v33 v40 v41 f40 f41 v70 v71 v72 f70 f71 f72; have HX := HX_; have CB7 := CB7_; clear HX_ CB7_; obtain ⟨v20, v21, v30, v31, v32, v33, v40, v41, f40, f41⟩ := HX.out.vis; obtain ⟨v70, v71, v72, f70, f71, f72⟩ := vis7 CB7.out; obtain ⟨go, cap, hv, GO1, GO2, _⟩ := Kd.S_form HS.out (by have := HIN.out; omega); injection hv with e1 e2 e3; subst e1; subst e3; clear e2 GO1 GO2; obtain ⟨oki, c, hcl, hM, hcc, hfr, hoki, hH⟩ := Kd.S_elem HS.out z61 (i : Int) (by omega) (by have := HIN.out; omega); rw [show l0_1.getD (i : Int).toNat z61 = x from HXX.out.symm] at hM; obtain ⟨v1, rfl, hv1⟩ := k61_openM hM; obtain ⟨A1, c1, rfl⟩ := Kd.R_slice hv1; have HV := Aside0.mk (Kd.R_lower (Kd.R_mono hv1 (ok' := fun k => g7 < k) (fun k hk => (hoki k hk).1)) HB0.out); have hz0 : w10.cell? ⟨go, i * 3, none⟩ = some (.string x.f0) := hcc 0 _ rfl; have hz1 : w10.cell? ⟨go, i * 3 + 1, none⟩ = some (.slice A1 x.f1.length c1) := hcc 1 _ rfl; have hz2 : w10.cell? ⟨go, i * 3 + 2, none⟩ = some (.int .i64 x.f2) := hcc 2 _ rfl; clear hcl hM hcc hfr hoki hH hv1))
  have HX_ : Aside0 (Rbox w g2 g3 g4 #[.int .i64 a0_0, .slice A0_1 l0_1.length c0_1] #[.int .i64 a1_0, .string a1_1, .string a1_2, .slice A1_3 l1_3.length c1_3] #[.int .i64 0, .slice none 0 0] (((w10.setCell ⟨g7, 0, none⟩ (.string x.f0)).setCell ⟨g7, 1, none⟩ (.slice A1 x.f1.length c1)).setCell ⟨g7, 2, none⟩ (.int .i64 x.f2))) := ⟨(Rbox.far (Rbox.far (Rbox.far HX.out G7.out 0 (.string x.f0)) G7.out 1 (.slice A1 x.f1.length c1)) G7.out 2 (.int .i64 x.f2))⟩
  have CB7_ : Aside0 ((((w10.setCell ⟨g7, 0, none⟩ (.string x.f0)).setCell ⟨g7, 1, none⟩ (.slice A1 x.f1.length c1)).setCell ⟨g7, 2, none⟩ (.int .i64 x.f2)).heap[g7]? = some (.cells #[.string x.f0, .slice A1 x.f1.length c1, .int .i64 x.f2] 61 (0, 0))) := ⟨(blk_put (cs := #[.string x.f0, .slice A1 x.f1.length c1, .int .i64 0]) (blk_put (cs := #[.string x.f0, .slice none 0 0, .int .i64 0]) (blk_put (cs := #[.string a1_1, .slice none 0 0, .int .i64 0]) CB7.out 0 (.string x.f0) rfl) 1 (.slice A1 x.f1.length c1) rfl) 2 (.int .i64 x.f2) rfl)⟩
  have HV_ := Aside0.mk (Kd.R_far (p := ⟨g7, 2, none⟩) (Kd.R_far (p := ⟨g7, 1, none⟩) (Kd.R_far (p := ⟨g7, 0, none⟩) HV.out (fun k hk => Nat.ne_of_gt hk) (.string x.f0)) (fun k hk => Nat.ne_of_gt hk) (.slice A1 x.f1.length c1)) (fun k hk => Nat.ne_of_gt hk) (.int .i64 x.f2))
  clear HV
  clear HX CB7 v20 v21 v30 v31 v32 v33 v40 v41 f40 f41 v70 v71 v72 f70 f71 f72
  clear hz0 hz1 hz2 HS
  generalize ((w10.setCell ⟨g7, 0, none⟩ (.string x.f0)).setCell ⟨g7, 1, none⟩ (.slice A1 x.f1.length c1)).setCell ⟨g7, 2, none⟩ (.int .i64 x.f2) = W2 at *
  have HX := HX_
  have CB7 := CB7_
  clear HX_ CB7_
  have HV := HV_
  clear HV_
  obtain ⟨v20, v21, v30, v31, v32, v33, v40, v41, f40, f41⟩ := HX.out.vis
  obtain ⟨v70, v71, v72, f70, f71, f72⟩ := vis7 CB7.out
  go_upto_region 19 with (first
    | fail)
  have HX_ : Aside0 (Rbox w g2 g3 g4 #[.int .i64 a0_0, .slice A0_1 l0_1.length c0_1] #[.int .i64 a1_0, .string a1_1, .string a1_2, .slice A1_3 l1_3.length c1_3] #[.int .i64 0, .slice none 0 0] (W2.setCell ⟨g7, 2, none⟩ (.int .i64 (x.f1.length : Int)))) := ⟨(Rbox.far HX.out G7.out 2 (.int .i64 (x.f1.length : Int)))⟩
  have CB7_ : Aside0 ((W2.setCell ⟨g7, 2, none⟩ (.int .i64 (x.f1.length : Int))).heap[g7]? = some (.cells #[.string x.f0, .slice A1 x.f1.length c1, .int .i64 (x.f1.length : Int)] 61 (0, 0))) := ⟨(blk_put (cs := #[.string x.f0, .slice A1 x.f1.length c1, .int .i64 x.f2]) CB7.out 2 (.int .i64 (x.f1.length : Int)) rfl)⟩
  have HV_ := Aside0.mk (Kd.R_far (p := ⟨g7, 2, none⟩) HV.out (fun k hk => Nat.ne_of_gt hk) (.int .i64 (x.f1.length : Int)))
  clear HV
  clear HX CB7 v20 v21 v30 v31 v32 v33 v40 v41 f40 f41 v70 v71 v72 f70 f71 f72
  generalize W2.setCell ⟨g7, 2, none⟩ (.int .i64 (x.f1.length : Int)) = W3 at *
  have HX := HX_
  have CB7 := CB7_
  clear HX_ CB7_
  have HV := HV_
  clear HV_
  obtain ⟨v20, v21, v30, v31, v32, v33, v40, v41, f40, f41⟩ := HX.out.vis
  obtain ⟨v70, v71, v72, f70, f71, f72⟩ := vis7 CB7.out
  go_wp2_with (first
    | (go_at_call 39; (with_reducible refine (dragnetref16_with.calls _ a0_0 A0_1 c0_1 l0_1 x.f0 (fun k => g7 < k) A1 c1 x.f1 (x.f1.length : Int) a0_0 r2 _ (Kd.C_below HR.out HX.out.B) HC.out (Kd.R_V HV.out) HW.out).mono ?_); rintro e w20 ⟨v20_, rfl, hN, hb⟩; obtain ⟨A20, c20, rfl⟩ := Kd.N_slice hN; have HN := Aside0.mk (Kd.N_mono hN (ok' := fun k => g7 < k) (fun k hk => by have := blk_lt CB7.out; rcases hk with hk | hk <;> omega)); clear hN; have HX_ := Aside0.mk (HX.out.step hb); have CB7_ := Aside0.mk (blk_below CB7.out hb); clear HX CB7 hb v20 v21 v30 v31 v32 v33 v40 v41 f40 f41 v70 v71 v72 f70 f71 f72; have HX := HX_; have CB7 := CB7_; clear HX_ CB7_; obtain ⟨v20, v21, v30, v31, v32, v33, v40, v41, f40, f41⟩ := HX.out.vis; obtain ⟨v70, v71, v72, f70, f71, f72⟩ := vis7 CB7.out))
  refine bodyPost_ret (results_ct rfl _ _ g4 24 #[.int .i64 a0_0, .slice A20 r2.length c20] (0, 0) _ rfl (blk_put (cs := #[.int .i64 a0_0, .slice none 0 0]) (blk_put (cs := #[.int .i64 0, .slice none 0 0]) HX.out.c4 0 _ rfl) 1 _ rfl) Try.underlying24 rfl (by kernel_rfl)) rfl ?_
  exact ⟨_, rfl, Kd.V_mono (Kd.V_far (p := ⟨g4, 1, none⟩) (Kd.V_far (p := ⟨g4, 0, none⟩) (N_V HN.out) (fun k hk => Nat.ne_of_gt (Nat.lt_trans G7.out hk)) _) (fun k hk => Nat.ne_of_gt (Nat.lt_trans G7.out hk)) _) (fun k hk => Nat.le_of_lt (Nat.lt_of_le_of_lt HX.out.l (Nat.lt_trans G7.out hk))), below_set (below_set HX.out.B HX.out.l) HX.out.l⟩
set_option maxHeartbeats 4000000 in
set_option maxRecDepth 100000 in
theorem rd_remove (a0_0 : Int) (A0_1 : Option Addr) (c0_1 : Nat) (l0_1 : List S61) (a1_0 : Int) (a1_1 : ByteArray) (a1_2 : ByteArray) (A1_3 : Option Addr) (c1_3 : Nat) (l1_3 : List Int) (r1 : Int) (r2 : List S61) (r3 : Int) (w : World) (hr0_1 : Kd.C k61 w A0_1 l0_1.length l0_1) (hc0_1 : l0_1.length ≤ c0_1) (hr1_3 : Kd.C (Kd.int .u8) w A1_3 l1_3.length l1_3) (hc1_3 : l1_3.length ≤ c1_3) (hs : Far l0_1) (hf : FormedR a0_0 l0_1) (hn : nmd a1_1) (hfo : foundS l0_1 a1_1 = true) (hk : a1_0 = 4) (hw : dragnetref16_without.f (l0_1.length + 1) a0_0 l0_1 a1_1 = some (a0_0, r2)) (h1_ : a0_0 = r1) (h3_ : 0 = r3) :
    Calls Try.prog 13 #[.agg #[.int .i64 a0_0, .slice A0_1 l0_1.length c0_1], .agg #[.int .i64 a1_0, .string a1_1, .string a1_2, .slice A1_3 l1_3.length c1_3]] w fun e w' => ∃ v1_ : Value, e = .returned (.tuple #[.agg #[.int .i64 r1, v1_], .int .i64 r3]) ∧ Kd.V k61 61 w' w.heap.size (fun k_ => w.heap.size ≤ k_) v1_ r2 ∧ Below w.heap.size w w' := by
  have HR := Aside0.mk hr0_1
  have HC := Aside0.mk hc0_1
  have HR3 := Aside0.mk hr1_3
  have HC3 := Aside0.mk hc1_3
  have HB := Aside0.mk (Below.refl w.heap.size w)
  clear hr0_1 hc0_1 hr1_3 hc1_3
  have hu24 := Try.underlying24
  have hu27 := Try.underlying27
  have hu61 := Try.underlying61
  have hfl := field24
  obtain ⟨i, hi⟩ : ∃ i, i = idxS l0_1 a1_1 := ⟨_, rfl⟩
  have hin : i < l0_1.length := by rw [hi]; exact found_lt hfo
  have HIN := Aside0.mk hin
  have hl256 := hf.2.2.2.1
  obtain ⟨x, hx⟩ : ∃ x, x = rd_T61 l0_1 (i : Int) := ⟨_, rfl⟩
  have HXX := Aside0.mk hx
  have i0 := eq_true (show (0 : Int) ≤ (i : Int) by omega)
  have i1 := eq_true (show (i : Int) < (l0_1.length : Int) by omega)
  have im : decide ((i : Int) < 0) = false := decide_eq_false (by omega)
  have hlen := hs.1
  have HCP := Aside0.mk (copy_plain a0_0 l0_1 hs.reach)
  have hk1 : decide (a1_0 < 1) = false := decide_eq_false (by omega)
  have hk4 : decide (4 < a1_0) = false := decide_eq_false (by omega)
  have hq1 : decide (a1_0 = 1) = false := decide_eq_false (by omega)
  have hq1b : (a1_0 == 1) = false := by simp; omega
  have hq2 : decide (a1_0 = 2) = false := decide_eq_false (by omega)
  have hq2b : (a1_0 == 2) = false := by simp; omega
  have hq3 : decide (a1_0 = 3) = false := decide_eq_false (by omega)
  have hq3b : (a1_0 == 3) = false := by simp; omega
  have hq4 : decide (a1_0 = 4) = true := decide_eq_true (by omega)
  have hq4b : (a1_0 == 4) = true := by simp; omega
  have hne1 : decide (a1_0 ≠ 1) = true := decide_eq_true (by omega)
  have hne1b : (a1_0 != 1) = true := by simp; omega
  have HP := Aside0.mk (show dragnetref16_place.f (l0_1.length + 1) a0_0 l0_1 a1_1 = some (i : Int) by rw [place_plain a0_0 l0_1 a1_1 (formed_srt hf) (by have := hs.1; omega), hfo, ← hi]; rfl)
  have HF := Aside0.mk (show dragnetref16_Formed.f a0_0 l0_1 = some true by unfold dragnetref16_Formed.f; rw [if_pos (by have := hs.1; omega), decide_eq_true hf])
  have HN := Aside0.mk (show dragnetref16_named.f a1_1 = some true by rw [rnamed, decide_eq_true hn])
  have HW := Aside0.mk hw
  clear hw
  clear hl256 hlen hin hx hi hs hf hn hk hfo
  subst h1_
  subst h3_
  go_enter Try.func13, Try.ntmps13
  go_upto_region 7 with (first
    | ((with_reducible refine gate_dst (N := 2) rfl ?_); refine box_event ?hg (N := 2) ?hd (cs := #[.int .i64 a0_0, .slice A0_1 l0_1.length c0_1]) (t := 24) ?hr ?_; (case hd => rfl); (case hg => rfl); (case hr => first | (go_simp; done) | (go_simp; rfl)); intro g2 hg2 w2 hbox hb; have HB2 := Aside0.mk (below_step HB.out hb); have CB2 := Aside0.mk hbox; have G2 := Aside0.mk (show w.heap.size ≤ g2 by rw [hg2]; exact below_size HB.out); clear hb hbox hg2 HB; have HB := HB2; clear HB2)
    | ((with_reducible refine gate_dst (N := 3) rfl ?_); refine box_event ?hg (N := 3) ?hd (cs := #[.int .i64 a1_0, .string a1_1, .string a1_2, .slice A1_3 l1_3.length c1_3]) (t := 27) ?hr ?_; (case hd => rfl); (case hg => rfl); (case hr => first | (go_simp; done) | (go_simp; rfl)); intro g3 hg3 w3 hbox hb; have HB3 := Aside0.mk (below_step HB.out hb); have CB3 := Aside0.mk hbox; have G23 := Aside0.mk (show g2 < g3 by rw [hg3]; exact blk_lt CB2.out); have CB2_ := Aside0.mk (blk_below CB2.out hb); clear hb hbox hg3 HB CB2; have HB := HB3; have CB2 := CB2_; clear HB3 CB2_)
    | ((with_reducible refine gate_dst (N := 4) rfl ?_); refine box_event ?hg (N := 4) ?hd (cs := #[.int .i64 0, .slice none 0 0]) (t := 24) ?hr ?_; (case hd => rfl); (case hg => rfl); (case hr => first | (go_simp; done) | (go_simp; rfl)); intro g4 hg4 w4 hbox hb; have HX := Aside0.mk (Rbox.mk (below_step HB.out hb) (blk_below CB2.out hb) (blk_below CB3.out hb) hbox G2.out G23.out (show g3 < g4 by rw [hg4]; exact blk_lt CB3.out)); clear hb hbox hg4 HB CB2 CB3 G2 G23; obtain ⟨v20, v21, v30, v31, v32, v33, v40, v41, f40, f41⟩ := HX.out.vis)
    | (go_at_call 22; (with_reducible refine (dragnetref16_Formed.calls a0_0 A0_1 c0_1 l0_1 true _ (Kd.C_below HR.out HX.out.B) HC.out HF.out).mono ?_); rintro e w5 ⟨rfl, hb⟩; have HX_ := Aside0.mk (HX.out.step hb); clear HX hb v20 v21 v30 v31 v32 v33 v40 v41 f40 f41; have HX := HX_; clear HX_; obtain ⟨v20, v21, v30, v31, v32, v33, v40, v41, f40, f41⟩ := HX.out.vis)
    | (go_at_call 37; (with_reducible refine (dragnetref16_named.calls a1_1 true _ HN.out).mono ?_); rintro e w6 ⟨rfl, hd⟩; have hb := Drawn0.below hd; clear hd; have HX_ := Aside0.mk (HX.out.step hb); clear HX hb v20 v21 v30 v31 v32 v33 v40 v41 f40 f41; have HX := HX_; clear HX_; obtain ⟨v20, v21, v30, v31, v32, v33, v40, v41, f40, f41⟩ := HX.out.vis)
    | (go_at_call 38; (with_reducible refine (dragnetref16_place.calls _ a0_0 A0_1 c0_1 l0_1 a1_1 _ _ (Kd.C_below HR.out HX.out.B) HC.out HP.out).mono ?_); rintro e w8 ⟨rfl, hb⟩; have HX_ := Aside0.mk (HX.out.step hb); clear HX hb v20 v21 v30 v31 v32 v33 v40 v41 f40 f41; have HX := HX_; clear HX_; obtain ⟨v20, v21, v30, v31, v32, v33, v40, v41, f40, f41⟩ := HX.out.vis)
    | ((with_reducible refine gate_dst (N := 7) rfl ?_); refine box_event ?hg (N := 7) ?hd (cs := #[.string ⟨#[]⟩, .slice none 0 0, .int .i64 0]) (t := 61) ?hr ?_; (case hd => rfl); (case hg => rfl); (case hr => first | (go_simp; done) | (go_simp; rfl)); intro g7 hg7 w9 hbox hb; have CB7 := Aside0.mk hbox; have G7 := Aside0.mk (show g4 < g7 by rw [hg7]; exact blk_lt HX.out.c4); have HX_ := Aside0.mk (HX.out.step hb); clear hbox hg7 hb HX v20 v21 v30 v31 v32 v33 v40 v41 f40 f41; have HX := HX_; clear HX_; obtain ⟨v20, v21, v30, v31, v32, v33, v40, v41, f40, f41⟩ := HX.out.vis; obtain ⟨v70, v71, v72, f70, f71, f72⟩ := vis7 CB7.out))
  have HX_ : Aside0 (Rbox w g2 g3 g4 #[.int .i64 a0_0, .slice A0_1 l0_1.length c0_1] #[.int .i64 a1_0, .string a1_1, .string a1_2, .slice A1_3 l1_3.length c1_3] #[.int .i64 0, .slice none 0 0] (((w9.setCell ⟨g7, 0, none⟩ (.string a1_1)).setCell ⟨g7, 1, none⟩ (.slice none 0 0)).setCell ⟨g7, 2, none⟩ (.int .i64 0))) := ⟨(Rbox.far (Rbox.far (Rbox.far HX.out G7.out 0 (.string a1_1)) G7.out 1 (.slice none 0 0)) G7.out 2 (.int .i64 0))⟩
  have CB7_ : Aside0 ((((w9.setCell ⟨g7, 0, none⟩ (.string a1_1)).setCell ⟨g7, 1, none⟩ (.slice none 0 0)).setCell ⟨g7, 2, none⟩ (.int .i64 0)).heap[g7]? = some (.cells #[.string a1_1, .slice none 0 0, .int .i64 0] 61 (0, 0))) := ⟨(blk_put (cs := #[.string a1_1, .slice none 0 0, .int .i64 0]) (blk_put (cs := #[.string a1_1, .slice none 0 0, .int .i64 0]) (blk_put (cs := #[.string ⟨#[]⟩, .slice none 0 0, .int .i64 0]) CB7.out 0 (.string a1_1) rfl) 1 (.slice none 0 0) rfl) 2 (.int .i64 0) rfl)⟩
  clear HX CB7 v20 v21 v30 v31 v32 v33 v40 v41 f40 f41 v70 v71 v72 f70 f71 f72
  generalize ((w9.setCell ⟨g7, 0, none⟩ (.string a1_1)).setCell ⟨g7, 1, none⟩ (.slice none 0 0)).setCell ⟨g7, 2, none⟩ (.int .i64 0) = W1 at *
  have HX := HX_
  have CB7 := CB7_
  clear HX_ CB7_
  obtain ⟨v20, v21, v30, v31, v32, v33, v40, v41, f40, f41⟩ := HX.out.vis
  obtain ⟨v70, v71, v72, f70, f71, f72⟩ := vis7 CB7.out
  have HB0 := Aside0.mk (below_size HX.out.B)
  go_upto_region 9 with (first
    | (go_at_call 10; (with_reducible refine (dragnetref16_Copy.calls _ a0_0 A0_1 c0_1 l0_1 a0_0 l0_1 _ (Kd.C_below HR.out HX.out.B) HC.out HCP.out).mono ?_); rintro e w10 ⟨v10, rfl, hS, hb⟩; obtain ⟨A10, c10, rfl⟩ := Kd.S_slice hS; have HS := Aside0.mk (Kd.S_mono (Kd.S_bound hS) (ok' := fun k => g7 < k) (fun k hk => by have := hk.2.1; have := blk_lt CB7.out; omega)); clear hS; have HX_ := Aside0.mk (HX.out.step hb); have CB7_ := Aside0.mk (blk_below CB7.out hb); clear HX CB7 hb v20 v21 v30 v31 v32 v33 v40 v41 f40 f41 v70 v71 v72 f70 f71 f72; have HX := HX_; have CB7 := CB7_; clear HX_ CB7_; obtain ⟨v20, v21, v30, v31, v32, v33, v40, v41, f40, f41⟩ := HX.out.vis; obtain ⟨v70, v71, v72, f70, f71, f72⟩ := vis7 CB7.out; obtain ⟨go, cap, hv, GO1, GO2, _⟩ := Kd.S_form HS.out (by have := HIN.out; omega); injection hv with e1 e2 e3; subst e1; subst e3; clear e2 GO1 GO2; obtain ⟨oki, c, hcl, hM, hcc, hfr, hoki, hH⟩ := Kd.S_elem HS.out z61 (i : Int) (by omega) (by have := HIN.out; omega); rw [show l0_1.getD (i : Int).toNat z61 = x from HXX.out.symm] at hM; obtain ⟨v1, rfl, hv1⟩ := k61_openM hM; obtain ⟨A1, c1, rfl⟩ := Kd.R_slice hv1; have HV := Aside0.mk (Kd.R_lower (Kd.R_mono hv1 (ok' := fun k => g7 < k) (fun k hk => (hoki k hk).1)) HB0.out); have hz0 : w10.cell? ⟨go, i * 3, none⟩ = some (.string x.f0) := hcc 0 _ rfl; have hz1 : w10.cell? ⟨go, i * 3 + 1, none⟩ = some (.slice A1 x.f1.length c1) := hcc 1 _ rfl; have hz2 : w10.cell? ⟨go, i * 3 + 2, none⟩ = some (.int .i64 x.f2) := hcc 2 _ rfl; clear hcl hM hcc hfr hoki hH hv1))
  have HX_ : Aside0 (Rbox w g2 g3 g4 #[.int .i64 a0_0, .slice A0_1 l0_1.length c0_1] #[.int .i64 a1_0, .string a1_1, .string a1_2, .slice A1_3 l1_3.length c1_3] #[.int .i64 0, .slice none 0 0] (((w10.setCell ⟨g7, 0, none⟩ (.string x.f0)).setCell ⟨g7, 1, none⟩ (.slice A1 x.f1.length c1)).setCell ⟨g7, 2, none⟩ (.int .i64 x.f2))) := ⟨(Rbox.far (Rbox.far (Rbox.far HX.out G7.out 0 (.string x.f0)) G7.out 1 (.slice A1 x.f1.length c1)) G7.out 2 (.int .i64 x.f2))⟩
  have CB7_ : Aside0 ((((w10.setCell ⟨g7, 0, none⟩ (.string x.f0)).setCell ⟨g7, 1, none⟩ (.slice A1 x.f1.length c1)).setCell ⟨g7, 2, none⟩ (.int .i64 x.f2)).heap[g7]? = some (.cells #[.string x.f0, .slice A1 x.f1.length c1, .int .i64 x.f2] 61 (0, 0))) := ⟨(blk_put (cs := #[.string x.f0, .slice A1 x.f1.length c1, .int .i64 0]) (blk_put (cs := #[.string x.f0, .slice none 0 0, .int .i64 0]) (blk_put (cs := #[.string a1_1, .slice none 0 0, .int .i64 0]) CB7.out 0 (.string x.f0) rfl) 1 (.slice A1 x.f1.length c1) rfl) 2 (.int .i64 x.f2) rfl)⟩
  have HV_ := Aside0.mk (Kd.R_far (p := ⟨g7, 2, none⟩) (Kd.R_far (p := ⟨g7, 1, none⟩) (Kd.R_far (p := ⟨g7, 0, none⟩) HV.out (fun k hk => Nat.ne_of_gt hk) (.string x.f0)) (fun k hk => Nat.ne_of_gt hk) (.slice A1 x.f1.length c1)) (fun k hk => Nat.ne_of_gt hk) (.int .i64 x.f2))
  clear HV
  clear HX CB7 v20 v21 v30 v31 v32 v33 v40 v41 f40 f41 v70 v71 v72 f70 f71 f72
  clear hz0 hz1 hz2 HS
  generalize ((w10.setCell ⟨g7, 0, none⟩ (.string x.f0)).setCell ⟨g7, 1, none⟩ (.slice A1 x.f1.length c1)).setCell ⟨g7, 2, none⟩ (.int .i64 x.f2) = W2 at *
  have HX := HX_
  have CB7 := CB7_
  clear HX_ CB7_
  have HV := HV_
  clear HV_
  obtain ⟨v20, v21, v30, v31, v32, v33, v40, v41, f40, f41⟩ := HX.out.vis
  obtain ⟨v70, v71, v72, f70, f71, f72⟩ := vis7 CB7.out
  go_wp2_with (first
    | (go_at_call 40; (with_reducible refine (dragnetref16_without.calls _ a0_0 A0_1 c0_1 l0_1 a1_1 a0_0 r2 _ (Kd.C_below HR.out HX.out.B) HC.out HW.out).mono ?_); rintro e w20 ⟨v20_, rfl, hN, hb⟩; obtain ⟨A20, c20, rfl⟩ := Kd.N_slice hN; have HN := Aside0.mk (Kd.N_mono hN (ok' := fun k => g7 < k) (fun k hk => by have := blk_lt CB7.out; omega)); clear hN; have HX_ := Aside0.mk (HX.out.step hb); have CB7_ := Aside0.mk (blk_below CB7.out hb); clear HX CB7 hb v20 v21 v30 v31 v32 v33 v40 v41 f40 f41 v70 v71 v72 f70 f71 f72; have HX := HX_; have CB7 := CB7_; clear HX_ CB7_; obtain ⟨v20, v21, v30, v31, v32, v33, v40, v41, f40, f41⟩ := HX.out.vis; obtain ⟨v70, v71, v72, f70, f71, f72⟩ := vis7 CB7.out))
  refine bodyPost_ret (results_ct rfl _ _ g4 24 #[.int .i64 a0_0, .slice A20 r2.length c20] (0, 0) _ rfl (blk_put (cs := #[.int .i64 a0_0, .slice none 0 0]) (blk_put (cs := #[.int .i64 0, .slice none 0 0]) HX.out.c4 0 _ rfl) 1 _ rfl) Try.underlying24 rfl (by kernel_rfl)) rfl ?_
  exact ⟨_, rfl, Kd.V_mono (Kd.V_far (p := ⟨g4, 1, none⟩) (Kd.V_far (p := ⟨g4, 0, none⟩) (N_V HN.out) (fun k hk => Nat.ne_of_gt (Nat.lt_trans G7.out hk)) _) (fun k hk => Nat.ne_of_gt (Nat.lt_trans G7.out hk)) _) (fun k hk => Nat.le_of_lt (Nat.lt_of_le_of_lt HX.out.l (Nat.lt_trans G7.out hk))), below_set (below_set HX.out.B HX.out.l) HX.out.l⟩
set_option maxHeartbeats 4000000 in
set_option maxRecDepth 100000 in
theorem rd_bad9 (a0_0 : Int) (A0_1 : Option Addr) (c0_1 : Nat) (l0_1 : List S61) (a1_0 : Int) (a1_1 : ByteArray) (a1_2 : ByteArray) (A1_3 : Option Addr) (c1_3 : Nat) (l1_3 : List Int) (r1 : Int) (r2 : List S61) (r3 : Int) (w : World) (hr0_1 : Kd.C k61 w A0_1 l0_1.length l0_1) (hc0_1 : l0_1.length ≤ c0_1) (hr1_3 : Kd.C (Kd.int .u8) w A1_3 l1_3.length l1_3) (hc1_3 : l1_3.length ≤ c1_3) (hs : Far l0_1) (hf : FormedR a0_0 l0_1) (hn : nmd a1_1) (hfo : foundS l0_1 a1_1 = true) (hk : a1_0 = 1) (hm_ : l1_3.length ≤ 140737488351232) (hsp : totS l0_1 + (l1_3.length : Int) > a0_0) (he : (([] : List S61), (11 : Int)) = (r2, r3)) (h1_ : 0 = r1) :
    Calls Try.prog 13 #[.agg #[.int .i64 a0_0, .slice A0_1 l0_1.length c0_1], .agg #[.int .i64 a1_0, .string a1_1, .string a1_2, .slice A1_3 l1_3.length c1_3]] w fun e w' => ∃ v1_ : Value, e = .returned (.tuple #[.agg #[.int .i64 r1, v1_], .int .i64 r3]) ∧ Kd.V k61 61 w' w.heap.size (fun k_ => w.heap.size ≤ k_) v1_ r2 ∧ Below w.heap.size w w' := by
  have HR := Aside0.mk hr0_1
  have HC := Aside0.mk hc0_1
  have HR3 := Aside0.mk hr1_3
  have HC3 := Aside0.mk hc1_3
  have HB := Aside0.mk (Below.refl w.heap.size w)
  clear hr0_1 hc0_1 hr1_3 hc1_3
  have hu24 := Try.underlying24
  have hu27 := Try.underlying27
  have hu61 := Try.underlying61
  have hfl := field24
  obtain ⟨i, hi⟩ : ∃ i, i = idxS l0_1 a1_1 := ⟨_, rfl⟩
  have hin : i < l0_1.length := by rw [hi]; exact found_lt hfo
  have HIN := Aside0.mk hin
  have hl256 := hf.2.2.2.1
  obtain ⟨x, hx⟩ : ∃ x, x = rd_T61 l0_1 (i : Int) := ⟨_, rfl⟩
  have HXX := Aside0.mk hx
  have i0 := eq_true (show (0 : Int) ≤ (i : Int) by omega)
  have i1 := eq_true (show (i : Int) < (l0_1.length : Int) by omega)
  have im : decide ((i : Int) < 0) = false := decide_eq_false (by omega)
  have hlen := hs.1
  have HCP := Aside0.mk (copy_plain a0_0 l0_1 hs.reach)
  have hk1 : decide (a1_0 < 1) = false := decide_eq_false (by omega)
  have hk4 : decide (4 < a1_0) = false := decide_eq_false (by omega)
  have hq1 : decide (a1_0 = 1) = true := decide_eq_true (by omega)
  have hq1b : (a1_0 == 1) = true := by simp; omega
  have hq2 : decide (a1_0 = 2) = false := decide_eq_false (by omega)
  have hq2b : (a1_0 == 2) = false := by simp; omega
  have hq3 : decide (a1_0 = 3) = false := decide_eq_false (by omega)
  have hq3b : (a1_0 == 3) = false := by simp; omega
  have hq4 : decide (a1_0 = 4) = false := decide_eq_false (by omega)
  have hq4b : (a1_0 == 4) = false := by simp; omega
  have hne1 : decide (a1_0 ≠ 1) = false := decide_eq_false (by omega)
  have hne1b : (a1_0 != 1) = false := by simp; omega
  have HP := Aside0.mk (show dragnetref16_place.f (l0_1.length + 1) a0_0 l0_1 a1_1 = some (i : Int) by rw [place_plain a0_0 l0_1 a1_1 (formed_srt hf) (by have := hs.1; omega), hfo, ← hi]; rfl)
  have HF := Aside0.mk (show dragnetref16_Formed.f a0_0 l0_1 = some true by unfold dragnetref16_Formed.f; rw [if_pos (by have := hs.1; omega), decide_eq_true hf])
  have HN := Aside0.mk (show dragnetref16_named.f a1_1 = some true by rw [rnamed, decide_eq_true hn])
  have hm := hm_
  have HU := Aside0.mk (show dragnetref16_Used.f (l0_1.length + 1) a0_0 l0_1 = some (totS l0_1) by rw [ref_used a0_0 l0_1 hs.reach, if_pos hf])
  have hwu : IntKind.i64.wrap (a0_0 - totS l0_1) = a0_0 - totS l0_1 := by have := tot_nonneg l0_1; have := hf.2.2.1; have := hf.2.2.2.2; have := hf.2.1; rw [IntKind.wrap_i64]; omega
  have hgt : decide (a0_0 - totS l0_1 < (l1_3.length : Int)) = true := decide_eq_true (by omega)
  clear hsp hm hm_
  injection he with he1 he2
  clear hl256 hlen hin hx hi hs hf hn hk hfo
  subst h1_
  subst he1
  subst he2
  go_enter Try.func13, Try.ntmps13
  go_upto_region 7 with (first
    | ((with_reducible refine gate_dst (N := 2) rfl ?_); refine box_event ?hg (N := 2) ?hd (cs := #[.int .i64 a0_0, .slice A0_1 l0_1.length c0_1]) (t := 24) ?hr ?_; (case hd => rfl); (case hg => rfl); (case hr => first | (go_simp; done) | (go_simp; rfl)); intro g2 hg2 w2 hbox hb; have HB2 := Aside0.mk (below_step HB.out hb); have CB2 := Aside0.mk hbox; have G2 := Aside0.mk (show w.heap.size ≤ g2 by rw [hg2]; exact below_size HB.out); clear hb hbox hg2 HB; have HB := HB2; clear HB2)
    | ((with_reducible refine gate_dst (N := 3) rfl ?_); refine box_event ?hg (N := 3) ?hd (cs := #[.int .i64 a1_0, .string a1_1, .string a1_2, .slice A1_3 l1_3.length c1_3]) (t := 27) ?hr ?_; (case hd => rfl); (case hg => rfl); (case hr => first | (go_simp; done) | (go_simp; rfl)); intro g3 hg3 w3 hbox hb; have HB3 := Aside0.mk (below_step HB.out hb); have CB3 := Aside0.mk hbox; have G23 := Aside0.mk (show g2 < g3 by rw [hg3]; exact blk_lt CB2.out); have CB2_ := Aside0.mk (blk_below CB2.out hb); clear hb hbox hg3 HB CB2; have HB := HB3; have CB2 := CB2_; clear HB3 CB2_)
    | ((with_reducible refine gate_dst (N := 4) rfl ?_); refine box_event ?hg (N := 4) ?hd (cs := #[.int .i64 0, .slice none 0 0]) (t := 24) ?hr ?_; (case hd => rfl); (case hg => rfl); (case hr => first | (go_simp; done) | (go_simp; rfl)); intro g4 hg4 w4 hbox hb; have HX := Aside0.mk (Rbox.mk (below_step HB.out hb) (blk_below CB2.out hb) (blk_below CB3.out hb) hbox G2.out G23.out (show g3 < g4 by rw [hg4]; exact blk_lt CB3.out)); clear hb hbox hg4 HB CB2 CB3 G2 G23; obtain ⟨v20, v21, v30, v31, v32, v33, v40, v41, f40, f41⟩ := HX.out.vis)
    | (go_at_call 22; (with_reducible refine (dragnetref16_Formed.calls a0_0 A0_1 c0_1 l0_1 true _ (Kd.C_below HR.out HX.out.B) HC.out HF.out).mono ?_); rintro e w5 ⟨rfl, hb⟩; have HX_ := Aside0.mk (HX.out.step hb); clear HX hb v20 v21 v30 v31 v32 v33 v40 v41 f40 f41; have HX := HX_; clear HX_; obtain ⟨v20, v21, v30, v31, v32, v33, v40, v41, f40, f41⟩ := HX.out.vis)
    | (go_at_call 37; (with_reducible refine (dragnetref16_named.calls a1_1 true _ HN.out).mono ?_); rintro e w6 ⟨rfl, hd⟩; have hb := Drawn0.below hd; clear hd; have HX_ := Aside0.mk (HX.out.step hb); clear HX hb v20 v21 v30 v31 v32 v33 v40 v41 f40 f41; have HX := HX_; clear HX_; obtain ⟨v20, v21, v30, v31, v32, v33, v40, v41, f40, f41⟩ := HX.out.vis)
    | (go_at_call 38; (with_reducible refine (dragnetref16_place.calls _ a0_0 A0_1 c0_1 l0_1 a1_1 _ _ (Kd.C_below HR.out HX.out.B) HC.out HP.out).mono ?_); rintro e w8 ⟨rfl, hb⟩; have HX_ := Aside0.mk (HX.out.step hb); clear HX hb v20 v21 v30 v31 v32 v33 v40 v41 f40 f41; have HX := HX_; clear HX_; obtain ⟨v20, v21, v30, v31, v32, v33, v40, v41, f40, f41⟩ := HX.out.vis)
    | ((with_reducible refine gate_dst (N := 7) rfl ?_); refine box_event ?hg (N := 7) ?hd (cs := #[.string ⟨#[]⟩, .slice none 0 0, .int .i64 0]) (t := 61) ?hr ?_; (case hd => rfl); (case hg => rfl); (case hr => first | (go_simp; done) | (go_simp; rfl)); intro g7 hg7 w9 hbox hb; have CB7 := Aside0.mk hbox; have G7 := Aside0.mk (show g4 < g7 by rw [hg7]; exact blk_lt HX.out.c4); have HX_ := Aside0.mk (HX.out.step hb); clear hbox hg7 hb HX v20 v21 v30 v31 v32 v33 v40 v41 f40 f41; have HX := HX_; clear HX_; obtain ⟨v20, v21, v30, v31, v32, v33, v40, v41, f40, f41⟩ := HX.out.vis; obtain ⟨v70, v71, v72, f70, f71, f72⟩ := vis7 CB7.out))
  have HX_ : Aside0 (Rbox w g2 g3 g4 #[.int .i64 a0_0, .slice A0_1 l0_1.length c0_1] #[.int .i64 a1_0, .string a1_1, .string a1_2, .slice A1_3 l1_3.length c1_3] #[.int .i64 0, .slice none 0 0] (((w9.setCell ⟨g7, 0, none⟩ (.string a1_1)).setCell ⟨g7, 1, none⟩ (.slice none 0 0)).setCell ⟨g7, 2, none⟩ (.int .i64 0))) := ⟨(Rbox.far (Rbox.far (Rbox.far HX.out G7.out 0 (.string a1_1)) G7.out 1 (.slice none 0 0)) G7.out 2 (.int .i64 0))⟩
  have CB7_ : Aside0 ((((w9.setCell ⟨g7, 0, none⟩ (.string a1_1)).setCell ⟨g7, 1, none⟩ (.slice none 0 0)).setCell ⟨g7, 2, none⟩ (.int .i64 0)).heap[g7]? = some (.cells #[.string a1_1, .slice none 0 0, .int .i64 0] 61 (0, 0))) := ⟨(blk_put (cs := #[.string a1_1, .slice none 0 0, .int .i64 0]) (blk_put (cs := #[.string a1_1, .slice none 0 0, .int .i64 0]) (blk_put (cs := #[.string ⟨#[]⟩, .slice none 0 0, .int .i64 0]) CB7.out 0 (.string a1_1) rfl) 1 (.slice none 0 0) rfl) 2 (.int .i64 0) rfl)⟩
  clear HX CB7 v20 v21 v30 v31 v32 v33 v40 v41 f40 f41 v70 v71 v72 f70 f71 f72
  generalize ((w9.setCell ⟨g7, 0, none⟩ (.string a1_1)).setCell ⟨g7, 1, none⟩ (.slice none 0 0)).setCell ⟨g7, 2, none⟩ (.int .i64 0) = W1 at *
  have HX := HX_
  have CB7 := CB7_
  clear HX_ CB7_
  obtain ⟨v20, v21, v30, v31, v32, v33, v40, v41, f40, f41⟩ := HX.out.vis
  obtain ⟨v70, v71, v72, f70, f71, f72⟩ := vis7 CB7.out
  have HB0 := Aside0.mk (below_size HX.out.B)
  go_upto_region 9 with (first
    | (go_at_call 10; (with_reducible refine (dragnetref16_Copy.calls _ a0_0 A0_1 c0_1 l0_1 a0_0 l0_1 _ (Kd.C_below HR.out HX.out.B) HC.out HCP.out).mono ?_); rintro e w10 ⟨v10, rfl, hS, hb⟩; obtain ⟨A10, c10, rfl⟩ := Kd.S_slice hS; have HS := Aside0.mk (Kd.S_mono (Kd.S_bound hS) (ok' := fun k => g7 < k) (fun k hk => by have := hk.2.1; have := blk_lt CB7.out; omega)); clear hS; have HX_ := Aside0.mk (HX.out.step hb); have CB7_ := Aside0.mk (blk_below CB7.out hb); clear HX CB7 hb v20 v21 v30 v31 v32 v33 v40 v41 f40 f41 v70 v71 v72 f70 f71 f72; have HX := HX_; have CB7 := CB7_; clear HX_ CB7_; obtain ⟨v20, v21, v30, v31, v32, v33, v40, v41, f40, f41⟩ := HX.out.vis; obtain ⟨v70, v71, v72, f70, f71, f72⟩ := vis7 CB7.out; obtain ⟨go, cap, hv, GO1, GO2, _⟩ := Kd.S_form HS.out (by have := HIN.out; omega); injection hv with e1 e2 e3; subst e1; subst e3; clear e2 GO1 GO2; obtain ⟨oki, c, hcl, hM, hcc, hfr, hoki, hH⟩ := Kd.S_elem HS.out z61 (i : Int) (by omega) (by have := HIN.out; omega); rw [show l0_1.getD (i : Int).toNat z61 = x from HXX.out.symm] at hM; obtain ⟨v1, rfl, hv1⟩ := k61_openM hM; obtain ⟨A1, c1, rfl⟩ := Kd.R_slice hv1; have HV := Aside0.mk (Kd.R_lower (Kd.R_mono hv1 (ok' := fun k => g7 < k) (fun k hk => (hoki k hk).1)) HB0.out); have hz0 : w10.cell? ⟨go, i * 3, none⟩ = some (.string x.f0) := hcc 0 _ rfl; have hz1 : w10.cell? ⟨go, i * 3 + 1, none⟩ = some (.slice A1 x.f1.length c1) := hcc 1 _ rfl; have hz2 : w10.cell? ⟨go, i * 3 + 2, none⟩ = some (.int .i64 x.f2) := hcc 2 _ rfl; clear hcl hM hcc hfr hoki hH hv1))
  have HX_ : Aside0 (Rbox w g2 g3 g4 #[.int .i64 a0_0, .slice A0_1 l0_1.length c0_1] #[.int .i64 a1_0, .string a1_1, .string a1_2, .slice A1_3 l1_3.length c1_3] #[.int .i64 0, .slice none 0 0] (((w10.setCell ⟨g7, 0, none⟩ (.string x.f0)).setCell ⟨g7, 1, none⟩ (.slice A1 x.f1.length c1)).setCell ⟨g7, 2, none⟩ (.int .i64 x.f2))) := ⟨(Rbox.far (Rbox.far (Rbox.far HX.out G7.out 0 (.string x.f0)) G7.out 1 (.slice A1 x.f1.length c1)) G7.out 2 (.int .i64 x.f2))⟩
  have CB7_ : Aside0 ((((w10.setCell ⟨g7, 0, none⟩ (.string x.f0)).setCell ⟨g7, 1, none⟩ (.slice A1 x.f1.length c1)).setCell ⟨g7, 2, none⟩ (.int .i64 x.f2)).heap[g7]? = some (.cells #[.string x.f0, .slice A1 x.f1.length c1, .int .i64 x.f2] 61 (0, 0))) := ⟨(blk_put (cs := #[.string x.f0, .slice A1 x.f1.length c1, .int .i64 0]) (blk_put (cs := #[.string x.f0, .slice none 0 0, .int .i64 0]) (blk_put (cs := #[.string a1_1, .slice none 0 0, .int .i64 0]) CB7.out 0 (.string x.f0) rfl) 1 (.slice A1 x.f1.length c1) rfl) 2 (.int .i64 x.f2) rfl)⟩
  have HV_ := Aside0.mk (Kd.R_far (p := ⟨g7, 2, none⟩) (Kd.R_far (p := ⟨g7, 1, none⟩) (Kd.R_far (p := ⟨g7, 0, none⟩) HV.out (fun k hk => Nat.ne_of_gt hk) (.string x.f0)) (fun k hk => Nat.ne_of_gt hk) (.slice A1 x.f1.length c1)) (fun k hk => Nat.ne_of_gt hk) (.int .i64 x.f2))
  clear HV
  clear HX CB7 v20 v21 v30 v31 v32 v33 v40 v41 f40 f41 v70 v71 v72 f70 f71 f72
  clear hz0 hz1 hz2 HS
  generalize ((w10.setCell ⟨g7, 0, none⟩ (.string x.f0)).setCell ⟨g7, 1, none⟩ (.slice A1 x.f1.length c1)).setCell ⟨g7, 2, none⟩ (.int .i64 x.f2) = W2 at *
  have HX := HX_
  have CB7 := CB7_
  clear HX_ CB7_
  have HV := HV_
  clear HV_
  obtain ⟨v20, v21, v30, v31, v32, v33, v40, v41, f40, f41⟩ := HX.out.vis
  obtain ⟨v70, v71, v72, f70, f71, f72⟩ := vis7 CB7.out
  go_upto_region 13 with (first
    | fail)
  have HX_ := Aside0.mk HX.out.drew
  have CB7_ := Aside0.mk (blk_drew CB7.out)
  have HV_ := Aside0.mk (Kd.R_drew HV.out)
  clear HX CB7 HV
  have HX := HX_
  have CB7 := CB7_
  have HV := HV_
  clear HX_ CB7_ HV_
  refine start_ (n := 9) (S := fun w' => w'.cell? ⟨g2, 0, none⟩ = some (.int .i64 a0_0) ∧ w'.cell? ⟨g2, 1, none⟩ = some (.slice A0_1 l0_1.length c0_1) ∧ w'.cell? ⟨g3, 3, none⟩ = some (.slice A1_3 l1_3.length c1_3)) (ds := []) #[false, false, false, false, false, false, false, false, false] (by kernel_rfl) rfl rfl ⟨v20, v21, v33⟩ (fun hHeld => ?_)
  refine pure_ (i := 0) (N := some 75) (v := ?_) (a' := ?_) #[true, false, false, false, false, false, false, false, false] rfl rfl (by kernel_rfl) (fun _ _ _ h => h) (Or.inl ⟨by rfl, ?_⟩) ?_ ?_
  rotate_left
  · intro w'
    go_simp
    with_reducible rfl
  rotate_left
  · simp only [Act.put, List.setIfInBounds_toArray, List.set_cons_zero, List.set_cons_succ, i64_w, i32_w]
    rfl
  refine pure_ (i := 3) (N := some 78) (v := ?_) (a' := ?_) #[true, false, false, true, false, false, false, false, false] rfl rfl (by kernel_rfl) (fun _ _ _ h => h) (Or.inl ⟨by rfl, ?_⟩) ?_ ?_
  rotate_left
  · intro w'
    go_simp
    with_reducible rfl
  rotate_left
  · simp only [Act.put, List.setIfInBounds_toArray, List.set_cons_zero, List.set_cons_succ, i64_w, i32_w]
    rfl
  refine take_ (i := 1) (N := some 76) (v := ?_) (a' := ?_) #[true, true, false, true, false, false, false, false, false] rfl rfl (by kernel_rfl) (fun _ _ _ h => h) (Or.inl ⟨by rfl, ?_⟩) hHeld ?_ ?_
  rotate_left
  · rintro w' ⟨s0, s1, s2⟩
    go_simp
    with_reducible rfl
  rotate_left
  · simp only [Act.put, List.setIfInBounds_toArray, List.set_cons_zero, List.set_cons_succ, i64_w, i32_w]
    rfl
  refine pure_ (i := 2) (N := some 77) (v := ?_) (a' := ?_) #[true, true, true, true, false, false, false, false, false] rfl rfl (by kernel_rfl) (fun _ _ _ h => h) (Or.inl ⟨by rfl, ?_⟩) ?_ ?_
  rotate_left
  · intro w'
    go_simp
    with_reducible rfl
  rotate_left
  · simp only [Act.put, List.setIfInBounds_toArray, List.set_cons_zero, List.set_cons_succ, i64_w, i32_w]
    rfl
  refine take_ (i := 4) (N := some 79) (v := ?_) (a' := ?_) #[true, true, true, true, true, false, false, false, false] rfl rfl (by kernel_rfl) (fun _ _ _ h => h) (Or.inl ⟨by rfl, ?_⟩) hHeld ?_ ?_
  rotate_left
  · rintro w' ⟨s0, s1, s2⟩
    go_simp
    with_reducible rfl
  rotate_left
  · simp only [Act.put, List.setIfInBounds_toArray, List.set_cons_zero, List.set_cons_succ, i64_w, i32_w]
    rfl
  refine take_ (i := 5) (N := some 80) (v := ?_) (a' := ?_) #[true, true, true, true, true, true, false, false, false] rfl rfl (by kernel_rfl) (fun _ _ _ h => h) (Or.inl ⟨by rfl, ?_⟩) hHeld ?_ ?_
  rotate_left
  · rintro w' ⟨s0, s1, s2⟩
    go_simp
    with_reducible rfl
  rotate_left
  · simp only [Act.put, List.setIfInBounds_toArray, List.set_cons_zero, List.set_cons_succ, i64_w, i32_w]
    rfl
  refine one_ (i := 6) (N := some 81) #[true, true, true, true, true, true, true, false, false] rfl rfl (by kernel_rfl) (by decide) (fun K hK => ?_)
  refine goes_ Try.func25 (by kernel_rfl) rfl #[.agg #[.int .i64 a0_0, .slice A0_1 l0_1.length c0_1]] (by rfl) rfl rfl (by simp only [List.map_toArray, List.map_cons, List.map_nil]; rfl) ?_
  with_reducible refine (dragnetref16_Used.calls _ a0_0 A0_1 c0_1 l0_1 (totS l0_1) _ (Kd.C_below HR.out HX.out.B) HC.out HU.out).mono ?_
  rintro e w12 ⟨rfl, hb⟩
  refine ⟨_, rfl, ?_⟩
  have HB9 := Aside0.mk hb
  clear hb
  refine hK.out _ _ ⟨(pw_cell_below HB9.out v20), (pw_cell_below HB9.out v21), (pw_cell_below HB9.out v33)⟩ (fun hHeld => ?_)
  clear hK K
  refine norm_ (a' := ?_) ?_ ?_
  rotate_left
  · show Act.put _ (some 81) _ = _
    simp only [Act.put, List.setIfInBounds_toArray, List.set_cons_zero, List.set_cons_succ, i64_w, i32_w]
    rfl
  refine pure_ (i := 7) (N := some 82) (v := ?_) (a' := ?_) #[true, true, true, true, true, true, true, true, false] rfl rfl (by kernel_rfl) (fun _ _ _ h => h) (Or.inl ⟨by rfl, ?_⟩) ?_ ?_
  rotate_left
  · intro w'
    go_simp
    with_reducible rfl
  rotate_left
  · simp only [Act.put, List.setIfInBounds_toArray, List.set_cons_zero, List.set_cons_succ, i64_w, i32_w]
    rfl
  refine pure_ (i := 8) (N := some 83) (v := ?_) (a' := ?_) #[true, true, true, true, true, true, true, true, true] rfl rfl (by kernel_rfl) (fun _ _ _ h => h) (Or.inl ⟨by rfl, ?_⟩) ?_ ?_
  rotate_left
  · intro w'
    go_simp
    with_reducible rfl
  rotate_left
  · simp only [Act.put, List.setIfInBounds_toArray, List.set_cons_zero, List.set_cons_succ, i64_w, i32_w]
    rfl
  refine done_ (by kernel_rfl) ?_

  have hb := HB9.out
  clear HB9
  have HX_ := Aside0.mk (HX.out.step hb)
  have CB7_ := Aside0.mk (blk_below CB7.out hb)
  have HV_ := Aside0.mk (Kd.R_below HV.out hb)
  clear HV
  clear HX CB7 hb v20 v21 v30 v31 v32 v33 v40 v41 f40 f41 v70 v71 v72 f70 f71 f72
  have HX := HX_
  have CB7 := CB7_
  clear HX_ CB7_
  obtain ⟨v20, v21, v30, v31, v32, v33, v40, v41, f40, f41⟩ := HX.out.vis
  obtain ⟨v70, v71, v72, f70, f71, f72⟩ := vis7 CB7.out
  have HV := HV_
  clear HV_
  go_wp2
  refine bodyPost_ret (results_ct rfl _ _ g4 24 #[.int .i64 0, .slice none 0 0] (0, 0) _ rfl (blk_put (cs := #[.int .i64 0, .slice none 0 0]) (blk_put (cs := #[.int .i64 0, .slice none 0 0]) HX.out.c4 0 _ rfl) 1 _ rfl) Try.underlying24 rfl (by kernel_rfl)) rfl ?_
  exact ⟨_, rfl, Kd.V_nil _ _ _ _ _, below_set (below_set HX.out.B HX.out.l) HX.out.l⟩
set_option maxHeartbeats 4000000 in
set_option maxRecDepth 100000 in
theorem rd_bad10 (a0_0 : Int) (A0_1 : Option Addr) (c0_1 : Nat) (l0_1 : List S61) (a1_0 : Int) (a1_1 : ByteArray) (a1_2 : ByteArray) (A1_3 : Option Addr) (c1_3 : Nat) (l1_3 : List Int) (r1 : Int) (r2 : List S61) (r3 : Int) (w : World) (hr0_1 : Kd.C k61 w A0_1 l0_1.length l0_1) (hc0_1 : l0_1.length ≤ c0_1) (hr1_3 : Kd.C (Kd.int .u8) w A1_3 l1_3.length l1_3) (hc1_3 : l1_3.length ≤ c1_3) (hs : Far l0_1) (hf : FormedR a0_0 l0_1) (hn : nmd a1_1) (hfo : foundS l0_1 a1_1 = false) (hk : a1_0 = 1) (hl : l0_1.length ≠ 256) (hm_ : l1_3.length ≤ 140737488351232) (hsp : totS l0_1 + (l1_3.length : Int) > a0_0) (he : (0, [], 11) = (r1, r2, r3)) :
    Calls Try.prog 13 #[.agg #[.int .i64 a0_0, .slice A0_1 l0_1.length c0_1], .agg #[.int .i64 a1_0, .string a1_1, .string a1_2, .slice A1_3 l1_3.length c1_3]] w fun e w' => ∃ v1_ : Value, e = .returned (.tuple #[.agg #[.int .i64 r1, v1_], .int .i64 r3]) ∧ Kd.V k61 61 w' w.heap.size (fun k_ => w.heap.size ≤ k_) v1_ r2 ∧ Below w.heap.size w w' := by
  have HR := Aside0.mk hr0_1
  have HC := Aside0.mk hc0_1
  have HR3 := Aside0.mk hr1_3
  have HC3 := Aside0.mk hc1_3
  have HB := Aside0.mk (Below.refl w.heap.size w)
  clear hr0_1 hc0_1 hr1_3 hc1_3
  have hu24 := Try.underlying24
  have hu27 := Try.underlying27
  have hu61 := Try.underlying61
  have hfl := field24
  have hk1 : decide (a1_0 < 1) = false := decide_eq_false (by omega)
  have hk4 : decide (4 < a1_0) = false := decide_eq_false (by omega)
  have hq1 : decide (a1_0 = 1) = true := decide_eq_true (by omega)
  have hq1b : (a1_0 == 1) = true := by simp; omega
  have hq2 : decide (a1_0 = 2) = false := decide_eq_false (by omega)
  have hq2b : (a1_0 == 2) = false := by simp; omega
  have hq3 : decide (a1_0 = 3) = false := decide_eq_false (by omega)
  have hq3b : (a1_0 == 3) = false := by simp; omega
  have hq4 : decide (a1_0 = 4) = false := decide_eq_false (by omega)
  have hq4b : (a1_0 == 4) = false := by simp; omega
  have hne1 : decide (a1_0 ≠ 1) = false := decide_eq_false (by omega)
  have hne1b : (a1_0 != 1) = false := by simp; omega
  have HP := Aside0.mk (show dragnetref16_place.f (l0_1.length + 1) a0_0 l0_1 a1_1 = some (-1) by rw [place_plain a0_0 l0_1 a1_1 (formed_srt hf) (by have := hs.1; omega), hfo]; rfl)
  have HF := Aside0.mk (show dragnetref16_Formed.f a0_0 l0_1 = some true by unfold dragnetref16_Formed.f; rw [if_pos (by have := hs.1; omega), decide_eq_true hf])
  have HN := Aside0.mk (show dragnetref16_named.f a1_1 = some true by rw [rnamed, decide_eq_true hn])
  have hl1 : decide ((l0_1.length : Int) = 256) = false := decide_eq_false (by omega)
  have hl2 : ((l0_1.length : Int) == 256) = false := by simp; omega
  have hlen := hs.1
  have hm := hm_
  have HU := Aside0.mk (show dragnetref16_Used.f (l0_1.length + 1) a0_0 l0_1 = some (totS l0_1) by rw [ref_used a0_0 l0_1 hs.reach, if_pos hf])
  have hwu : IntKind.i64.wrap (a0_0 - totS l0_1) = a0_0 - totS l0_1 := by have := tot_nonneg l0_1; have := hf.2.2.1; have := hf.2.2.2.2; have := hf.2.1; rw [IntKind.wrap_i64]; omega
  have hgt : decide (a0_0 - totS l0_1 < (l1_3.length : Int)) = true := decide_eq_true (by omega)
  clear hsp hm hm_
  injection he with he1 he2
  injection he2 with he2 he3
  subst he1
  subst he2
  subst he3
  clear hlen hl hs hf hn hk hfo
  go_enter Try.func13, Try.ntmps13
  go_upto_region 7 with (first
    | ((with_reducible refine gate_dst (N := 2) rfl ?_); refine box_event ?hg (N := 2) ?hd (cs := #[.int .i64 a0_0, .slice A0_1 l0_1.length c0_1]) (t := 24) ?hr ?_; (case hd => rfl); (case hg => rfl); (case hr => first | (go_simp; done) | (go_simp; rfl)); intro g2 hg2 w2 hbox hb; have HB2 := Aside0.mk (below_step HB.out hb); have CB2 := Aside0.mk hbox; have G2 := Aside0.mk (show w.heap.size ≤ g2 by rw [hg2]; exact below_size HB.out); clear hb hbox hg2 HB; have HB := HB2; clear HB2)
    | ((with_reducible refine gate_dst (N := 3) rfl ?_); refine box_event ?hg (N := 3) ?hd (cs := #[.int .i64 a1_0, .string a1_1, .string a1_2, .slice A1_3 l1_3.length c1_3]) (t := 27) ?hr ?_; (case hd => rfl); (case hg => rfl); (case hr => first | (go_simp; done) | (go_simp; rfl)); intro g3 hg3 w3 hbox hb; have HB3 := Aside0.mk (below_step HB.out hb); have CB3 := Aside0.mk hbox; have G23 := Aside0.mk (show g2 < g3 by rw [hg3]; exact blk_lt CB2.out); have CB2_ := Aside0.mk (blk_below CB2.out hb); clear hb hbox hg3 HB CB2; have HB := HB3; have CB2 := CB2_; clear HB3 CB2_)
    | ((with_reducible refine gate_dst (N := 4) rfl ?_); refine box_event ?hg (N := 4) ?hd (cs := #[.int .i64 0, .slice none 0 0]) (t := 24) ?hr ?_; (case hd => rfl); (case hg => rfl); (case hr => first | (go_simp; done) | (go_simp; rfl)); intro g4 hg4 w4 hbox hb; have HX := Aside0.mk (Rbox.mk (below_step HB.out hb) (blk_below CB2.out hb) (blk_below CB3.out hb) hbox G2.out G23.out (show g3 < g4 by rw [hg4]; exact blk_lt CB3.out)); clear hb hbox hg4 HB CB2 CB3 G2 G23; obtain ⟨v20, v21, v30, v31, v32, v33, v40, v41, f40, f41⟩ := HX.out.vis)
    | (go_at_call 22; (with_reducible refine (dragnetref16_Formed.calls a0_0 A0_1 c0_1 l0_1 true _ (Kd.C_below HR.out HX.out.B) HC.out HF.out).mono ?_); rintro e w5 ⟨rfl, hb⟩; have HX_ := Aside0.mk (HX.out.step hb); clear HX hb v20 v21 v30 v31 v32 v33 v40 v41 f40 f41; have HX := HX_; clear HX_; obtain ⟨v20, v21, v30, v31, v32, v33, v40, v41, f40, f41⟩ := HX.out.vis)
    | (go_at_call 37; (with_reducible refine (dragnetref16_named.calls a1_1 true _ HN.out).mono ?_); rintro e w6 ⟨rfl, hd⟩; have hb := Drawn0.below hd; clear hd; have HX_ := Aside0.mk (HX.out.step hb); clear HX hb v20 v21 v30 v31 v32 v33 v40 v41 f40 f41; have HX := HX_; clear HX_; obtain ⟨v20, v21, v30, v31, v32, v33, v40, v41, f40, f41⟩ := HX.out.vis)
    | (go_at_call 38; (with_reducible refine (dragnetref16_place.calls _ a0_0 A0_1 c0_1 l0_1 a1_1 _ _ (Kd.C_below HR.out HX.out.B) HC.out HP.out).mono ?_); rintro e w8 ⟨rfl, hb⟩; have HX_ := Aside0.mk (HX.out.step hb); clear HX hb v20 v21 v30 v31 v32 v33 v40 v41 f40 f41; have HX := HX_; clear HX_; obtain ⟨v20, v21, v30, v31, v32, v33, v40, v41, f40, f41⟩ := HX.out.vis)
    | ((with_reducible refine gate_dst (N := 7) rfl ?_); refine box_event ?hg (N := 7) ?hd (cs := #[.string ⟨#[]⟩, .slice none 0 0, .int .i64 0]) (t := 61) ?hr ?_; (case hd => rfl); (case hg => rfl); (case hr => first | (go_simp; done) | (go_simp; rfl)); intro g7 hg7 w9 hbox hb; have CB7 := Aside0.mk hbox; have G7 := Aside0.mk (show g4 < g7 by rw [hg7]; exact blk_lt HX.out.c4); have HX_ := Aside0.mk (HX.out.step hb); clear hbox hg7 hb HX v20 v21 v30 v31 v32 v33 v40 v41 f40 f41; have HX := HX_; clear HX_; obtain ⟨v20, v21, v30, v31, v32, v33, v40, v41, f40, f41⟩ := HX.out.vis; obtain ⟨v70, v71, v72, f70, f71, f72⟩ := vis7 CB7.out))
  have HX_ : Aside0 (Rbox w g2 g3 g4 #[.int .i64 a0_0, .slice A0_1 l0_1.length c0_1] #[.int .i64 a1_0, .string a1_1, .string a1_2, .slice A1_3 l1_3.length c1_3] #[.int .i64 0, .slice none 0 0] (((w9.setCell ⟨g7, 0, none⟩ (.string a1_1)).setCell ⟨g7, 1, none⟩ (.slice none 0 0)).setCell ⟨g7, 2, none⟩ (.int .i64 0))) := ⟨(Rbox.far (Rbox.far (Rbox.far HX.out G7.out 0 (.string a1_1)) G7.out 1 (.slice none 0 0)) G7.out 2 (.int .i64 0))⟩
  have CB7_ : Aside0 ((((w9.setCell ⟨g7, 0, none⟩ (.string a1_1)).setCell ⟨g7, 1, none⟩ (.slice none 0 0)).setCell ⟨g7, 2, none⟩ (.int .i64 0)).heap[g7]? = some (.cells #[.string a1_1, .slice none 0 0, .int .i64 0] 61 (0, 0))) := ⟨(blk_put (cs := #[.string a1_1, .slice none 0 0, .int .i64 0]) (blk_put (cs := #[.string a1_1, .slice none 0 0, .int .i64 0]) (blk_put (cs := #[.string ⟨#[]⟩, .slice none 0 0, .int .i64 0]) CB7.out 0 (.string a1_1) rfl) 1 (.slice none 0 0) rfl) 2 (.int .i64 0) rfl)⟩
  clear HX CB7 v20 v21 v30 v31 v32 v33 v40 v41 f40 f41 v70 v71 v72 f70 f71 f72
  generalize ((w9.setCell ⟨g7, 0, none⟩ (.string a1_1)).setCell ⟨g7, 1, none⟩ (.slice none 0 0)).setCell ⟨g7, 2, none⟩ (.int .i64 0) = W1 at *
  have HX := HX_
  have CB7 := CB7_
  clear HX_ CB7_
  obtain ⟨v20, v21, v30, v31, v32, v33, v40, v41, f40, f41⟩ := HX.out.vis
  obtain ⟨v70, v71, v72, f70, f71, f72⟩ := vis7 CB7.out
  go_upto_region 13 with (first
    | fail)
  have HX_ := Aside0.mk HX.out.drew
  have CB7_ := Aside0.mk (blk_drew CB7.out)
  clear HX CB7
  have HX := HX_
  have CB7 := CB7_
  clear HX_ CB7_
  refine start_ (n := 9) (S := fun w' => w'.cell? ⟨g2, 0, none⟩ = some (.int .i64 a0_0) ∧ w'.cell? ⟨g2, 1, none⟩ = some (.slice A0_1 l0_1.length c0_1) ∧ w'.cell? ⟨g3, 3, none⟩ = some (.slice A1_3 l1_3.length c1_3)) (ds := []) #[false, false, false, false, false, false, false, false, false] (by kernel_rfl) rfl rfl ⟨v20, v21, v33⟩ (fun hHeld => ?_)
  refine pure_ (i := 0) (N := some 75) (v := ?_) (a' := ?_) #[true, false, false, false, false, false, false, false, false] rfl rfl (by kernel_rfl) (fun _ _ _ h => h) (Or.inl ⟨by rfl, ?_⟩) ?_ ?_
  rotate_left
  · intro w'
    go_simp
    with_reducible rfl
  rotate_left
  · simp only [Act.put, List.setIfInBounds_toArray, List.set_cons_zero, List.set_cons_succ, i64_w, i32_w]
    rfl
  refine pure_ (i := 3) (N := some 78) (v := ?_) (a' := ?_) #[true, false, false, true, false, false, false, false, false] rfl rfl (by kernel_rfl) (fun _ _ _ h => h) (Or.inl ⟨by rfl, ?_⟩) ?_ ?_
  rotate_left
  · intro w'
    go_simp
    with_reducible rfl
  rotate_left
  · simp only [Act.put, List.setIfInBounds_toArray, List.set_cons_zero, List.set_cons_succ, i64_w, i32_w]
    rfl
  refine take_ (i := 1) (N := some 76) (v := ?_) (a' := ?_) #[true, true, false, true, false, false, false, false, false] rfl rfl (by kernel_rfl) (fun _ _ _ h => h) (Or.inl ⟨by rfl, ?_⟩) hHeld ?_ ?_
  rotate_left
  · rintro w' ⟨s0, s1, s2⟩
    go_simp
    with_reducible rfl
  rotate_left
  · simp only [Act.put, List.setIfInBounds_toArray, List.set_cons_zero, List.set_cons_succ, i64_w, i32_w]
    rfl
  refine pure_ (i := 2) (N := some 77) (v := ?_) (a' := ?_) #[true, true, true, true, false, false, false, false, false] rfl rfl (by kernel_rfl) (fun _ _ _ h => h) (Or.inl ⟨by rfl, ?_⟩) ?_ ?_
  rotate_left
  · intro w'
    go_simp
    with_reducible rfl
  rotate_left
  · simp only [Act.put, List.setIfInBounds_toArray, List.set_cons_zero, List.set_cons_succ, i64_w, i32_w]
    rfl
  refine take_ (i := 4) (N := some 79) (v := ?_) (a' := ?_) #[true, true, true, true, true, false, false, false, false] rfl rfl (by kernel_rfl) (fun _ _ _ h => h) (Or.inl ⟨by rfl, ?_⟩) hHeld ?_ ?_
  rotate_left
  · rintro w' ⟨s0, s1, s2⟩
    go_simp
    with_reducible rfl
  rotate_left
  · simp only [Act.put, List.setIfInBounds_toArray, List.set_cons_zero, List.set_cons_succ, i64_w, i32_w]
    rfl
  refine take_ (i := 5) (N := some 80) (v := ?_) (a' := ?_) #[true, true, true, true, true, true, false, false, false] rfl rfl (by kernel_rfl) (fun _ _ _ h => h) (Or.inl ⟨by rfl, ?_⟩) hHeld ?_ ?_
  rotate_left
  · rintro w' ⟨s0, s1, s2⟩
    go_simp
    with_reducible rfl
  rotate_left
  · simp only [Act.put, List.setIfInBounds_toArray, List.set_cons_zero, List.set_cons_succ, i64_w, i32_w]
    rfl
  refine one_ (i := 6) (N := some 81) #[true, true, true, true, true, true, true, false, false] rfl rfl (by kernel_rfl) (by decide) (fun K hK => ?_)
  refine goes_ Try.func25 (by kernel_rfl) rfl #[.agg #[.int .i64 a0_0, .slice A0_1 l0_1.length c0_1]] (by rfl) rfl rfl (by simp only [List.map_toArray, List.map_cons, List.map_nil]; rfl) ?_
  with_reducible refine (dragnetref16_Used.calls _ a0_0 A0_1 c0_1 l0_1 (totS l0_1) _ (Kd.C_below HR.out HX.out.B) HC.out HU.out).mono ?_
  rintro e w12 ⟨rfl, hb⟩
  refine ⟨_, rfl, ?_⟩
  have HB9 := Aside0.mk hb
  clear hb
  refine hK.out _ _ ⟨(pw_cell_below HB9.out v20), (pw_cell_below HB9.out v21), (pw_cell_below HB9.out v33)⟩ (fun hHeld => ?_)
  clear hK K
  refine norm_ (a' := ?_) ?_ ?_
  rotate_left
  · show Act.put _ (some 81) _ = _
    simp only [Act.put, List.setIfInBounds_toArray, List.set_cons_zero, List.set_cons_succ, i64_w, i32_w]
    rfl
  refine pure_ (i := 7) (N := some 82) (v := ?_) (a' := ?_) #[true, true, true, true, true, true, true, true, false] rfl rfl (by kernel_rfl) (fun _ _ _ h => h) (Or.inl ⟨by rfl, ?_⟩) ?_ ?_
  rotate_left
  · intro w'
    go_simp
    with_reducible rfl
  rotate_left
  · simp only [Act.put, List.setIfInBounds_toArray, List.set_cons_zero, List.set_cons_succ, i64_w, i32_w]
    rfl
  refine pure_ (i := 8) (N := some 83) (v := ?_) (a' := ?_) #[true, true, true, true, true, true, true, true, true] rfl rfl (by kernel_rfl) (fun _ _ _ h => h) (Or.inl ⟨by rfl, ?_⟩) ?_ ?_
  rotate_left
  · intro w'
    go_simp
    with_reducible rfl
  rotate_left
  · simp only [Act.put, List.setIfInBounds_toArray, List.set_cons_zero, List.set_cons_succ, i64_w, i32_w]
    rfl
  refine done_ (by kernel_rfl) ?_

  have hb := HB9.out
  clear HB9
  have HX_ := Aside0.mk (HX.out.step hb)
  have CB7_ := Aside0.mk (blk_below CB7.out hb)
  clear HX CB7 hb v20 v21 v30 v31 v32 v33 v40 v41 f40 f41 v70 v71 v72 f70 f71 f72
  have HX := HX_
  have CB7 := CB7_
  clear HX_ CB7_
  obtain ⟨v20, v21, v30, v31, v32, v33, v40, v41, f40, f41⟩ := HX.out.vis
  obtain ⟨v70, v71, v72, f70, f71, f72⟩ := vis7 CB7.out
  go_wp2
  refine bodyPost_ret (results_ct rfl _ _ g4 24 #[.int .i64 0, .slice none 0 0] (0, 0) _ rfl (blk_put (cs := #[.int .i64 0, .slice none 0 0]) (blk_put (cs := #[.int .i64 0, .slice none 0 0]) HX.out.c4 0 _ rfl) 1 _ rfl) Try.underlying24 rfl (by kernel_rfl)) rfl ?_
  exact ⟨_, rfl, Kd.V_nil _ _ _ _ _, below_set (below_set HX.out.B HX.out.l) HX.out.l⟩
set_option maxHeartbeats 4000000 in
set_option maxRecDepth 100000 in
theorem rd_app (a0_0 : Int) (A0_1 : Option Addr) (c0_1 : Nat) (l0_1 : List S61) (a1_0 : Int) (a1_1 : ByteArray) (a1_2 : ByteArray) (A1_3 : Option Addr) (c1_3 : Nat) (l1_3 : List Int) (r1 : Int) (r2 : List S61) (r3 : Int) (w : World) (hr0_1 : Kd.C k61 w A0_1 l0_1.length l0_1) (hc0_1 : l0_1.length ≤ c0_1) (hr1_3 : Kd.C (Kd.int .u8) w A1_3 l1_3.length l1_3) (hc1_3 : l1_3.length ≤ c1_3) (hs : Far l0_1) (hf : FormedR a0_0 l0_1) (hn : nmd a1_1) (hfo : foundS l0_1 a1_1 = true) (hk : a1_0 = 1) (hm_ : l1_3.length ≤ 140737488351232) (hsp : totS l0_1 + (l1_3.length : Int) ≤ a0_0) (hw : dragnetref16_with.f (l0_1.length + 1) a0_0 l0_1 (rd_T61 l0_1 (idxS l0_1 a1_1 : Int)).f0 ((rd_T61 l0_1 (idxS l0_1 a1_1 : Int)).f1 ++ l1_3) (rd_T61 l0_1 (idxS l0_1 a1_1 : Int)).f2 = some (a0_0, r2)) (h1_ : a0_0 = r1) (h3_ : 0 = r3) :
    Calls Try.prog 13 #[.agg #[.int .i64 a0_0, .slice A0_1 l0_1.length c0_1], .agg #[.int .i64 a1_0, .string a1_1, .string a1_2, .slice A1_3 l1_3.length c1_3]] w fun e w' => ∃ v1_ : Value, e = .returned (.tuple #[.agg #[.int .i64 r1, v1_], .int .i64 r3]) ∧ Kd.V k61 61 w' w.heap.size (fun k_ => w.heap.size ≤ k_) v1_ r2 ∧ Below w.heap.size w w' := by
  have HR := Aside0.mk hr0_1
  have HC := Aside0.mk hc0_1
  have HR3 := Aside0.mk hr1_3
  have HC3 := Aside0.mk hc1_3
  have HB := Aside0.mk (Below.refl w.heap.size w)
  clear hr0_1 hc0_1 hr1_3 hc1_3
  have hu24 := Try.underlying24
  have hu27 := Try.underlying27
  have hu61 := Try.underlying61
  have hfl := field24
  obtain ⟨i, hi⟩ : ∃ i, i = idxS l0_1 a1_1 := ⟨_, rfl⟩
  have hin : i < l0_1.length := by rw [hi]; exact found_lt hfo
  have HIN := Aside0.mk hin
  have hl256 := hf.2.2.2.1
  obtain ⟨x, hx⟩ : ∃ x, x = rd_T61 l0_1 (i : Int) := ⟨_, rfl⟩
  have HXX := Aside0.mk hx
  have i0 := eq_true (show (0 : Int) ≤ (i : Int) by omega)
  have i1 := eq_true (show (i : Int) < (l0_1.length : Int) by omega)
  have im : decide ((i : Int) < 0) = false := decide_eq_false (by omega)
  have hlen := hs.1
  have HCP := Aside0.mk (copy_plain a0_0 l0_1 hs.reach)
  have hk1 : decide (a1_0 < 1) = false := decide_eq_false (by omega)
  have hk4 : decide (4 < a1_0) = false := decide_eq_false (by omega)
  have hq1 : decide (a1_0 = 1) = true := decide_eq_true (by omega)
  have hq1b : (a1_0 == 1) = true := by simp; omega
  have hq2 : decide (a1_0 = 2) = false := decide_eq_false (by omega)
  have hq2b : (a1_0 == 2) = false := by simp; omega
  have hq3 : decide (a1_0 = 3) = false := decide_eq_false (by omega)
  have hq3b : (a1_0 == 3) = false := by simp; omega
  have hq4 : decide (a1_0 = 4) = false := decide_eq_false (by omega)
  have hq4b : (a1_0 == 4) = false := by simp; omega
  have hne1 : decide (a1_0 ≠ 1) = false := decide_eq_false (by omega)
  have hne1b : (a1_0 != 1) = false := by simp; omega
  have HP := Aside0.mk (show dragnetref16_place.f (l0_1.length + 1) a0_0 l0_1 a1_1 = some (i : Int) by rw [place_plain a0_0 l0_1 a1_1 (formed_srt hf) (by have := hs.1; omega), hfo, ← hi]; rfl)
  have HF := Aside0.mk (show dragnetref16_Formed.f a0_0 l0_1 = some true by unfold dragnetref16_Formed.f; rw [if_pos (by have := hs.1; omega), decide_eq_true hf])
  have HN := Aside0.mk (show dragnetref16_named.f a1_1 = some true by rw [rnamed, decide_eq_true hn])
  have hm := hm_
  have HU := Aside0.mk (show dragnetref16_Used.f (l0_1.length + 1) a0_0 l0_1 = some (totS l0_1) by rw [ref_used a0_0 l0_1 hs.reach, if_pos hf])
  have hwu : IntKind.i64.wrap (a0_0 - totS l0_1) = a0_0 - totS l0_1 := by have := tot_nonneg l0_1; have := hf.2.2.1; have := hf.2.2.2.2; have := hf.2.1; rw [IntKind.wrap_i64]; omega
  have hgt : decide (a0_0 - totS l0_1 < (l1_3.length : Int)) = false := decide_eq_false (by omega)
  have HW := Aside0.mk hw
  rw [← hi, ← hx] at HW
  clear hw
  have HLX := Aside0.mk (show (x.f1.length + l1_3.length) * 1 ≤ 140737488355328 by have h1 := tot_at l0_1 i hin; rw [← hx] at h1; have := hf.2.2.1; have := hf.2.2.2.2; omega)
  obtain ⟨y, hy⟩ : ∃ y, y = x.f1 ++ l1_3 := ⟨_, rfl⟩
  have HY := Aside0.mk hy
  rw [← hy] at HW
  clear hsp hm hm_ hy
  clear hl256 hlen hin hx hi hs hf hn hk hfo
  subst h1_
  subst h3_
  go_enter Try.func13, Try.ntmps13
  go_upto_region 7 with (first
    | ((with_reducible refine gate_dst (N := 2) rfl ?_); refine box_event ?hg (N := 2) ?hd (cs := #[.int .i64 a0_0, .slice A0_1 l0_1.length c0_1]) (t := 24) ?hr ?_; (case hd => rfl); (case hg => rfl); (case hr => first | (go_simp; done) | (go_simp; rfl)); intro g2 hg2 w2 hbox hb; have HB2 := Aside0.mk (below_step HB.out hb); have CB2 := Aside0.mk hbox; have G2 := Aside0.mk (show w.heap.size ≤ g2 by rw [hg2]; exact below_size HB.out); clear hb hbox hg2 HB; have HB := HB2; clear HB2)
    | ((with_reducible refine gate_dst (N := 3) rfl ?_); refine box_event ?hg (N := 3) ?hd (cs := #[.int .i64 a1_0, .string a1_1, .string a1_2, .slice A1_3 l1_3.length c1_3]) (t := 27) ?hr ?_; (case hd => rfl); (case hg => rfl); (case hr => first | (go_simp; done) | (go_simp; rfl)); intro g3 hg3 w3 hbox hb; have HB3 := Aside0.mk (below_step HB.out hb); have CB3 := Aside0.mk hbox; have G23 := Aside0.mk (show g2 < g3 by rw [hg3]; exact blk_lt CB2.out); have CB2_ := Aside0.mk (blk_below CB2.out hb); clear hb hbox hg3 HB CB2; have HB := HB3; have CB2 := CB2_; clear HB3 CB2_)
    | ((with_reducible refine gate_dst (N := 4) rfl ?_); refine box_event ?hg (N := 4) ?hd (cs := #[.int .i64 0, .slice none 0 0]) (t := 24) ?hr ?_; (case hd => rfl); (case hg => rfl); (case hr => first | (go_simp; done) | (go_simp; rfl)); intro g4 hg4 w4 hbox hb; have HX := Aside0.mk (Rbox.mk (below_step HB.out hb) (blk_below CB2.out hb) (blk_below CB3.out hb) hbox G2.out G23.out (show g3 < g4 by rw [hg4]; exact blk_lt CB3.out)); clear hb hbox hg4 HB CB2 CB3 G2 G23; obtain ⟨v20, v21, v30, v31, v32, v33, v40, v41, f40, f41⟩ := HX.out.vis)
    | (go_at_call 22; (with_reducible refine (dragnetref16_Formed.calls a0_0 A0_1 c0_1 l0_1 true _ (Kd.C_below HR.out HX.out.B) HC.out HF.out).mono ?_); rintro e w5 ⟨rfl, hb⟩; have HX_ := Aside0.mk (HX.out.step hb); clear HX hb v20 v21 v30 v31 v32 v33 v40 v41 f40 f41; have HX := HX_; clear HX_; obtain ⟨v20, v21, v30, v31, v32, v33, v40, v41, f40, f41⟩ := HX.out.vis)
    | (go_at_call 37; (with_reducible refine (dragnetref16_named.calls a1_1 true _ HN.out).mono ?_); rintro e w6 ⟨rfl, hd⟩; have hb := Drawn0.below hd; clear hd; have HX_ := Aside0.mk (HX.out.step hb); clear HX hb v20 v21 v30 v31 v32 v33 v40 v41 f40 f41; have HX := HX_; clear HX_; obtain ⟨v20, v21, v30, v31, v32, v33, v40, v41, f40, f41⟩ := HX.out.vis)
    | (go_at_call 38; (with_reducible refine (dragnetref16_place.calls _ a0_0 A0_1 c0_1 l0_1 a1_1 _ _ (Kd.C_below HR.out HX.out.B) HC.out HP.out).mono ?_); rintro e w8 ⟨rfl, hb⟩; have HX_ := Aside0.mk (HX.out.step hb); clear HX hb v20 v21 v30 v31 v32 v33 v40 v41 f40 f41; have HX := HX_; clear HX_; obtain ⟨v20, v21, v30, v31, v32, v33, v40, v41, f40, f41⟩ := HX.out.vis)
    | ((with_reducible refine gate_dst (N := 7) rfl ?_); refine box_event ?hg (N := 7) ?hd (cs := #[.string ⟨#[]⟩, .slice none 0 0, .int .i64 0]) (t := 61) ?hr ?_; (case hd => rfl); (case hg => rfl); (case hr => first | (go_simp; done) | (go_simp; rfl)); intro g7 hg7 w9 hbox hb; have CB7 := Aside0.mk hbox; have G7 := Aside0.mk (show g4 < g7 by rw [hg7]; exact blk_lt HX.out.c4); have HX_ := Aside0.mk (HX.out.step hb); clear hbox hg7 hb HX v20 v21 v30 v31 v32 v33 v40 v41 f40 f41; have HX := HX_; clear HX_; obtain ⟨v20, v21, v30, v31, v32, v33, v40, v41, f40, f41⟩ := HX.out.vis; obtain ⟨v70, v71, v72, f70, f71, f72⟩ := vis7 CB7.out))
  have HX_ : Aside0 (Rbox w g2 g3 g4 #[.int .i64 a0_0, .slice A0_1 l0_1.length c0_1] #[.int .i64 a1_0, .string a1_1, .string a1_2, .slice A1_3 l1_3.length c1_3] #[.int .i64 0, .slice none 0 0] (((w9.setCell ⟨g7, 0, none⟩ (.string a1_1)).setCell ⟨g7, 1, none⟩ (.slice none 0 0)).setCell ⟨g7, 2, none⟩ (.int .i64 0))) := ⟨(Rbox.far (Rbox.far (Rbox.far HX.out G7.out 0 (.string a1_1)) G7.out 1 (.slice none 0 0)) G7.out 2 (.int .i64 0))⟩
  have CB7_ : Aside0 ((((w9.setCell ⟨g7, 0, none⟩ (.string a1_1)).setCell ⟨g7, 1, none⟩ (.slice none 0 0)).setCell ⟨g7, 2, none⟩ (.int .i64 0)).heap[g7]? = some (.cells #[.string a1_1, .slice none 0 0, .int .i64 0] 61 (0, 0))) := ⟨(blk_put (cs := #[.string a1_1, .slice none 0 0, .int .i64 0]) (blk_put (cs := #[.string a1_1, .slice none 0 0, .int .i64 0]) (blk_put (cs := #[.string ⟨#[]⟩, .slice none 0 0, .int .i64 0]) CB7.out 0 (.string a1_1) rfl) 1 (.slice none 0 0) rfl) 2 (.int .i64 0) rfl)⟩
  clear HX CB7 v20 v21 v30 v31 v32 v33 v40 v41 f40 f41 v70 v71 v72 f70 f71 f72
  generalize ((w9.setCell ⟨g7, 0, none⟩ (.string a1_1)).setCell ⟨g7, 1, none⟩ (.slice none 0 0)).setCell ⟨g7, 2, none⟩ (.int .i64 0) = W1 at *
  have HX := HX_
  have CB7 := CB7_
  clear HX_ CB7_
  obtain ⟨v20, v21, v30, v31, v32, v33, v40, v41, f40, f41⟩ := HX.out.vis
  obtain ⟨v70, v71, v72, f70, f71, f72⟩ := vis7 CB7.out
  have HB0 := Aside0.mk (below_size HX.out.B)
  go_upto_region 9 with (first
    | (go_at_call 10; (with_reducible refine (dragnetref16_Copy.calls _ a0_0 A0_1 c0_1 l0_1 a0_0 l0_1 _ (Kd.C_below HR.out HX.out.B) HC.out HCP.out).mono ?_); rintro e w10 ⟨v10, rfl, hS, hb⟩; obtain ⟨A10, c10, rfl⟩ := Kd.S_slice hS; have HS := Aside0.mk (Kd.S_mono (Kd.S_bound hS) (ok' := fun k => g7 < k) (fun k hk => by have := hk.2.1; have := blk_lt CB7.out; omega)); clear hS; have HX_ := Aside0.mk (HX.out.step hb); have CB7_ := Aside0.mk (blk_below CB7.out hb); clear HX CB7 hb v20 v21 v30 v31 v32 v33 v40 v41 f40 f41 v70 v71 v72 f70 f71 f72; have HX := HX_; have CB7 := CB7_; clear HX_ CB7_; obtain ⟨v20, v21, v30, v31, v32, v33, v40, v41, f40, f41⟩ := HX.out.vis; obtain ⟨v70, v71, v72, f70, f71, f72⟩ := vis7 CB7.out; obtain ⟨go, cap, hv, GO1, GO2, _⟩ := Kd.S_form HS.out (by have := HIN.out; omega); injection hv with e1 e2 e3; subst e1; subst e3; clear e2 GO1 GO2; obtain ⟨oki, c, hcl, hM, hcc, hfr, hoki, hH⟩ := Kd.S_elem HS.out z61 (i : Int) (by omega) (by have := HIN.out; omega); rw [show l0_1.getD (i : Int).toNat z61 = x from HXX.out.symm] at hM; obtain ⟨v1, rfl, hv1⟩ := k61_openM hM; obtain ⟨A1, c1, rfl⟩ := Kd.R_slice hv1; have HV := Aside0.mk (Kd.R_lower (Kd.R_mono hv1 (ok' := fun k => g7 < k) (fun k hk => (hoki k hk).1)) HB0.out); have hz0 : w10.cell? ⟨go, i * 3, none⟩ = some (.string x.f0) := hcc 0 _ rfl; have hz1 : w10.cell? ⟨go, i * 3 + 1, none⟩ = some (.slice A1 x.f1.length c1) := hcc 1 _ rfl; have hz2 : w10.cell? ⟨go, i * 3 + 2, none⟩ = some (.int .i64 x.f2) := hcc 2 _ rfl; clear hcl hM hcc hfr hoki hH hv1))
  have HX_ : Aside0 (Rbox w g2 g3 g4 #[.int .i64 a0_0, .slice A0_1 l0_1.length c0_1] #[.int .i64 a1_0, .string a1_1, .string a1_2, .slice A1_3 l1_3.length c1_3] #[.int .i64 0, .slice none 0 0] (((w10.setCell ⟨g7, 0, none⟩ (.string x.f0)).setCell ⟨g7, 1, none⟩ (.slice A1 x.f1.length c1)).setCell ⟨g7, 2, none⟩ (.int .i64 x.f2))) := ⟨(Rbox.far (Rbox.far (Rbox.far HX.out G7.out 0 (.string x.f0)) G7.out 1 (.slice A1 x.f1.length c1)) G7.out 2 (.int .i64 x.f2))⟩
  have CB7_ : Aside0 ((((w10.setCell ⟨g7, 0, none⟩ (.string x.f0)).setCell ⟨g7, 1, none⟩ (.slice A1 x.f1.length c1)).setCell ⟨g7, 2, none⟩ (.int .i64 x.f2)).heap[g7]? = some (.cells #[.string x.f0, .slice A1 x.f1.length c1, .int .i64 x.f2] 61 (0, 0))) := ⟨(blk_put (cs := #[.string x.f0, .slice A1 x.f1.length c1, .int .i64 0]) (blk_put (cs := #[.string x.f0, .slice none 0 0, .int .i64 0]) (blk_put (cs := #[.string a1_1, .slice none 0 0, .int .i64 0]) CB7.out 0 (.string x.f0) rfl) 1 (.slice A1 x.f1.length c1) rfl) 2 (.int .i64 x.f2) rfl)⟩
  have HV_ := Aside0.mk (Kd.R_far (p := ⟨g7, 2, none⟩) (Kd.R_far (p := ⟨g7, 1, none⟩) (Kd.R_far (p := ⟨g7, 0, none⟩) HV.out (fun k hk => Nat.ne_of_gt hk) (.string x.f0)) (fun k hk => Nat.ne_of_gt hk) (.slice A1 x.f1.length c1)) (fun k hk => Nat.ne_of_gt hk) (.int .i64 x.f2))
  clear HV
  clear HX CB7 v20 v21 v30 v31 v32 v33 v40 v41 f40 f41 v70 v71 v72 f70 f71 f72
  clear hz0 hz1 hz2 HS
  generalize ((w10.setCell ⟨g7, 0, none⟩ (.string x.f0)).setCell ⟨g7, 1, none⟩ (.slice A1 x.f1.length c1)).setCell ⟨g7, 2, none⟩ (.int .i64 x.f2) = W2 at *
  have HX := HX_
  have CB7 := CB7_
  clear HX_ CB7_
  have HV := HV_
  clear HV_
  obtain ⟨v20, v21, v30, v31, v32, v33, v40, v41, f40, f41⟩ := HX.out.vis
  obtain ⟨v70, v71, v72, f70, f71, f72⟩ := vis7 CB7.out
  go_upto_region 13 with (first
    | fail)
  have HX_ := Aside0.mk HX.out.drew
  have CB7_ := Aside0.mk (blk_drew CB7.out)
  have HV_ := Aside0.mk (Kd.R_drew HV.out)
  clear HX CB7 HV
  have HX := HX_
  have CB7 := CB7_
  have HV := HV_
  clear HX_ CB7_ HV_
  refine start_ (n := 9) (S := fun w' => w'.cell? ⟨g2, 0, none⟩ = some (.int .i64 a0_0) ∧ w'.cell? ⟨g2, 1, none⟩ = some (.slice A0_1 l0_1.length c0_1) ∧ w'.cell? ⟨g3, 3, none⟩ = some (.slice A1_3 l1_3.length c1_3)) (ds := []) #[false, false, false, false, false, false, false, false, false] (by kernel_rfl) rfl rfl ⟨v20, v21, v33⟩ (fun hHeld => ?_)
  refine pure_ (i := 0) (N := some 75) (v := ?_) (a' := ?_) #[true, false, false, false, false, false, false, false, false] rfl rfl (by kernel_rfl) (fun _ _ _ h => h) (Or.inl ⟨by rfl, ?_⟩) ?_ ?_
  rotate_left
  · intro w'
    go_simp
    with_reducible rfl
  rotate_left
  · simp only [Act.put, List.setIfInBounds_toArray, List.set_cons_zero, List.set_cons_succ, i64_w, i32_w]
    rfl
  refine pure_ (i := 3) (N := some 78) (v := ?_) (a' := ?_) #[true, false, false, true, false, false, false, false, false] rfl rfl (by kernel_rfl) (fun _ _ _ h => h) (Or.inl ⟨by rfl, ?_⟩) ?_ ?_
  rotate_left
  · intro w'
    go_simp
    with_reducible rfl
  rotate_left
  · simp only [Act.put, List.setIfInBounds_toArray, List.set_cons_zero, List.set_cons_succ, i64_w, i32_w]
    rfl
  refine take_ (i := 1) (N := some 76) (v := ?_) (a' := ?_) #[true, true, false, true, false, false, false, false, false] rfl rfl (by kernel_rfl) (fun _ _ _ h => h) (Or.inl ⟨by rfl, ?_⟩) hHeld ?_ ?_
  rotate_left
  · rintro w' ⟨s0, s1, s2⟩
    go_simp
    with_reducible rfl
  rotate_left
  · simp only [Act.put, List.setIfInBounds_toArray, List.set_cons_zero, List.set_cons_succ, i64_w, i32_w]
    rfl
  refine pure_ (i := 2) (N := some 77) (v := ?_) (a' := ?_) #[true, true, true, true, false, false, false, false, false] rfl rfl (by kernel_rfl) (fun _ _ _ h => h) (Or.inl ⟨by rfl, ?_⟩) ?_ ?_
  rotate_left
  · intro w'
    go_simp
    with_reducible rfl
  rotate_left
  · simp only [Act.put, List.setIfInBounds_toArray, List.set_cons_zero, List.set_cons_succ, i64_w, i32_w]
    rfl
  refine take_ (i := 4) (N := some 79) (v := ?_) (a' := ?_) #[true, true, true, true, true, false, false, false, false] rfl rfl (by kernel_rfl) (fun _ _ _ h => h) (Or.inl ⟨by rfl, ?_⟩) hHeld ?_ ?_
  rotate_left
  · rintro w' ⟨s0, s1, s2⟩
    go_simp
    with_reducible rfl
  rotate_left
  · simp only [Act.put, List.setIfInBounds_toArray, List.set_cons_zero, List.set_cons_succ, i64_w, i32_w]
    rfl
  refine take_ (i := 5) (N := some 80) (v := ?_) (a' := ?_) #[true, true, true, true, true, true, false, false, false] rfl rfl (by kernel_rfl) (fun _ _ _ h => h) (Or.inl ⟨by rfl, ?_⟩) hHeld ?_ ?_
  rotate_left
  · rintro w' ⟨s0, s1, s2⟩
    go_simp
    with_reducible rfl
  rotate_left
  · simp only [Act.put, List.setIfInBounds_toArray, List.set_cons_zero, List.set_cons_succ, i64_w, i32_w]
    rfl
  refine one_ (i := 6) (N := some 81) #[true, true, true, true, true, true, true, false, false] rfl rfl (by kernel_rfl) (by decide) (fun K hK => ?_)
  refine goes_ Try.func25 (by kernel_rfl) rfl #[.agg #[.int .i64 a0_0, .slice A0_1 l0_1.length c0_1]] (by rfl) rfl rfl (by simp only [List.map_toArray, List.map_cons, List.map_nil]; rfl) ?_
  with_reducible refine (dragnetref16_Used.calls _ a0_0 A0_1 c0_1 l0_1 (totS l0_1) _ (Kd.C_below HR.out HX.out.B) HC.out HU.out).mono ?_
  rintro e w12 ⟨rfl, hb⟩
  refine ⟨_, rfl, ?_⟩
  have HB9 := Aside0.mk hb
  clear hb
  refine hK.out _ _ ⟨(pw_cell_below HB9.out v20), (pw_cell_below HB9.out v21), (pw_cell_below HB9.out v33)⟩ (fun hHeld => ?_)
  clear hK K
  refine norm_ (a' := ?_) ?_ ?_
  rotate_left
  · show Act.put _ (some 81) _ = _
    simp only [Act.put, List.setIfInBounds_toArray, List.set_cons_zero, List.set_cons_succ, i64_w, i32_w]
    rfl
  refine pure_ (i := 7) (N := some 82) (v := ?_) (a' := ?_) #[true, true, true, true, true, true, true, true, false] rfl rfl (by kernel_rfl) (fun _ _ _ h => h) (Or.inl ⟨by rfl, ?_⟩) ?_ ?_
  rotate_left
  · intro w'
    go_simp
    with_reducible rfl
  rotate_left
  · simp only [Act.put, List.setIfInBounds_toArray, List.set_cons_zero, List.set_cons_succ, i64_w, i32_w]
    rfl
  refine pure_ (i := 8) (N := some 83) (v := ?_) (a' := ?_) #[true, true, true, true, true, true, true, true, true] rfl rfl (by kernel_rfl) (fun _ _ _ h => h) (Or.inl ⟨by rfl, ?_⟩) ?_ ?_
  rotate_left
  · intro w'
    go_simp
    with_reducible rfl
  rotate_left
  · simp only [Act.put, List.setIfInBounds_toArray, List.set_cons_zero, List.set_cons_succ, i64_w, i32_w]
    rfl
  refine done_ (by kernel_rfl) ?_

  have hb := HB9.out
  clear HB9
  have HX_ := Aside0.mk (HX.out.step hb)
  have CB7_ := Aside0.mk (blk_below CB7.out hb)
  have HV_ := Aside0.mk (Kd.R_below HV.out hb)
  clear HV
  clear HX CB7 hb v20 v21 v30 v31 v32 v33 v40 v41 f40 f41 v70 v71 v72 f70 f71 f72
  have HX := HX_
  have CB7 := CB7_
  clear HX_ CB7_
  obtain ⟨v20, v21, v30, v31, v32, v33, v40, v41, f40, f41⟩ := HX.out.vis
  obtain ⟨v70, v71, v72, f70, f71, f72⟩ := vis7 CB7.out
  have HV := HV_
  clear HV_
  go_upto_region 16 with (first
    | ((with_reducible refine gate_builtin (b := .append) (xs := #[.tmp 86, .tmp 88]) rfl ?_); at_builtin; refine Kd.R_append_rows (Kd.int .u8) (w0 := w) w.heap.size rfl (.tmp 86) (.tmp 88) 25 5 (.int .u8 0) 1 rfl Try.underlying25 info5 rfl (by decide) (by omega) (.slice A1 x.f1.length c1) x.f1 l1_3 A1_3 l1_3.length c1_3 (fun k => g7 < k) (fun _ => False) rfl rfl HV.out (Kd.C_below HR3.out HX.out.B) (fun _ _ h => h) (fun _ h => h.elim) (fun k hk => Nat.lt_of_lt_of_le (blk_lt CB7.out) hk) HX.out.B HX.out.B.size HLX.out ?_; intro v15 w15 ho hb hg hat; rw [← HY.out] at ho; obtain ⟨A15, c15, rfl⟩ := Kd.R_slice ho; have HX_ := Aside0.mk (HX.out.grown hb hg (fun k hk => Nat.lt_trans G7.out (HV.out.1 k hk))); have CB7_ := Aside0.mk (blk_grown CB7.out hg (fun e => Nat.lt_irrefl _ (HV.out.1 g7 e.symm))); clear HX CB7 HV hb hg hat v20 v21 v30 v31 v32 v33 v40 v41 f40 f41 v70 v71 v72 f70 f71 f72; have HX := HX_; have CB7 := CB7_; clear HX_ CB7_; obtain ⟨v20, v21, v30, v31, v32, v33, v40, v41, f40, f41⟩ := HX.out.vis; obtain ⟨v70, v71, v72, f70, f71, f72⟩ := vis7 CB7.out; have HV := Aside0.mk ho; clear ho))
  have HX_ : Aside0 (Rbox w g2 g3 g4 #[.int .i64 a0_0, .slice A0_1 l0_1.length c0_1] #[.int .i64 a1_0, .string a1_1, .string a1_2, .slice A1_3 l1_3.length c1_3] #[.int .i64 0, .slice none 0 0] (w15.setCell ⟨g7, 1, none⟩ (.slice A15 y.length c15))) := ⟨(Rbox.far HX.out G7.out 1 (.slice A15 y.length c15))⟩
  have CB7_ : Aside0 ((w15.setCell ⟨g7, 1, none⟩ (.slice A15 y.length c15)).heap[g7]? = some (.cells #[.string x.f0, .slice A15 y.length c15, .int .i64 x.f2] 61 (0, 0))) := ⟨(blk_put (cs := #[.string x.f0, .slice A1 x.f1.length c1, .int .i64 x.f2]) CB7.out 1 (.slice A15 y.length c15) rfl)⟩
  have HV_ := Aside0.mk (Kd.R_far (p := ⟨g7, 1, none⟩) HV.out (fun k hk => Nat.ne_of_gt hk) (.slice A15 y.length c15))
  clear HV
  clear HX CB7 v20 v21 v30 v31 v32 v33 v40 v41 f40 f41 v70 v71 v72 f70 f71 f72
  generalize w15.setCell ⟨g7, 1, none⟩ (.slice A15 y.length c15) = W4 at *
  have HX := HX_
  have CB7 := CB7_
  clear HX_ CB7_
  have HV := HV_
  clear HV_
  obtain ⟨v20, v21, v30, v31, v32, v33, v40, v41, f40, f41⟩ := HX.out.vis
  obtain ⟨v70, v71, v72, f70, f71, f72⟩ := vis7 CB7.out
  go_wp2_with (first
    | (go_at_call 39; (with_reducible refine (dragnetref16_with.calls _ a0_0 A0_1 c0_1 l0_1 x.f0 (fun k => g7 < k) A15 c15 y x.f2 a0_0 r2 _ (Kd.C_below HR.out HX.out.B) HC.out (Kd.R_V HV.out) HW.out).mono ?_); rintro e w20 ⟨v20_, rfl, hN, hb⟩; obtain ⟨A20, c20, rfl⟩ := Kd.N_slice hN; have HN := Aside0.mk (Kd.N_mono hN (ok' := fun k => g7 < k) (fun k hk => by have := blk_lt CB7.out; rcases hk with hk | hk <;> omega)); clear hN; have HX_ := Aside0.mk (HX.out.step hb); have CB7_ := Aside0.mk (blk_below CB7.out hb); clear HX CB7 hb v20 v21 v30 v31 v32 v33 v40 v41 f40 f41 v70 v71 v72 f70 f71 f72; have HX := HX_; have CB7 := CB7_; clear HX_ CB7_; obtain ⟨v20, v21, v30, v31, v32, v33, v40, v41, f40, f41⟩ := HX.out.vis; obtain ⟨v70, v71, v72, f70, f71, f72⟩ := vis7 CB7.out))
  refine bodyPost_ret (results_ct rfl _ _ g4 24 #[.int .i64 a0_0, .slice A20 r2.length c20] (0, 0) _ rfl (blk_put (cs := #[.int .i64 a0_0, .slice none 0 0]) (blk_put (cs := #[.int .i64 0, .slice none 0 0]) HX.out.c4 0 _ rfl) 1 _ rfl) Try.underlying24 rfl (by kernel_rfl)) rfl ?_
  exact ⟨_, rfl, Kd.V_mono (Kd.V_far (p := ⟨g4, 1, none⟩) (Kd.V_far (p := ⟨g4, 0, none⟩) (N_V HN.out) (fun k hk => Nat.ne_of_gt (Nat.lt_trans G7.out hk)) _) (fun k hk => Nat.ne_of_gt (Nat.lt_trans G7.out hk)) _) (fun k hk => Nat.le_of_lt (Nat.lt_of_le_of_lt HX.out.l (Nat.lt_trans G7.out hk))), below_set (below_set HX.out.B HX.out.l) HX.out.l⟩
set_option maxHeartbeats 4000000 in
set_option maxRecDepth 100000 in
theorem rd_new (a0_0 : Int) (A0_1 : Option Addr) (c0_1 : Nat) (l0_1 : List S61) (a1_0 : Int) (a1_1 : ByteArray) (a1_2 : ByteArray) (A1_3 : Option Addr) (c1_3 : Nat) (l1_3 : List Int) (r1 : Int) (r2 : List S61) (r3 : Int) (w : World) (hr0_1 : Kd.C k61 w A0_1 l0_1.length l0_1) (hc0_1 : l0_1.length ≤ c0_1) (hr1_3 : Kd.C (Kd.int .u8) w A1_3 l1_3.length l1_3) (hc1_3 : l1_3.length ≤ c1_3) (hs : Far l0_1) (hf : FormedR a0_0 l0_1) (hn : nmd a1_1) (hfo : foundS l0_1 a1_1 = false) (hk : a1_0 = 1) (hl : l0_1.length ≠ 256) (hm_ : l1_3.length ≤ 140737488351232) (hsp : totS l0_1 + (l1_3.length : Int) ≤ a0_0) (hw : dragnetref16_with.f (l0_1.length + 1) a0_0 l0_1 a1_1 l1_3 0 = some (a0_0, r2)) (h1_ : a0_0 = r1) (h3_ : 0 = r3) :
    Calls Try.prog 13 #[.agg #[.int .i64 a0_0, .slice A0_1 l0_1.length c0_1], .agg #[.int .i64 a1_0, .string a1_1, .string a1_2, .slice A1_3 l1_3.length c1_3]] w fun e w' => ∃ v1_ : Value, e = .returned (.tuple #[.agg #[.int .i64 r1, v1_], .int .i64 r3]) ∧ Kd.V k61 61 w' w.heap.size (fun k_ => w.heap.size ≤ k_) v1_ r2 ∧ Below w.heap.size w w' := by
  have HR := Aside0.mk hr0_1
  have HC := Aside0.mk hc0_1
  have HR3 := Aside0.mk hr1_3
  have HC3 := Aside0.mk hc1_3
  have HB := Aside0.mk (Below.refl w.heap.size w)
  clear hr0_1 hc0_1 hr1_3 hc1_3
  have hu24 := Try.underlying24
  have hu27 := Try.underlying27
  have hu61 := Try.underlying61
  have hfl := field24
  have hk1 : decide (a1_0 < 1) = false := decide_eq_false (by omega)
  have hk4 : decide (4 < a1_0) = false := decide_eq_false (by omega)
  have hq1 : decide (a1_0 = 1) = true := decide_eq_true (by omega)
  have hq1b : (a1_0 == 1) = true := by simp; omega
  have hq2 : decide (a1_0 = 2) = false := decide_eq_false (by omega)
  have hq2b : (a1_0 == 2) = false := by simp; omega
  have hq3 : decide (a1_0 = 3) = false := decide_eq_false (by omega)
  have hq3b : (a1_0 == 3) = false := by simp; omega
  have hq4 : decide (a1_0 = 4) = false := decide_eq_false (by omega)
  have hq4b : (a1_0 == 4) = false := by simp; omega
  have hne1 : decide (a1_0 ≠ 1) = false := decide_eq_false (by omega)
  have hne1b : (a1_0 != 1) = false := by simp; omega
  have HP := Aside0.mk (show dragnetref16_place.f (l0_1.length + 1) a0_0 l0_1 a1_1 = some (-1) by rw [place_plain a0_0 l0_1 a1_1 (formed_srt hf) (by have := hs.1; omega), hfo]; rfl)
  have HF := Aside0.mk (show dragnetref16_Formed.f a0_0 l0_1 = some true by unfold dragnetref16_Formed.f; rw [if_pos (by have := hs.1; omega), decide_eq_true hf])
  have HN := Aside0.mk (show dragnetref16_named.f a1_1 = some true by rw [rnamed, decide_eq_true hn])
  have hl1 : decide ((l0_1.length : Int) = 256) = false := decide_eq_false (by omega)
  have hl2 : ((l0_1.length : Int) == 256) = false := by simp; omega
  have hlen := hs.1
  have hm := hm_
  have HU := Aside0.mk (show dragnetref16_Used.f (l0_1.length + 1) a0_0 l0_1 = some (totS l0_1) by rw [ref_used a0_0 l0_1 hs.reach, if_pos hf])
  have hwu : IntKind.i64.wrap (a0_0 - totS l0_1) = a0_0 - totS l0_1 := by have := tot_nonneg l0_1; have := hf.2.2.1; have := hf.2.2.2.2; have := hf.2.1; rw [IntKind.wrap_i64]; omega
  have hgt : decide (a0_0 - totS l0_1 < (l1_3.length : Int)) = false := decide_eq_false (by omega)
  have HW := Aside0.mk hw
  have HLX := Aside0.mk (show (([] : List Int).length + l1_3.length) * 1 ≤ 140737488355328 by simp; omega)
  obtain ⟨y, hy⟩ : ∃ y, y = ([] : List Int) ++ l1_3 := ⟨_, rfl⟩
  have HY := Aside0.mk hy
  rw [← show y = l1_3 from hy] at HW
  clear hsp hm hm_ hy hw
  subst h1_
  subst h3_
  clear hlen hl hs hf hn hk hfo
  go_enter Try.func13, Try.ntmps13
  go_upto_region 7 with (first
    | ((with_reducible refine gate_dst (N := 2) rfl ?_); refine box_event ?hg (N := 2) ?hd (cs := #[.int .i64 a0_0, .slice A0_1 l0_1.length c0_1]) (t := 24) ?hr ?_; (case hd => rfl); (case hg => rfl); (case hr => first | (go_simp; done) | (go_simp; rfl)); intro g2 hg2 w2 hbox hb; have HB2 := Aside0.mk (below_step HB.out hb); have CB2 := Aside0.mk hbox; have G2 := Aside0.mk (show w.heap.size ≤ g2 by rw [hg2]; exact below_size HB.out); clear hb hbox hg2 HB; have HB := HB2; clear HB2)
    | ((with_reducible refine gate_dst (N := 3) rfl ?_); refine box_event ?hg (N := 3) ?hd (cs := #[.int .i64 a1_0, .string a1_1, .string a1_2, .slice A1_3 l1_3.length c1_3]) (t := 27) ?hr ?_; (case hd => rfl); (case hg => rfl); (case hr => first | (go_simp; done) | (go_simp; rfl)); intro g3 hg3 w3 hbox hb; have HB3 := Aside0.mk (below_step HB.out hb); have CB3 := Aside0.mk hbox; have G23 := Aside0.mk (show g2 < g3 by rw [hg3]; exact blk_lt CB2.out); have CB2_ := Aside0.mk (blk_below CB2.out hb); clear hb hbox hg3 HB CB2; have HB := HB3; have CB2 := CB2_; clear HB3 CB2_)
    | ((with_reducible refine gate_dst (N := 4) rfl ?_); refine box_event ?hg (N := 4) ?hd (cs := #[.int .i64 0, .slice none 0 0]) (t := 24) ?hr ?_; (case hd => rfl); (case hg => rfl); (case hr => first | (go_simp; done) | (go_simp; rfl)); intro g4 hg4 w4 hbox hb; have HX := Aside0.mk (Rbox.mk (below_step HB.out hb) (blk_below CB2.out hb) (blk_below CB3.out hb) hbox G2.out G23.out (show g3 < g4 by rw [hg4]; exact blk_lt CB3.out)); clear hb hbox hg4 HB CB2 CB3 G2 G23; obtain ⟨v20, v21, v30, v31, v32, v33, v40, v41, f40, f41⟩ := HX.out.vis)
    | (go_at_call 22; (with_reducible refine (dragnetref16_Formed.calls a0_0 A0_1 c0_1 l0_1 true _ (Kd.C_below HR.out HX.out.B) HC.out HF.out).mono ?_); rintro e w5 ⟨rfl, hb⟩; have HX_ := Aside0.mk (HX.out.step hb); clear HX hb v20 v21 v30 v31 v32 v33 v40 v41 f40 f41; have HX := HX_; clear HX_; obtain ⟨v20, v21, v30, v31, v32, v33, v40, v41, f40, f41⟩ := HX.out.vis)
    | (go_at_call 37; (with_reducible refine (dragnetref16_named.calls a1_1 true _ HN.out).mono ?_); rintro e w6 ⟨rfl, hd⟩; have hb := Drawn0.below hd; clear hd; have HX_ := Aside0.mk (HX.out.step hb); clear HX hb v20 v21 v30 v31 v32 v33 v40 v41 f40 f41; have HX := HX_; clear HX_; obtain ⟨v20, v21, v30, v31, v32, v33, v40, v41, f40, f41⟩ := HX.out.vis)
    | (go_at_call 38; (with_reducible refine (dragnetref16_place.calls _ a0_0 A0_1 c0_1 l0_1 a1_1 _ _ (Kd.C_below HR.out HX.out.B) HC.out HP.out).mono ?_); rintro e w8 ⟨rfl, hb⟩; have HX_ := Aside0.mk (HX.out.step hb); clear HX hb v20 v21 v30 v31 v32 v33 v40 v41 f40 f41; have HX := HX_; clear HX_; obtain ⟨v20, v21, v30, v31, v32, v33, v40, v41, f40, f41⟩ := HX.out.vis)
    | ((with_reducible refine gate_dst (N := 7) rfl ?_); refine box_event ?hg (N := 7) ?hd (cs := #[.string ⟨#[]⟩, .slice none 0 0, .int .i64 0]) (t := 61) ?hr ?_; (case hd => rfl); (case hg => rfl); (case hr => first | (go_simp; done) | (go_simp; rfl)); intro g7 hg7 w9 hbox hb; have CB7 := Aside0.mk hbox; have G7 := Aside0.mk (show g4 < g7 by rw [hg7]; exact blk_lt HX.out.c4); have HX_ := Aside0.mk (HX.out.step hb); clear hbox hg7 hb HX v20 v21 v30 v31 v32 v33 v40 v41 f40 f41; have HX := HX_; clear HX_; obtain ⟨v20, v21, v30, v31, v32, v33, v40, v41, f40, f41⟩ := HX.out.vis; obtain ⟨v70, v71, v72, f70, f71, f72⟩ := vis7 CB7.out))
  have HX_ : Aside0 (Rbox w g2 g3 g4 #[.int .i64 a0_0, .slice A0_1 l0_1.length c0_1] #[.int .i64 a1_0, .string a1_1, .string a1_2, .slice A1_3 l1_3.length c1_3] #[.int .i64 0, .slice none 0 0] (((w9.setCell ⟨g7, 0, none⟩ (.string a1_1)).setCell ⟨g7, 1, none⟩ (.slice none 0 0)).setCell ⟨g7, 2, none⟩ (.int .i64 0))) := ⟨(Rbox.far (Rbox.far (Rbox.far HX.out G7.out 0 (.string a1_1)) G7.out 1 (.slice none 0 0)) G7.out 2 (.int .i64 0))⟩
  have CB7_ : Aside0 ((((w9.setCell ⟨g7, 0, none⟩ (.string a1_1)).setCell ⟨g7, 1, none⟩ (.slice none 0 0)).setCell ⟨g7, 2, none⟩ (.int .i64 0)).heap[g7]? = some (.cells #[.string a1_1, .slice none 0 0, .int .i64 0] 61 (0, 0))) := ⟨(blk_put (cs := #[.string a1_1, .slice none 0 0, .int .i64 0]) (blk_put (cs := #[.string a1_1, .slice none 0 0, .int .i64 0]) (blk_put (cs := #[.string ⟨#[]⟩, .slice none 0 0, .int .i64 0]) CB7.out 0 (.string a1_1) rfl) 1 (.slice none 0 0) rfl) 2 (.int .i64 0) rfl)⟩
  clear HX CB7 v20 v21 v30 v31 v32 v33 v40 v41 f40 f41 v70 v71 v72 f70 f71 f72
  generalize ((w9.setCell ⟨g7, 0, none⟩ (.string a1_1)).setCell ⟨g7, 1, none⟩ (.slice none 0 0)).setCell ⟨g7, 2, none⟩ (.int .i64 0) = W1 at *
  have HX := HX_
  have CB7 := CB7_
  clear HX_ CB7_
  obtain ⟨v20, v21, v30, v31, v32, v33, v40, v41, f40, f41⟩ := HX.out.vis
  obtain ⟨v70, v71, v72, f70, f71, f72⟩ := vis7 CB7.out
  go_upto_region 13 with (first
    | fail)
  have HV := Aside0.mk (Kd.R_nil (Kd.int .u8) 5 W1 w.heap.size (fun k => g7 < k))
  have HX_ := Aside0.mk HX.out.drew
  have CB7_ := Aside0.mk (blk_drew CB7.out)
  have HV_ := Aside0.mk (Kd.R_drew HV.out)
  clear HX CB7 HV
  have HX := HX_
  have CB7 := CB7_
  have HV := HV_
  clear HX_ CB7_ HV_
  refine start_ (n := 9) (S := fun w' => w'.cell? ⟨g2, 0, none⟩ = some (.int .i64 a0_0) ∧ w'.cell? ⟨g2, 1, none⟩ = some (.slice A0_1 l0_1.length c0_1) ∧ w'.cell? ⟨g3, 3, none⟩ = some (.slice A1_3 l1_3.length c1_3)) (ds := []) #[false, false, false, false, false, false, false, false, false] (by kernel_rfl) rfl rfl ⟨v20, v21, v33⟩ (fun hHeld => ?_)
  refine pure_ (i := 0) (N := some 75) (v := ?_) (a' := ?_) #[true, false, false, false, false, false, false, false, false] rfl rfl (by kernel_rfl) (fun _ _ _ h => h) (Or.inl ⟨by rfl, ?_⟩) ?_ ?_
  rotate_left
  · intro w'
    go_simp
    with_reducible rfl
  rotate_left
  · simp only [Act.put, List.setIfInBounds_toArray, List.set_cons_zero, List.set_cons_succ, i64_w, i32_w]
    rfl
  refine pure_ (i := 3) (N := some 78) (v := ?_) (a' := ?_) #[true, false, false, true, false, false, false, false, false] rfl rfl (by kernel_rfl) (fun _ _ _ h => h) (Or.inl ⟨by rfl, ?_⟩) ?_ ?_
  rotate_left
  · intro w'
    go_simp
    with_reducible rfl
  rotate_left
  · simp only [Act.put, List.setIfInBounds_toArray, List.set_cons_zero, List.set_cons_succ, i64_w, i32_w]
    rfl
  refine take_ (i := 1) (N := some 76) (v := ?_) (a' := ?_) #[true, true, false, true, false, false, false, false, false] rfl rfl (by kernel_rfl) (fun _ _ _ h => h) (Or.inl ⟨by rfl, ?_⟩) hHeld ?_ ?_
  rotate_left
  · rintro w' ⟨s0, s1, s2⟩
    go_simp
    with_reducible rfl
  rotate_left
  · simp only [Act.put, List.setIfInBounds_toArray, List.set_cons_zero, List.set_cons_succ, i64_w, i32_w]
    rfl
  refine pure_ (i := 2) (N := some 77) (v := ?_) (a' := ?_) #[true, true, true, true, false, false, false, false, false] rfl rfl (by kernel_rfl) (fun _ _ _ h => h) (Or.inl ⟨by rfl, ?_⟩) ?_ ?_
  rotate_left
  · intro w'
    go_simp
    with_reducible rfl
  rotate_left
  · simp only [Act.put, List.setIfInBounds_toArray, List.set_cons_zero, List.set_cons_succ, i64_w, i32_w]
    rfl
  refine take_ (i := 4) (N := some 79) (v := ?_) (a' := ?_) #[true, true, true, true, true, false, false, false, false] rfl rfl (by kernel_rfl) (fun _ _ _ h => h) (Or.inl ⟨by rfl, ?_⟩) hHeld ?_ ?_
  rotate_left
  · rintro w' ⟨s0, s1, s2⟩
    go_simp
    with_reducible rfl
  rotate_left
  · simp only [Act.put, List.setIfInBounds_toArray, List.set_cons_zero, List.set_cons_succ, i64_w, i32_w]
    rfl
  refine take_ (i := 5) (N := some 80) (v := ?_) (a' := ?_) #[true, true, true, true, true, true, false, false, false] rfl rfl (by kernel_rfl) (fun _ _ _ h => h) (Or.inl ⟨by rfl, ?_⟩) hHeld ?_ ?_
  rotate_left
  · rintro w' ⟨s0, s1, s2⟩
    go_simp
    with_reducible rfl
  rotate_left
  · simp only [Act.put, List.setIfInBounds_toArray, List.set_cons_zero, List.set_cons_succ, i64_w, i32_w]
    rfl
  refine one_ (i := 6) (N := some 81) #[true, true, true, true, true, true, true, false, false] rfl rfl (by kernel_rfl) (by decide) (fun K hK => ?_)
  refine goes_ Try.func25 (by kernel_rfl) rfl #[.agg #[.int .i64 a0_0, .slice A0_1 l0_1.length c0_1]] (by rfl) rfl rfl (by simp only [List.map_toArray, List.map_cons, List.map_nil]; rfl) ?_
  with_reducible refine (dragnetref16_Used.calls _ a0_0 A0_1 c0_1 l0_1 (totS l0_1) _ (Kd.C_below HR.out HX.out.B) HC.out HU.out).mono ?_
  rintro e w12 ⟨rfl, hb⟩
  refine ⟨_, rfl, ?_⟩
  have HB9 := Aside0.mk hb
  clear hb
  refine hK.out _ _ ⟨(pw_cell_below HB9.out v20), (pw_cell_below HB9.out v21), (pw_cell_below HB9.out v33)⟩ (fun hHeld => ?_)
  clear hK K
  refine norm_ (a' := ?_) ?_ ?_
  rotate_left
  · show Act.put _ (some 81) _ = _
    simp only [Act.put, List.setIfInBounds_toArray, List.set_cons_zero, List.set_cons_succ, i64_w, i32_w]
    rfl
  refine pure_ (i := 7) (N := some 82) (v := ?_) (a' := ?_) #[true, true, true, true, true, true, true, true, false] rfl rfl (by kernel_rfl) (fun _ _ _ h => h) (Or.inl ⟨by rfl, ?_⟩) ?_ ?_
  rotate_left
  · intro w'
    go_simp
    with_reducible rfl
  rotate_left
  · simp only [Act.put, List.setIfInBounds_toArray, List.set_cons_zero, List.set_cons_succ, i64_w, i32_w]
    rfl
  refine pure_ (i := 8) (N := some 83) (v := ?_) (a' := ?_) #[true, true, true, true, true, true, true, true, true] rfl rfl (by kernel_rfl) (fun _ _ _ h => h) (Or.inl ⟨by rfl, ?_⟩) ?_ ?_
  rotate_left
  · intro w'
    go_simp
    with_reducible rfl
  rotate_left
  · simp only [Act.put, List.setIfInBounds_toArray, List.set_cons_zero, List.set_cons_succ, i64_w, i32_w]
    rfl
  refine done_ (by kernel_rfl) ?_

  have hb := HB9.out
  clear HB9
  have HX_ := Aside0.mk (HX.out.step hb)
  have CB7_ := Aside0.mk (blk_below CB7.out hb)
  have HV_ := Aside0.mk (Kd.R_below HV.out hb)
  clear HV
  clear HX CB7 hb v20 v21 v30 v31 v32 v33 v40 v41 f40 f41 v70 v71 v72 f70 f71 f72
  have HX := HX_
  have CB7 := CB7_
  clear HX_ CB7_
  obtain ⟨v20, v21, v30, v31, v32, v33, v40, v41, f40, f41⟩ := HX.out.vis
  obtain ⟨v70, v71, v72, f70, f71, f72⟩ := vis7 CB7.out
  have HV := HV_
  clear HV_
  go_upto_region 16 with (first
    | ((with_reducible refine gate_builtin (b := .append) (xs := #[.tmp 86, .tmp 88]) rfl ?_); at_builtin; refine Kd.R_append_rows (Kd.int .u8) (w0 := w) w.heap.size rfl (.tmp 86) (.tmp 88) 25 5 (.int .u8 0) 1 rfl Try.underlying25 info5 rfl (by decide) (by omega) (.slice none 0 0) ([] : List Int) l1_3 A1_3 l1_3.length c1_3 (fun k => g7 < k) (fun _ => False) rfl rfl HV.out (Kd.C_below HR3.out HX.out.B) (fun _ _ h => h) (fun _ h => h.elim) (fun k hk => Nat.lt_of_lt_of_le (blk_lt CB7.out) hk) HX.out.B HX.out.B.size HLX.out ?_; intro v15 w15 ho hb hg hat; rw [← HY.out] at ho; obtain ⟨A15, c15, rfl⟩ := Kd.R_slice ho; have HX_ := Aside0.mk (HX.out.grown hb hg (fun k hk => Nat.lt_trans G7.out (HV.out.1 k hk))); have CB7_ := Aside0.mk (blk_grown CB7.out hg (fun e => Nat.lt_irrefl _ (HV.out.1 g7 e.symm))); clear HX CB7 HV hb hg hat v20 v21 v30 v31 v32 v33 v40 v41 f40 f41 v70 v71 v72 f70 f71 f72; have HX := HX_; have CB7 := CB7_; clear HX_ CB7_; obtain ⟨v20, v21, v30, v31, v32, v33, v40, v41, f40, f41⟩ := HX.out.vis; obtain ⟨v70, v71, v72, f70, f71, f72⟩ := vis7 CB7.out; have HV := Aside0.mk ho; clear ho))
  have HX_ : Aside0 (Rbox w g2 g3 g4 #[.int .i64 a0_0, .slice A0_1 l0_1.length c0_1] #[.int .i64 a1_0, .string a1_1, .string a1_2, .slice A1_3 l1_3.length c1_3] #[.int .i64 0, .slice none 0 0] (w15.setCell ⟨g7, 1, none⟩ (.slice A15 y.length c15))) := ⟨(Rbox.far HX.out G7.out 1 (.slice A15 y.length c15))⟩
  have CB7_ : Aside0 ((w15.setCell ⟨g7, 1, none⟩ (.slice A15 y.length c15)).heap[g7]? = some (.cells #[.string a1_1, .slice A15 y.length c15, .int .i64 0] 61 (0, 0))) := ⟨(blk_put (cs := #[.string a1_1, .slice none 0 0, .int .i64 0]) CB7.out 1 (.slice A15 y.length c15) rfl)⟩
  have HV_ := Aside0.mk (Kd.R_far (p := ⟨g7, 1, none⟩) HV.out (fun k hk => Nat.ne_of_gt hk) (.slice A15 y.length c15))
  clear HV
  clear HX CB7 v20 v21 v30 v31 v32 v33 v40 v41 f40 f41 v70 v71 v72 f70 f71 f72
  generalize w15.setCell ⟨g7, 1, none⟩ (.slice A15 y.length c15) = W4 at *
  have HX := HX_
  have CB7 := CB7_
  clear HX_ CB7_
  have HV := HV_
  clear HV_
  obtain ⟨v20, v21, v30, v31, v32, v33, v40, v41, f40, f41⟩ := HX.out.vis
  obtain ⟨v70, v71, v72, f70, f71, f72⟩ := vis7 CB7.out
  go_wp2_with (first
    | (go_at_call 39; (with_reducible refine (dragnetref16_with.calls _ a0_0 A0_1 c0_1 l0_1 a1_1 (fun k => g7 < k) A15 c15 y 0 a0_0 r2 _ (Kd.C_below HR.out HX.out.B) HC.out (Kd.R_V HV.out) HW.out).mono ?_); rintro e w20 ⟨v20_, rfl, hN, hb⟩; obtain ⟨A20, c20, rfl⟩ := Kd.N_slice hN; have HN := Aside0.mk (Kd.N_mono hN (ok' := fun k => g7 < k) (fun k hk => by have := blk_lt CB7.out; rcases hk with hk | hk <;> omega)); clear hN; have HX_ := Aside0.mk (HX.out.step hb); have CB7_ := Aside0.mk (blk_below CB7.out hb); clear HX CB7 hb v20 v21 v30 v31 v32 v33 v40 v41 f40 f41 v70 v71 v72 f70 f71 f72; have HX := HX_; have CB7 := CB7_; clear HX_ CB7_; obtain ⟨v20, v21, v30, v31, v32, v33, v40, v41, f40, f41⟩ := HX.out.vis; obtain ⟨v70, v71, v72, f70, f71, f72⟩ := vis7 CB7.out))
  refine bodyPost_ret (results_ct rfl _ _ g4 24 #[.int .i64 a0_0, .slice A20 r2.length c20] (0, 0) _ rfl (blk_put (cs := #[.int .i64 a0_0, .slice none 0 0]) (blk_put (cs := #[.int .i64 0, .slice none 0 0]) HX.out.c4 0 _ rfl) 1 _ rfl) Try.underlying24 rfl (by kernel_rfl)) rfl ?_
  exact ⟨_, rfl, Kd.V_mono (Kd.V_far (p := ⟨g4, 1, none⟩) (Kd.V_far (p := ⟨g4, 0, none⟩) (N_V HN.out) (fun k hk => Nat.ne_of_gt (Nat.lt_trans G7.out hk)) _) (fun k hk => Nat.ne_of_gt (Nat.lt_trans G7.out hk)) _) (fun k hk => Nat.le_of_lt (Nat.lt_of_le_of_lt HX.out.l (Nat.lt_trans G7.out hk))), below_set (below_set HX.out.B HX.out.l) HX.out.l⟩
set_option maxHeartbeats 4000000 in
set_option maxRecDepth 100000 in
theorem rd_rename (a0_0 : Int) (A0_1 : Option Addr) (c0_1 : Nat) (l0_1 : List S61) (a1_0 : Int) (a1_1 : ByteArray) (a1_2 : ByteArray) (A1_3 : Option Addr) (c1_3 : Nat) (l1_3 : List Int) (r1 : Int) (r2 : List S61) (r3 : Int) (w : World) (hr0_1 : Kd.C k61 w A0_1 l0_1.length l0_1) (hc0_1 : l0_1.length ≤ c0_1) (hr1_3 : Kd.C (Kd.int .u8) w A1_3 l1_3.length l1_3) (hc1_3 : l1_3.length ≤ c1_3) (hs : Far l0_1) (hf : FormedR a0_0 l0_1) (hn : nmd a1_1) (hfo : foundS l0_1 a1_1 = true) (hk : a1_0 = 3) (ht : nmd a1_2) (lE : List S61) (hE : lE.length < 2932031007401) (hwo : dragnetref16_without.f (l0_1.length + 1) a0_0 l0_1 a1_1 = some (a0_0, lE)) (hw : dragnetref16_with.f (lE.length + 1) a0_0 lE a1_2 (rd_T61 l0_1 (idxS l0_1 a1_1 : Int)).f1 (rd_T61 l0_1 (idxS l0_1 a1_1 : Int)).f2 = some (a0_0, r2)) (h1_ : a0_0 = r1) (h3_ : 0 = r3) :
    Calls Try.prog 13 #[.agg #[.int .i64 a0_0, .slice A0_1 l0_1.length c0_1], .agg #[.int .i64 a1_0, .string a1_1, .string a1_2, .slice A1_3 l1_3.length c1_3]] w fun e w' => ∃ v1_ : Value, e = .returned (.tuple #[.agg #[.int .i64 r1, v1_], .int .i64 r3]) ∧ Kd.V k61 61 w' w.heap.size (fun k_ => w.heap.size ≤ k_) v1_ r2 ∧ Below w.heap.size w w' := by
  have HR := Aside0.mk hr0_1
  have HC := Aside0.mk hc0_1
  have HR3 := Aside0.mk hr1_3
  have HC3 := Aside0.mk hc1_3
  have HB := Aside0.mk (Below.refl w.heap.size w)
  clear hr0_1 hc0_1 hr1_3 hc1_3
  have hu24 := Try.underlying24
  have hu27 := Try.underlying27
  have hu61 := Try.underlying61
  have hfl := field24
  obtain ⟨i, hi⟩ : ∃ i, i = idxS l0_1 a1_1 := ⟨_, rfl⟩
  have hin : i < l0_1.length := by rw [hi]; exact found_lt hfo
  have HIN := Aside0.mk hin
  have hl256 := hf.2.2.2.1
  obtain ⟨x, hx⟩ : ∃ x, x = rd_T61 l0_1 (i : Int) := ⟨_, rfl⟩
  have HXX := Aside0.mk hx
  have i0 := eq_true (show (0 : Int) ≤ (i : Int) by omega)
  have i1 := eq_true (show (i : Int) < (l0_1.length : Int) by omega)
  have im : decide ((i : Int) < 0) = false := decide_eq_false (by omega)
  have hlen := hs.1
  have HCP := Aside0.mk (copy_plain a0_0 l0_1 hs.reach)
  have hk1 : decide (a1_0 < 1) = false := decide_eq_false (by omega)
  have hk4 : decide (4 < a1_0) = false := decide_eq_false (by omega)
  have hq1 : decide (a1_0 = 1) = false := decide_eq_false (by omega)
  have hq1b : (a1_0 == 1) = false := by simp; omega
  have hq2 : decide (a1_0 = 2) = false := decide_eq_false (by omega)
  have hq2b : (a1_0 == 2) = false := by simp; omega
  have hq3 : decide (a1_0 = 3) = true := decide_eq_true (by omega)
  have hq3b : (a1_0 == 3) = true := by simp; omega
  have hq4 : decide (a1_0 = 4) = false := decide_eq_false (by omega)
  have hq4b : (a1_0 == 4) = false := by simp; omega
  have hne1 : decide (a1_0 ≠ 1) = true := decide_eq_true (by omega)
  have hne1b : (a1_0 != 1) = true := by simp; omega
  have HP := Aside0.mk (show dragnetref16_place.f (l0_1.length + 1) a0_0 l0_1 a1_1 = some (i : Int) by rw [place_plain a0_0 l0_1 a1_1 (formed_srt hf) (by have := hs.1; omega), hfo, ← hi]; rfl)
  have HF := Aside0.mk (show dragnetref16_Formed.f a0_0 l0_1 = some true by unfold dragnetref16_Formed.f; rw [if_pos (by have := hs.1; omega), decide_eq_true hf])
  have HN := Aside0.mk (show dragnetref16_named.f a1_1 = some true by rw [rnamed, decide_eq_true hn])
  have HW := Aside0.mk hw
  rw [← hi, ← hx] at HW
  clear hw
  have HT := Aside0.mk (show dragnetref16_named.f a1_2 = some true by rw [rnamed, decide_eq_true ht])
  have HWO := Aside0.mk hwo
  clear hwo ht hE
  clear hl256 hlen hin hx hi hs hf hn hk hfo
  subst h1_
  subst h3_
  go_enter Try.func13, Try.ntmps13
  go_upto_region 7 with (first
    | ((with_reducible refine gate_dst (N := 2) rfl ?_); refine box_event ?hg (N := 2) ?hd (cs := #[.int .i64 a0_0, .slice A0_1 l0_1.length c0_1]) (t := 24) ?hr ?_; (case hd => rfl); (case hg => rfl); (case hr => first | (go_simp; done) | (go_simp; rfl)); intro g2 hg2 w2 hbox hb; have HB2 := Aside0.mk (below_step HB.out hb); have CB2 := Aside0.mk hbox; have G2 := Aside0.mk (show w.heap.size ≤ g2 by rw [hg2]; exact below_size HB.out); clear hb hbox hg2 HB; have HB := HB2; clear HB2)
    | ((with_reducible refine gate_dst (N := 3) rfl ?_); refine box_event ?hg (N := 3) ?hd (cs := #[.int .i64 a1_0, .string a1_1, .string a1_2, .slice A1_3 l1_3.length c1_3]) (t := 27) ?hr ?_; (case hd => rfl); (case hg => rfl); (case hr => first | (go_simp; done) | (go_simp; rfl)); intro g3 hg3 w3 hbox hb; have HB3 := Aside0.mk (below_step HB.out hb); have CB3 := Aside0.mk hbox; have G23 := Aside0.mk (show g2 < g3 by rw [hg3]; exact blk_lt CB2.out); have CB2_ := Aside0.mk (blk_below CB2.out hb); clear hb hbox hg3 HB CB2; have HB := HB3; have CB2 := CB2_; clear HB3 CB2_)
    | ((with_reducible refine gate_dst (N := 4) rfl ?_); refine box_event ?hg (N := 4) ?hd (cs := #[.int .i64 0, .slice none 0 0]) (t := 24) ?hr ?_; (case hd => rfl); (case hg => rfl); (case hr => first | (go_simp; done) | (go_simp; rfl)); intro g4 hg4 w4 hbox hb; have HX := Aside0.mk (Rbox.mk (below_step HB.out hb) (blk_below CB2.out hb) (blk_below CB3.out hb) hbox G2.out G23.out (show g3 < g4 by rw [hg4]; exact blk_lt CB3.out)); clear hb hbox hg4 HB CB2 CB3 G2 G23; obtain ⟨v20, v21, v30, v31, v32, v33, v40, v41, f40, f41⟩ := HX.out.vis)
    | (go_at_call 22; (with_reducible refine (dragnetref16_Formed.calls a0_0 A0_1 c0_1 l0_1 true _ (Kd.C_below HR.out HX.out.B) HC.out HF.out).mono ?_); rintro e w5 ⟨rfl, hb⟩; have HX_ := Aside0.mk (HX.out.step hb); clear HX hb v20 v21 v30 v31 v32 v33 v40 v41 f40 f41; have HX := HX_; clear HX_; obtain ⟨v20, v21, v30, v31, v32, v33, v40, v41, f40, f41⟩ := HX.out.vis)
    | (go_at_call 37; (with_reducible refine (dragnetref16_named.calls a1_1 true _ HN.out).mono ?_); rintro e w6 ⟨rfl, hd⟩; have hb := Drawn0.below hd; clear hd; have HX_ := Aside0.mk (HX.out.step hb); clear HX hb v20 v21 v30 v31 v32 v33 v40 v41 f40 f41; have HX := HX_; clear HX_; obtain ⟨v20, v21, v30, v31, v32, v33, v40, v41, f40, f41⟩ := HX.out.vis)
    | (go_at_call 37; (with_reducible refine (dragnetref16_named.calls a1_2 true _ HT.out).mono ?_); rintro e w7 ⟨rfl, hd⟩; have hb := Drawn0.below hd; clear hd; have HX_ := Aside0.mk (HX.out.step hb); clear HX hb v20 v21 v30 v31 v32 v33 v40 v41 f40 f41; have HX := HX_; clear HX_; obtain ⟨v20, v21, v30, v31, v32, v33, v40, v41, f40, f41⟩ := HX.out.vis)
    | (go_at_call 38; (with_reducible refine (dragnetref16_place.calls _ a0_0 A0_1 c0_1 l0_1 a1_1 _ _ (Kd.C_below HR.out HX.out.B) HC.out HP.out).mono ?_); rintro e w8 ⟨rfl, hb⟩; have HX_ := Aside0.mk (HX.out.step hb); clear HX hb v20 v21 v30 v31 v32 v33 v40 v41 f40 f41; have HX := HX_; clear HX_; obtain ⟨v20, v21, v30, v31, v32, v33, v40, v41, f40, f41⟩ := HX.out.vis)
    | ((with_reducible refine gate_dst (N := 7) rfl ?_); refine box_event ?hg (N := 7) ?hd (cs := #[.string ⟨#[]⟩, .slice none 0 0, .int .i64 0]) (t := 61) ?hr ?_; (case hd => rfl); (case hg => rfl); (case hr => first | (go_simp; done) | (go_simp; rfl)); intro g7 hg7 w9 hbox hb; have CB7 := Aside0.mk hbox; have G7 := Aside0.mk (show g4 < g7 by rw [hg7]; exact blk_lt HX.out.c4); have HX_ := Aside0.mk (HX.out.step hb); clear hbox hg7 hb HX v20 v21 v30 v31 v32 v33 v40 v41 f40 f41; have HX := HX_; clear HX_; obtain ⟨v20, v21, v30, v31, v32, v33, v40, v41, f40, f41⟩ := HX.out.vis; obtain ⟨v70, v71, v72, f70, f71, f72⟩ := vis7 CB7.out))
  have HX_ : Aside0 (Rbox w g2 g3 g4 #[.int .i64 a0_0, .slice A0_1 l0_1.length c0_1] #[.int .i64 a1_0, .string a1_1, .string a1_2, .slice A1_3 l1_3.length c1_3] #[.int .i64 0, .slice none 0 0] (((w9.setCell ⟨g7, 0, none⟩ (.string a1_1)).setCell ⟨g7, 1, none⟩ (.slice none 0 0)).setCell ⟨g7, 2, none⟩ (.int .i64 0))) := ⟨(Rbox.far (Rbox.far (Rbox.far HX.out G7.out 0 (.string a1_1)) G7.out 1 (.slice none 0 0)) G7.out 2 (.int .i64 0))⟩
  have CB7_ : Aside0 ((((w9.setCell ⟨g7, 0, none⟩ (.string a1_1)).setCell ⟨g7, 1, none⟩ (.slice none 0 0)).setCell ⟨g7, 2, none⟩ (.int .i64 0)).heap[g7]? = some (.cells #[.string a1_1, .slice none 0 0, .int .i64 0] 61 (0, 0))) := ⟨(blk_put (cs := #[.string a1_1, .slice none 0 0, .int .i64 0]) (blk_put (cs := #[.string a1_1, .slice none 0 0, .int .i64 0]) (blk_put (cs := #[.string ⟨#[]⟩, .slice none 0 0, .int .i64 0]) CB7.out 0 (.string a1_1) rfl) 1 (.slice none 0 0) rfl) 2 (.int .i64 0) rfl)⟩
  clear HX CB7 v20 v21 v30 v31 v32 v33 v40 v41 f40 f41 v70 v71 v72 f70 f71 f72
  generalize ((w9.setCell ⟨g7, 0, none⟩ (.string a1_1)).setCell ⟨g7, 1, none⟩ (.slice none 0 0)).setCell ⟨g7, 2, none⟩ (.int .i64 0) = W1 at *
  have HX := HX_
  have CB7 := CB7_
  clear HX_ CB7_
  obtain ⟨v20, v21, v30, v31, v32, v33, v40, v41, f40, f41⟩ := HX.out.vis
  obtain ⟨v70, v71, v72, f70, f71, f72⟩ := vis7 CB7.out
  have HB0 := Aside0.mk (below_size HX.out.B)
  go_upto_region 9 with (first
    | (go_at_call 10; (with_reducible refine (dragnetref16_Copy.calls _ a0_0 A0_1 c0_1 l0_1 a0_0 l0_1 _ (Kd.C_below HR.out HX.out.B) HC.out HCP.out).mono ?_); rintro e w10 ⟨v10, rfl, hS, hb⟩; obtain ⟨A10, c10, rfl⟩ := Kd.S_slice hS; have HS := Aside0.mk (Kd.S_mono (Kd.S_bound hS) (ok' := fun k => g7 < k) (fun k hk => by have := hk.2.1; have := blk_lt CB7.out; omega)); clear hS; have HX_ := Aside0.mk (HX.out.step hb); have CB7_ := Aside0.mk (blk_below CB7.out hb); clear HX CB7 hb v20 v21 v30 v31 v32 v33 v40 v41 f40 f41 v70 v71 v72 f70 f71 f72; have HX := HX_; have CB7 := CB7_; clear HX_ CB7_; obtain ⟨v20, v21, v30, v31, v32, v33, v40, v41, f40, f41⟩ := HX.out.vis; obtain ⟨v70, v71, v72, f70, f71, f72⟩ := vis7 CB7.out; obtain ⟨go, cap, hv, GO1, GO2, _⟩ := Kd.S_form HS.out (by have := HIN.out; omega); injection hv with e1 e2 e3; subst e1; subst e3; clear e2 GO1 GO2; obtain ⟨oki, c, hcl, hM, hcc, hfr, hoki, hH⟩ := Kd.S_elem HS.out z61 (i : Int) (by omega) (by have := HIN.out; omega); rw [show l0_1.getD (i : Int).toNat z61 = x from HXX.out.symm] at hM; obtain ⟨v1, rfl, hv1⟩ := k61_openM hM; obtain ⟨A1, c1, rfl⟩ := Kd.R_slice hv1; have HV := Aside0.mk (Kd.R_lower (Kd.R_mono hv1 (ok' := fun k => g7 < k) (fun k hk => (hoki k hk).1)) HB0.out); have hz0 : w10.cell? ⟨go, i * 3, none⟩ = some (.string x.f0) := hcc 0 _ rfl; have hz1 : w10.cell? ⟨go, i * 3 + 1, none⟩ = some (.slice A1 x.f1.length c1) := hcc 1 _ rfl; have hz2 : w10.cell? ⟨go, i * 3 + 2, none⟩ = some (.int .i64 x.f2) := hcc 2 _ rfl; clear hcl hM hcc hfr hoki hH hv1))
  have HX_ : Aside0 (Rbox w g2 g3 g4 #[.int .i64 a0_0, .slice A0_1 l0_1.length c0_1] #[.int .i64 a1_0, .string a1_1, .string a1_2, .slice A1_3 l1_3.length c1_3] #[.int .i64 0, .slice none 0 0] (((w10.setCell ⟨g7, 0, none⟩ (.string x.f0)).setCell ⟨g7, 1, none⟩ (.slice A1 x.f1.length c1)).setCell ⟨g7, 2, none⟩ (.int .i64 x.f2))) := ⟨(Rbox.far (Rbox.far (Rbox.far HX.out G7.out 0 (.string x.f0)) G7.out 1 (.slice A1 x.f1.length c1)) G7.out 2 (.int .i64 x.f2))⟩
  have CB7_ : Aside0 ((((w10.setCell ⟨g7, 0, none⟩ (.string x.f0)).setCell ⟨g7, 1, none⟩ (.slice A1 x.f1.length c1)).setCell ⟨g7, 2, none⟩ (.int .i64 x.f2)).heap[g7]? = some (.cells #[.string x.f0, .slice A1 x.f1.length c1, .int .i64 x.f2] 61 (0, 0))) := ⟨(blk_put (cs := #[.string x.f0, .slice A1 x.f1.length c1, .int .i64 0]) (blk_put (cs := #[.string x.f0, .slice none 0 0, .int .i64 0]) (blk_put (cs := #[.string a1_1, .slice none 0 0, .int .i64 0]) CB7.out 0 (.string x.f0) rfl) 1 (.slice A1 x.f1.length c1) rfl) 2 (.int .i64 x.f2) rfl)⟩
  have HV_ := Aside0.mk (Kd.R_far (p := ⟨g7, 2, none⟩) (Kd.R_far (p := ⟨g7, 1, none⟩) (Kd.R_far (p := ⟨g7, 0, none⟩) HV.out (fun k hk => Nat.ne_of_gt hk) (.string x.f0)) (fun k hk => Nat.ne_of_gt hk) (.slice A1 x.f1.length c1)) (fun k hk => Nat.ne_of_gt hk) (.int .i64 x.f2))
  clear HV
  clear HX CB7 v20 v21 v30 v31 v32 v33 v40 v41 f40 f41 v70 v71 v72 f70 f71 f72
  clear hz0 hz1 hz2 HS
  generalize ((w10.setCell ⟨g7, 0, none⟩ (.string x.f0)).setCell ⟨g7, 1, none⟩ (.slice A1 x.f1.length c1)).setCell ⟨g7, 2, none⟩ (.int .i64 x.f2) = W2 at *
  have HX := HX_
  have CB7 := CB7_
  clear HX_ CB7_
  have HV := HV_
  clear HV_
  obtain ⟨v20, v21, v30, v31, v32, v33, v40, v41, f40, f41⟩ := HX.out.vis
  obtain ⟨v70, v71, v72, f70, f71, f72⟩ := vis7 CB7.out
  go_upto_region 22 with (first
    | fail)
  have HX_ : Aside0 (Rbox w g2 g3 g4 #[.int .i64 a0_0, .slice A0_1 l0_1.length c0_1] #[.int .i64 a1_0, .string a1_1, .string a1_2, .slice A1_3 l1_3.length c1_3] #[.int .i64 0, .slice none 0 0] (W2.setCell ⟨g7, 0, none⟩ (.string a1_2))) := ⟨(Rbox.far HX.out G7.out 0 (.string a1_2))⟩
  have CB7_ : Aside0 ((W2.setCell ⟨g7, 0, none⟩ (.string a1_2)).heap[g7]? = some (.cells #[.string a1_2, .slice A1 x.f1.length c1, .int .i64 x.f2] 61 (0, 0))) := ⟨(blk_put (cs := #[.string x.f0, .slice A1 x.f1.length c1, .int .i64 x.f2]) CB7.out 0 (.string a1_2) rfl)⟩
  have HV_ := Aside0.mk (Kd.R_far (p := ⟨g7, 0, none⟩) HV.out (fun k hk => Nat.ne_of_gt hk) (.string a1_2))
  clear HV
  clear HX CB7 v20 v21 v30 v31 v32 v33 v40 v41 f40 f41 v70 v71 v72 f70 f71 f72
  generalize W2.setCell ⟨g7, 0, none⟩ (.string a1_2) = W3 at *
  have HX := HX_
  have CB7 := CB7_
  clear HX_ CB7_
  have HV := HV_
  clear HV_
  obtain ⟨v20, v21, v30, v31, v32, v33, v40, v41, f40, f41⟩ := HX.out.vis
  obtain ⟨v70, v71, v72, f70, f71, f72⟩ := vis7 CB7.out
  have HX_ := Aside0.mk HX.out.drew
  have CB7_ := Aside0.mk (blk_drew CB7.out)
  have HV_ := Aside0.mk (Kd.R_drew HV.out)
  clear HX CB7 HV
  have HX := HX_
  have CB7 := CB7_
  have HV := HV_
  clear HX_ CB7_ HV_
  refine start_ (n := 8) (S := fun w' => w'.cell? ⟨g2, 0, none⟩ = some (.int .i64 a0_0) ∧ w'.cell? ⟨g2, 1, none⟩ = some (.slice A0_1 l0_1.length c0_1) ∧ w'.cell? ⟨g3, 1, none⟩ = some (.string a1_1) ∧ w'.cell? ⟨g7, 0, none⟩ = some (.string a1_2) ∧ w'.cell? ⟨g7, 1, none⟩ = some (.slice A1 x.f1.length c1) ∧ w'.cell? ⟨g7, 2, none⟩ = some (.int .i64 x.f2)) (ds := [6]) #[false, false, false, false, false, false, false, false] (by kernel_rfl) rfl rfl ⟨v20, v21, v31, v70, v71, v72⟩ (fun hHeld => ?_)
  refine pure_ (i := 1) (N := some 109) (v := ?_) (a' := ?_) #[false, true, false, false, false, false, false, false] rfl rfl (by kernel_rfl) (fun _ _ _ h => h) (Or.inl ⟨by rfl, ?_⟩) ?_ ?_
  rotate_left
  · intro w'
    go_simp
    with_reducible rfl
  rotate_left
  · simp only [Act.put, List.setIfInBounds_toArray, List.set_cons_zero, List.set_cons_succ, i64_w, i32_w]
    rfl
  refine take_ (i := 0) (N := some 108) (v := ?_) (a' := ?_) #[true, true, false, false, false, false, false, false] rfl rfl (by kernel_rfl) (fun _ _ _ h => h) (Or.inl ⟨by rfl, ?_⟩) hHeld ?_ ?_
  rotate_left
  · rintro w' ⟨s0, s1, s2, s3, s4, s5⟩
    go_simp
    with_reducible rfl
  rotate_left
  · simp only [Act.put, List.setIfInBounds_toArray, List.set_cons_zero, List.set_cons_succ, i64_w, i32_w]
    rfl
  refine take_ (i := 2) (N := some 110) (v := ?_) (a' := ?_) #[true, true, true, false, false, false, false, false] rfl rfl (by kernel_rfl) (fun _ _ _ h => h) (Or.inl ⟨by rfl, ?_⟩) hHeld ?_ ?_
  rotate_left
  · rintro w' ⟨s0, s1, s2, s3, s4, s5⟩
    go_simp
    with_reducible rfl
  rotate_left
  · simp only [Act.put, List.setIfInBounds_toArray, List.set_cons_zero, List.set_cons_succ, i64_w, i32_w]
    rfl
  refine take_ (i := 4) (N := some 112) (v := ?_) (a' := ?_) #[true, true, true, false, true, false, false, false] rfl rfl (by kernel_rfl) (fun _ _ _ h => h) (Or.inl ⟨by rfl, ?_⟩) hHeld ?_ ?_
  rotate_left
  · rintro w' ⟨s0, s1, s2, s3, s4, s5⟩
    go_simp
    with_reducible rfl
  rotate_left
  · simp only [Act.put, List.setIfInBounds_toArray, List.set_cons_zero, List.set_cons_succ, i64_w, i32_w]
    rfl
  refine one_ (i := 3) (N := some 111) #[true, true, true, true, true, false, false, false] rfl rfl (by kernel_rfl) (by decide) (fun K hK => ?_)
  refine goes_ Try.func40 (by kernel_rfl) rfl #[.agg #[.int .i64 a0_0, .slice A0_1 l0_1.length c0_1], .string a1_1] (by rfl) rfl rfl (by simp only [List.map_toArray, List.map_cons, List.map_nil]; rfl) ?_
  with_reducible refine (dragnetref16_without.calls _ a0_0 A0_1 c0_1 l0_1 a1_1 a0_0 lE _ (Kd.C_below HR.out HX.out.B) HC.out HWO.out).mono ?_
  rintro e w18 ⟨v18_, rfl, hN, hb⟩
  refine ⟨_, rfl, ?_⟩
  obtain ⟨A18, c18, rfl⟩ := Kd.N_slice hN
  have HE := Aside0.mk (Kd.N_reads' hN)
  have HB9 := Aside0.mk hb
  clear hb hN
  refine hK.out _ _ ⟨(pw_cell_below HB9.out v20), (pw_cell_below HB9.out v21), (pw_cell_below HB9.out v31), (pw_cell_below HB9.out v70), (pw_cell_below HB9.out v71), (pw_cell_below HB9.out v72)⟩ (fun hHeld => ?_)
  clear hK K
  refine norm_ (a' := ?_) ?_ ?_
  rotate_left
  · show Act.put _ (some 111) _ = _
    simp only [Act.put, List.setIfInBounds_toArray, List.set_cons_zero, List.set_cons_succ, i64_w, i32_w]
    rfl
  refine one_ (i := 5) (N := some 113) #[true, true, true, true, true, true, false, false] rfl rfl (by kernel_rfl) (by decide) (fun K hK => ?_)
  have HX_ := Aside0.mk (HX.out.step HB9.out)
  have CB7_ := Aside0.mk (blk_below CB7.out HB9.out)
  have HV_ := Aside0.mk (Kd.R_below HV.out HB9.out)
  refine goes_ Try.func39 (by kernel_rfl) rfl #[.agg #[.int .i64 a0_0, .slice A18 lE.length c18], .agg #[.string a1_2, .slice A1 x.f1.length c1, .int .i64 x.f2]] (by rfl) rfl rfl (by simp only [List.map_toArray, List.map_cons, List.map_nil]; rfl) ?_
  with_reducible refine (dragnetref16_with.calls _ a0_0 A18 c18 lE a1_2 (fun k => g7 < k) A1 c1 x.f1 x.f2 a0_0 r2 _ HE.out.2.2 HE.out.2.1 (Kd.R_V HV_.out) HW.out).mono ?_
  rintro e w20 ⟨v20_, rfl, hN, hb⟩
  refine ⟨_, rfl, ?_⟩
  obtain ⟨A20, c20, rfl⟩ := Kd.N_slice hN
  have HN := Aside0.mk (Kd.N_mono hN (ok' := fun k => g7 < k) (fun k hk => by have := blk_lt CB7_.out; rcases hk with hk | hk <;> omega))
  have HB20 := Aside0.mk hb
  clear hb hN
  refine hK.out _ _ ⟨(pw_cell_below HB20.out (pw_cell_below HB9.out v20)), (pw_cell_below HB20.out (pw_cell_below HB9.out v21)), (pw_cell_below HB20.out (pw_cell_below HB9.out v31)), (pw_cell_below HB20.out (pw_cell_below HB9.out v70)), (pw_cell_below HB20.out (pw_cell_below HB9.out v71)), (pw_cell_below HB20.out (pw_cell_below HB9.out v72))⟩ (fun hHeld => ?_)
  clear hK K
  refine norm_ (a' := ?_) ?_ ?_
  rotate_left
  · show Act.put _ (some 113) _ = _
    simp only [Act.put, List.setIfInBounds_toArray, List.set_cons_zero, List.set_cons_succ, i64_w, i32_w]
    rfl
  refine last_ (i := 6) (N := none) #[true, true, true, true, true, true, true, false] rfl rfl (by kernel_rfl) (by decide) (fun K hK => ?_)
  have HX20 := Aside0.mk (HX_.out.step HB20.out)
  have v40d : w20.cell? ⟨g4, 0, none⟩ = some (.int .i64 0) := (blk_cell HX20.out.c4 0).trans rfl
  have v41d : w20.cell? ⟨g4, 1, none⟩ = some (.slice none 0 0) := (blk_cell HX20.out.c4 1).trans rfl
  have f40d := blk_frozen HX20.out.c4 0
  have f41d := blk_frozen HX20.out.c4 1
  refine skip_ (w1 := ?_) (by rfl) rfl ?_ ?_
  rotate_left
  · go_simp
    rfl
  refine hK.out _ _ ?_
  clear hK K
  refine pure_ (i := 7) (N := some 5) (v := ?_) (a' := ?_) #[true, true, true, true, true, true, true, true] rfl rfl (by kernel_rfl) (fun _ _ _ h => h) (Or.inl ⟨by rfl, ?_⟩) ?_ ?_
  rotate_left
  · intro w'
    go_simp
    with_reducible rfl
  rotate_left
  · simp only [Act.put, List.setIfInBounds_toArray, List.set_cons_zero, List.set_cons_succ, i64_w, i32_w]
    rfl
  refine done_ (by kernel_rfl) ?_

  clear HX v20 v21 v30 v31 v32 v33 v40 v41 f40 f41 v70 v71 v72 f70 f71 f72
  have HX := HX20
  go_wp2
  refine bodyPost_ret (results_ct rfl _ _ g4 24 #[.int .i64 a0_0, .slice A20 r2.length c20] (0, 0) _ rfl (blk_put (cs := #[.int .i64 a0_0, .slice none 0 0]) (blk_put (cs := #[.int .i64 0, .slice none 0 0]) HX.out.c4 0 _ rfl) 1 _ rfl) Try.underlying24 rfl (by kernel_rfl)) rfl ?_
  exact ⟨_, rfl, Kd.V_mono (Kd.V_far (p := ⟨g4, 1, none⟩) (Kd.V_far (p := ⟨g4, 0, none⟩) (N_V HN.out) (fun k hk => Nat.ne_of_gt (Nat.lt_trans G7.out hk)) _) (fun k hk => Nat.ne_of_gt (Nat.lt_trans G7.out hk)) _) (fun k hk => Nat.le_of_lt (Nat.lt_of_le_of_lt HX.out.l (Nat.lt_trans G7.out hk))), below_set (below_set HX.out.B HX.out.l) HX.out.l⟩
theorem with_set {room : Int} {l : List S61} {n : ByteArray} (hs : Far l) (hf : FormedR room l) (hfo : foundS l n = true) (b : List Int) (s : Int) : dragnetref16_with.f (l.length + 1) room l (rd_T61 l (idxS l n : Int)).f0 b s = some (room, l.set (idxS l n) ⟨(rd_T61 l (idxS l n : Int)).f0, b, s⟩) := by
  have h := with_plain room l ⟨(rd_T61 l (idxS l n : Int)).f0, b, s⟩ hs.reach hs.1 (formed_srt hf)
  unfold wiL at h
  simp only [found_name hfo] at h ⊢
  rw [hfo, if_pos rfl] at h
  exact h
theorem with_new {room : Int} {l : List S61} {n : ByteArray} (hs : Far l) (hf : FormedR room l) (hfo : foundS l n = false) (b : List Int) (s : Int) : dragnetref16_with.f (l.length + 1) room l n b s = some (room, putAt l (idxS l n) ⟨n, b, s⟩) := by
  have h := with_plain room l ⟨n, b, s⟩ hs.reach hs.1 (formed_srt hf)
  unfold wiL at h
  simp only [] at h
  rw [hfo, if_neg Bool.false_ne_true] at h
  exact h
def dragnetref16_Do.f (a0_0 : Int) (l0_1 : List S61) (a1_0 : Int) (a1_1 : ByteArray) (a1_2 : ByteArray) (l1_3 : List Int) : Option (Int × List S61 × Int) := if (l0_1.length < 2932031007401 ∧ ∀ x ∈ l0_1, x.f1.length ≤ 140737488351232) ∧ l1_3.length ≤ 140737488351232 then some (doR a0_0 l0_1 a1_0 a1_1 a1_2 l1_3) else none
theorem dragnetref16_Do.calls (a0_0 : Int) (A0_1 : Option Addr) (c0_1 : Nat) (l0_1 : List S61) (a1_0 : Int) (a1_1 : ByteArray) (a1_2 : ByteArray) (A1_3 : Option Addr) (c1_3 : Nat) (l1_3 : List Int) (r1 : Int) (r2 : List S61) (r3 : Int) (w : World) (hr0_1 : Kd.C k61 w A0_1 l0_1.length l0_1) (hc0_1 : l0_1.length ≤ c0_1) (hr1_3 : Kd.C (Kd.int .u8) w A1_3 l1_3.length l1_3) (hc1_3 : l1_3.length ≤ c1_3) (h : dragnetref16_Do.f a0_0 l0_1 a1_0 a1_1 a1_2 l1_3 = some (r1, r2, r3)) :
    Calls Try.prog 13 #[.agg #[.int .i64 a0_0, .slice A0_1 l0_1.length c0_1], .agg #[.int .i64 a1_0, .string a1_1, .string a1_2, .slice A1_3 l1_3.length c1_3]] w fun e w' => ∃ v1_ : Value, e = .returned (.tuple #[.agg #[.int .i64 r1, v1_], .int .i64 r3]) ∧ Kd.V k61 61 w' w.heap.size (fun k_ => w.heap.size ≤ k_) v1_ r2 ∧ Below w.heap.size w w' := by
  unfold dragnetref16_Do.f at h
  by_cases hb : (l0_1.length < 2932031007401 ∧ ∀ x ∈ l0_1, x.f1.length ≤ 140737488351232) ∧ l1_3.length ≤ 140737488351232
  case neg => rw [if_neg hb] at h; cases h
  rw [if_pos hb] at h
  obtain ⟨hs, hm⟩ := hb
  have he := Option.some.inj h
  clear h
  have hs : Far l0_1 := hs
  unfold doR at he
  by_cases hf : FormedR a0_0 l0_1
  case neg =>
    rw [if_pos (.inl hf)] at he
    exact rd_bad1 a0_0 A0_1 c0_1 l0_1 a1_0 a1_1 a1_2 A1_3 c1_3 l1_3 r1 r2 r3 w hr0_1 hc0_1 hr1_3 hc1_3 hs hf he
  by_cases hn : nmd a1_1
  case neg =>
    rw [if_pos (.inr (.inl hn))] at he
    exact rd_bad2 a0_0 A0_1 c0_1 l0_1 a1_0 a1_1 a1_2 A1_3 c1_3 l1_3 r1 r2 r3 w hr0_1 hc0_1 hr1_3 hc1_3 hs hf hn he
  by_cases k1 : a1_0 < 1
  · rw [if_pos (.inr (.inr (.inl k1)))] at he
    exact rd_bad3 a0_0 A0_1 c0_1 l0_1 a1_0 a1_1 a1_2 A1_3 c1_3 l1_3 r1 r2 r3 w hr0_1 hc0_1 hr1_3 hc1_3 hs hf hn k1 he
  by_cases k4 : 4 < a1_0
  · rw [if_pos (.inr (.inr (.inr k4)))] at he
    exact rd_bad4 a0_0 A0_1 c0_1 l0_1 a1_0 a1_1 a1_2 A1_3 c1_3 l1_3 r1 r2 r3 w hr0_1 hc0_1 hr1_3 hc1_3 hs hf hn k4 he
  have hk : 1 ≤ a1_0 ∧ a1_0 ≤ 4 := by omega
  rw [if_neg (fun h => by rcases h with h | h | h | h; exact h hf; exact h hn; exact k1 h; exact k4 h)] at he
  by_cases h3 : a1_0 = 3
  · by_cases ht : nmd a1_2
    case neg =>
      rw [if_pos ⟨h3, ht⟩] at he
      exact rd_bad5 a0_0 A0_1 c0_1 l0_1 a1_0 a1_1 a1_2 A1_3 c1_3 l1_3 r1 r2 r3 w hr0_1 hc0_1 hr1_3 hc1_3 hs hf hn h3 ht he
    rw [if_neg (fun h => h.2 ht)] at he
    cases hfo : foundS l0_1 a1_1 with
    | false =>
      rw [if_pos ⟨hfo, by omega⟩] at he
      exact rd_bad7 a0_0 A0_1 c0_1 l0_1 a1_0 a1_1 a1_2 A1_3 c1_3 l1_3 r1 r2 r3 w hr0_1 hc0_1 hr1_3 hc1_3 hs hf hn hfo h3 ht he
    | true =>
      rw [if_neg (fun h => by rw [hfo] at h; cases h.1), if_neg (fun h => by have := h.1; omega), if_neg (fun h => by have := h.1; omega)] at he
      unfold doL at he
      simp only [] at he
      rw [if_neg (by omega), if_neg (by omega), if_neg (by omega)] at he
      injection he with he1 he2
      injection he2 with he2 he3
      have hi := found_lt hfo
      have hw1 := without_plain a0_0 l0_1 a1_1 hs.reach (formed_srt hf)
      have hwe : wo l0_1 a1_1 = l0_1.eraseIdx (idxS l0_1 a1_1) := by unfold wo; rw [hfo, if_pos rfl]
      have hlen := wo_len l0_1 a1_1
      have hre : Reach (wo l0_1 a1_1) := ⟨by have := hs.1; omega, fun x hx => hs.2 x (wo_mem hx)⟩
      have hw2 := with_plain a0_0 (wo l0_1 a1_1) ⟨a1_2, (rd_T61 l0_1 (idxS l0_1 a1_1 : Int)).f1, (rd_T61 l0_1 (idxS l0_1 a1_1 : Int)).f2⟩ hre (by have := hs.1; omega) (wo_srt (formed_srt hf) a1_1)
      have hr2 : wiL (wo l0_1 a1_1) ⟨a1_2, (rd_T61 l0_1 (idxS l0_1 a1_1 : Int)).f1, (rd_T61 l0_1 (idxS l0_1 a1_1 : Int)).f2⟩ = r2 := by
        rw [← he2, hwe]
        rfl
      rw [hr2] at hw2
      exact rd_rename a0_0 A0_1 c0_1 l0_1 a1_0 a1_1 a1_2 A1_3 c1_3 l1_3 r1 r2 r3 w hr0_1 hc0_1 hr1_3 hc1_3 hs hf hn hfo h3 ht _ (by have := hs.1; omega) hw1 hw2 he1 he3
  · rw [if_neg (fun h => h3 h.1)] at he
    by_cases h1 : a1_0 = 1
    · rw [if_neg (fun h => h.2 h1)] at he
      cases hfo : foundS l0_1 a1_1 with
      | true =>
        rw [if_neg (fun h => by rw [hfo] at h; cases h.2.1)] at he
        by_cases hsp : totS l0_1 + (l1_3.length : Int) > a0_0
        · rw [if_pos ⟨h1, hsp⟩] at he
          injection he with he1 he2
          exact rd_bad9 a0_0 A0_1 c0_1 l0_1 a1_0 a1_1 a1_2 A1_3 c1_3 l1_3 r1 r2 r3 w hr0_1 hc0_1 hr1_3 hc1_3 hs hf hn hfo h1 hm hsp he2 he1
        · rw [if_neg (fun h => hsp h.2)] at he
          unfold doL at he
          simp only [] at he
          rw [if_pos h1, if_pos hfo] at he
          injection he with he1 he2
          injection he2 with he2 he3
          exact rd_app a0_0 A0_1 c0_1 l0_1 a1_0 a1_1 a1_2 A1_3 c1_3 l1_3 r1 r2 r3 w hr0_1 hc0_1 hr1_3 hc1_3 hs hf hn hfo h1 hm (by omega) (by rw [← he2]; exact with_set hs hf hfo _ _) he1 he3
      | false =>
        by_cases hl : l0_1.length = 256
        · rw [if_pos ⟨h1, hfo, hl⟩] at he
          exact rd_bad8 a0_0 A0_1 c0_1 l0_1 a1_0 a1_1 a1_2 A1_3 c1_3 l1_3 r1 r2 r3 w hr0_1 hc0_1 hr1_3 hc1_3 hs hf hn hfo h1 hl he
        · rw [if_neg (fun h => hl h.2.2)] at he
          by_cases hsp : totS l0_1 + (l1_3.length : Int) > a0_0
          · rw [if_pos ⟨h1, hsp⟩] at he
            exact rd_bad10 a0_0 A0_1 c0_1 l0_1 a1_0 a1_1 a1_2 A1_3 c1_3 l1_3 r1 r2 r3 w hr0_1 hc0_1 hr1_3 hc1_3 hs hf hn hfo h1 hl hm hsp he
          · rw [if_neg (fun h => hsp h.2)] at he
            unfold doL at he
            simp only [] at he
            rw [if_pos h1, if_neg (by rw [hfo]; decide)] at he
            injection he with he1 he2
            injection he2 with he2 he3
            exact rd_new a0_0 A0_1 c0_1 l0_1 a1_0 a1_1 a1_2 A1_3 c1_3 l1_3 r1 r2 r3 w hr0_1 hc0_1 hr1_3 hc1_3 hs hf hn hfo h1 hl hm (by omega) (by rw [← he2]; exact with_new hs hf hfo _ _) he1 he3
    · cases hfo : foundS l0_1 a1_1 with
      | false =>
        rw [if_pos ⟨hfo, h1⟩] at he
        exact rd_bad6 a0_0 A0_1 c0_1 l0_1 a1_0 a1_1 a1_2 A1_3 c1_3 l1_3 r1 r2 r3 w hr0_1 hc0_1 hr1_3 hc1_3 hs hf hn hk hfo h1 h3 he
      | true =>
        rw [if_neg (fun h => by rw [hfo] at h; cases h.1), if_neg (fun h => h1 h.1), if_neg (fun h => h1 h.1)] at he
        unfold doL at he
        simp only [] at he
        rw [if_neg h1] at he
        by_cases h2 : a1_0 = 2
        · rw [if_pos h2] at he
          injection he with he1 he2
          injection he2 with he2 he3
          exact rd_sync a0_0 A0_1 c0_1 l0_1 a1_0 a1_1 a1_2 A1_3 c1_3 l1_3 r1 r2 r3 w hr0_1 hc0_1 hr1_3 hc1_3 hs hf hn hfo h2 (by rw [← he2]; exact with_set hs hf hfo _ _) he1 he3
        · have h4 : a1_0 = 4 := by omega
          rw [if_neg h2, if_pos h4] at he
          injection he with he1 he2
          injection he2 with he2 he3
          have hw1 := without_plain a0_0 l0_1 a1_1 hs.reach (formed_srt hf)
          have hwe : wo l0_1 a1_1 = l0_1.eraseIdx (idxS l0_1 a1_1) := by unfold wo; rw [hfo, if_pos rfl]
          rw [hwe, he2] at hw1
          exact rd_remove a0_0 A0_1 c0_1 l0_1 a1_0 a1_1 a1_2 A1_3 c1_3 l1_3 r1 r2 r3 w hr0_1 hc0_1 hr1_3 hc1_3 hs hf hn hfo h4 hw1 he1 he3
end Go.Proofs.Ytopjdjljpkcdlaa.D
