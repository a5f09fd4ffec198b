/- The plain law behind the printed walk (namespace S): what the functions come to. -/
import Derived.Test.YtopjdjljpkcdlaaTsSx12
namespace Go.Proofs.Ytopjdjljpkcdlaa.S
open Go.RowKit Go.Proofs.YtopjdjljpkcdlaaW.PrintWords Go.Proofs.YtopjdjljpkcdlaaW.PrintLast Go.Proofs.YtopjdjljpkcdlaaW.PrintMore
open Go.Maps
set_option linter.unusedVariables false
set_option linter.unusedSimpArgs false
theorem rdm (l : List S61) (i : Nat) (h : i < l.length) : rd_T61 l (i : Int) ∈ l := by
  unfold rd_T61
  rw [Int.toNat_natCast, List.getD_eq_getElem?_getD, List.getElem?_eq_getElem h]
  exact List.getElem_mem h
theorem take_snoc (l : List S61) (i : Nat) (h : i < l.length) : l.take i ++ [rd_T61 l (i : Int)] = l.take (i + 1) := by
  unfold rd_T61
  rw [Int.toNat_natCast, List.getD_eq_getElem?_getD, List.getElem?_eq_getElem h, List.take_succ_eq_append_getElem h]
  rfl
def Reach (l : List S61) : Prop := l.length < 2932031007402 ∧ ∀ x ∈ l, x.f1.length ≤ 140737488351232
theorem Reach.small {l : List S61} (h : Reach l) : SmallD l := ⟨by have := h.1; omega, h.2⟩
theorem copy1 (l : List Int) (h : l.length ≤ 140737488351232) : dragnetref01_Copy.f l = some l := by
  unfold dragnetref01_Copy.f
  rw [Option.bind_some, if_pos (by simp; omega)]
  rfl
theorem copy_l0 (room : Int) (l : List S61) (hr : Reach l) : ∀ m i : Nat, l.length - i = m → i ≤ l.length → dragnetref16_Copy.l0 (m + 1) (i : Int) room l room (l.take i) = some (room, l)
  | 0, i, hm, hi => by
    obtain rfl : i = l.length := by omega
    rw [dragnetref16_Copy.l0, if_neg (Int.lt_irrefl _), List.take_length]
  | m + 1, i, hm, hi => by
    have hlt : i < l.length := by omega
    have h1 := hr.1
    rw [dragnetref16_Copy.l0, if_pos (by omega), if_pos (by omega), copy1 _ (hr.2 _ (rdm l i hlt)), Option.bind_some, if_pos (by rw [List.length_take]; omega), wr64 (by omega)]
    rw [show (⟨(rd_T61 l (i : Int)).f0, (rd_T61 l (i : Int)).f1, (rd_T61 l (i : Int)).f2⟩ : S61) = rd_T61 l (i : Int) from rfl, take_snoc l i hlt, show (i : Int) + 1 = ((i + 1 : Nat) : Int) by omega]
    exact copy_l0 room l hr m (i + 1) (by omega) hlt
theorem copy_plain (room : Int) (l : List S61) (hr : Reach l) : dragnetref16_Copy.f (l.length + 1) room l = some (room, l) := copy_l0 room l hr l.length 0 (by omega) (by omega)
theorem same1 (l : List Int) : dragnetref01_Same.f l l = some true := by
  unfold dragnetref01_Same.f
  rw [beq_self_eq_true]
theorem same_l0 (room : Int) (l : List S61) (hl : l.length < 2932031007402) : ∀ m i : Nat, l.length - i = m → i ≤ l.length → dragnetref16_Same.l0 (2 * m + 1) (i : Int) room l room l = some true
  | 0, i, hm, hi => by
    obtain rfl : i = l.length := by omega
    rw [dragnetref16_Same.l0, if_neg (Int.lt_irrefl _)]
  | m + 1, i, hm, hi => by
    have hlt : i < l.length := by omega
    rw [show 2 * (m + 1) + 1 = (2 * m + 1) + 1 + 1 by omega, dragnetref16_Same.l0, if_pos (by omega), if_pos (by omega), if_pos (by omega), if_pos rfl, if_pos rfl, same1, Option.bind_some, dragnetref16_Same.j2, if_neg (by decide), wr64 (by omega), show (i : Int) + 1 = ((i + 1 : Nat) : Int) by omega]
    exact same_l0 room l hl m (i + 1) (by omega) hlt
theorem same_plain (room : Int) (l : List S61) (hl : l.length < 2932031007402) : dragnetref16_Same.f (2 * l.length + 2) room l room l = some true := by
  unfold dragnetref16_Same.f
  rw [if_pos rfl, show 2 * l.length + 2 = (2 * l.length + 1) + 1 by omega, dragnetref16_Same.j0, bne_self_eq_false, if_neg (by decide)]
  exact same_l0 room l hl l.length 0 (by omega) (by omega)
theorem toList_inj {a b : ByteArray} (h : a.toList = b.toList) : a = b := by
  rw [Lib.toList_data, Lib.toList_data] at h
  cases a
  cases b
  congr 1
  exact Array.toList_inj.1 h
theorem rd_get (l : List S61) (i : Nat) (h : i < l.length) : rd_T61 l (i : Int) = l[i] := by
  unfold rd_T61
  rw [Int.toNat_natCast, List.getD_eq_getElem?_getD, List.getElem?_eq_getElem h]
  rfl
theorem srt_get {l : List S61} (h : Srt l) {i j : Nat} (hij : i < j) (hj : j < l.length) : cmpS (rd_T61 l (i : Int)).f0 (rd_T61 l (j : Int)).f0 < 0 := by
  rw [rd_get l i (by omega), rd_get l j hj]
  exact List.pairwise_iff_getElem.1 h i j (by omega) hj hij
theorem cmp_self : ∀ a : List UInt8, Lib.compareBytes a a = 0
  | [] => rfl
  | x :: a => by
    unfold Lib.compareBytes
    have h : ¬ x < x := fun hh => by have := UInt8.lt_iff_toNat_lt.1 hh; omega
    rw [if_neg h, if_neg h]
    exact cmp_self a
theorem cmp_zero : ∀ a b : List UInt8, Lib.compareBytes a b = 0 → a = b
  | [], [], _ => rfl
  | [], _ :: _, h => by simp [Lib.compareBytes] at h
  | _ :: _, [], h => by simp [Lib.compareBytes] at h
  | x :: a, y :: b, h => by
    unfold Lib.compareBytes at h
    by_cases h1 : x < y
    · rw [if_pos h1] at h
      simp at h
    · rw [if_neg h1] at h
      by_cases h2 : y < x
      · rw [if_pos h2] at h
        simp at h
      · rw [if_neg h2] at h
        have t : ∀ p q : UInt8, p < q ↔ p.toNat < q.toNat := fun p q => UInt8.lt_iff_toNat_lt
        have h4 : ¬ x.toNat < y.toNat := fun hh => h1 ((t _ _).2 hh)
        have h5 : ¬ y.toNat < x.toNat := fun hh => h2 ((t _ _).2 hh)
        have h3 : x = y := UInt8.toNat_inj.1 (by omega)
        rw [h3, cmp_zero a b h]
theorem cmp_neg : ∀ a b : List UInt8, ¬ Lib.compareBytes a b < 0 → Lib.compareBytes a b ≠ 0 → Lib.compareBytes b a < 0
  | [], [], _, h => absurd rfl h
  | [], _ :: _, h, _ => absurd (by simp [Lib.compareBytes]) h
  | _ :: _, [], _, _ => by simp [Lib.compareBytes]
  | x :: a, y :: b, h, h0 => by
    unfold Lib.compareBytes at h h0 ⊢
    by_cases h1 : x < y
    · rw [if_pos h1] at h
      exact absurd (by decide) h
    · rw [if_neg h1] at h h0
      by_cases h2 : y < x
      · rw [if_pos h2]
        decide
      · rw [if_neg h2] at h h0 ⊢
        rw [if_neg h1]
        exact cmp_neg a b h h0
theorem cmpS_eq {a b : ByteArray} (h : cmpS a b = 0) : a = b := by
  have := cmp_zero _ _ h
  cases a
  cases b
  congr 1
  exact Array.toList_inj.1 this
theorem cmpS_neg {a b : ByteArray} (h : ¬ cmpS a b < 0) (h0 : cmpS a b ≠ 0) : cmpS b a < 0 := cmp_neg _ _ h h0
theorem cmpS_trans {a b c : ByteArray} (h : cmpS a b < 0) (h2 : cmpS b c < 0) : cmpS a c < 0 := cmpB_trans _ _ _ h h2
theorem below_idx {l : List S61} (n : ByteArray) {j : Nat} (hj : j < idxS l n) : cmpS (rd_T61 l (j : Int)).f0 n < 0 := by
  have hl := idx_le l n
  by_cases h : cmpS (rd_T61 l (j : Int)).f0 n < 0
  · exact h
  · have := idx_high l n (b := j) (by omega) h
    omega
theorem above_idx {l : List S61} (hs : Srt l) (n : ByteArray) {j : Nat} (hj : idxS l n ≤ j) (hl : j < l.length) : ¬ cmpS (rd_T61 l (j : Int)).f0 n < 0 := fun h => by
  have := idx_low hs n hl h
  omega
theorem other_idx {l : List S61} (hs : Srt l) (n : ByteArray) (hf : foundS l n = false) {j : Nat} (hj : idxS l n ≤ j) (hl : j < l.length) : cmpS n (rd_T61 l (j : Int)).f0 < 0 := by
  refine cmpS_neg (above_idx hs n hj hl) fun h0 => ?_
  rcases Nat.lt_or_eq_of_le hj with h | h
  · have h1 := srt_get hs h hl
    rw [cmpS_eq h0] at h1
    exact above_idx hs n (Nat.le_refl _) (by omega) h1
  · unfold foundS at hf
    rw [h, h0] at hf
    simp [hl] at hf
theorem mem_take {l : List S61} {i : Nat} {a : S61} (h : a ∈ l.take i) : ∃ j : Nat, j < i ∧ j < l.length ∧ a = rd_T61 l (j : Int) := by
  obtain ⟨j, hj, rfl⟩ := List.mem_iff_getElem.1 h
  rw [List.length_take] at hj
  refine ⟨j, by omega, by omega, ?_⟩
  rw [rd_get l j (by omega), List.getElem_take]
theorem mem_drop {l : List S61} {i : Nat} {a : S61} (h : a ∈ l.drop i) : ∃ j : Nat, i ≤ j ∧ j < l.length ∧ a = rd_T61 l (j : Int) := by
  obtain ⟨j, hj, rfl⟩ := List.mem_iff_getElem.1 h
  rw [List.length_drop] at hj
  refine ⟨i + j, by omega, by omega, ?_⟩
  rw [rd_get l (i + j) (by omega), List.getElem_drop]
theorem found_name {l : List S61} {n : ByteArray} (h : foundS l n = true) : (rd_T61 l (idxS l n : Int)).f0 = n := by
  unfold foundS at h
  rw [Bool.and_eq_true] at h
  exact cmpS_eq (by simpa using h.2)
theorem put_length (l : List S61) (i : Nat) (x : S61) : (putAt l i x).length = l.length + 1 := by
  unfold putAt
  rw [List.length_append, List.length_cons, List.length_take, List.length_drop]
  omega
theorem place_l0 (room : Int) (l : List S61) (n : ByteArray) (hs : Srt l) (hl : l.length < 2932031007402) : ∀ m i : Nat, l.length - i = m → i ≤ l.length → (∀ j : Nat, j < i → (rd_T61 l (j : Int)).f0 ≠ n) → dragnetref16_place.l0 (m + 1) n (i : Int) room l = some (if foundS l n = true then (idxS l n : Int) else -1)
  | 0, i, hm, hi, hj => by
    obtain rfl : i = l.length := by omega
    rw [dragnetref16_place.l0, if_neg (Int.lt_irrefl _)]
    cases hf : foundS l n with
    | false => rfl
    | true => exact absurd (found_name hf) (hj _ (found_lt hf))
  | m + 1, i, hm, hi, hj => by
    have hlt : i < l.length := by omega
    rw [dragnetref16_place.l0, if_pos (by omega), if_pos (by omega)]
    by_cases he : (rd_T61 l (i : Int)).f0 = n
    · rw [if_pos (by rw [he])]
      have h0 : ¬ cmpS (rd_T61 l (i : Int)).f0 n < 0 := by rw [he]; unfold cmpS; rw [cmp_self]; decide
      have h1 := idx_high l n hlt h0
      have h2 : idxS l n = i := by
        rcases Nat.lt_or_eq_of_le h1 with h | h
        · have h3 := srt_get hs h hlt
          rw [he] at h3
          exact absurd h3 (above_idx hs n (Nat.le_refl _) (by omega))
        · exact h
      have h3 : foundS l n = true := by
        unfold foundS
        rw [h2, he, decide_eq_true hlt]
        unfold cmpS
        rw [cmp_self]
        rfl
      rw [h3, if_pos rfl, h2]
    · rw [if_neg (fun h => he (toList_inj h)), wr64 (by omega), show (i : Int) + 1 = ((i + 1 : Nat) : Int) by omega]
      exact place_l0 room l n hs hl m (i + 1) (by omega) hlt fun j hj2 => by
        rcases Nat.lt_or_eq_of_le (Nat.le_of_lt_succ hj2) with h | h
        · exact hj j h
        · rw [h]; exact he
def RR (room : Int) (l : List S61) (n : ByteArray) : List Int × Int := if FormedR room l ∧ nmd n then (if foundS l n = true then ((rd_T61 l (idxS l n : Int)).f1, 0) else ([], 8)) else ([], 1)
theorem rnamed (n : ByteArray) : dragnetref16_named.f n = some (decide (nmd n)) := by
  unfold dragnetref16_named.f
  by_cases h : 1 ≤ n.size
  · rw [if_pos (by omega)]
    congr 1
    exact decide_eq_decide.2 ⟨fun h2 => ⟨h, by omega⟩, fun h2 => by have := h2.2; omega⟩
  · rw [if_neg (by omega), decide_eq_false (fun h2 : nmd n => h h2.1)]
theorem ref_read (room : Int) (l : List S61) (n : ByteArray) (hr : Reach l) : dragnetref16_Read.f (l.length + 2) room l n = some (RR room l n) := by
  have h1 := hr.1
  unfold dragnetref16_Read.f dragnetref16_Formed.f RR
  rw [if_pos (by omega), Option.bind_some]
  by_cases hf : FormedR room l
  · rw [decide_eq_true hf, if_pos rfl, rnamed, Option.bind_some]
    by_cases hn : nmd n
    · rw [decide_eq_true hn, if_pos ⟨hf, hn⟩, show l.length + 2 = (l.length + 1) + 1 by omega, dragnetref16_Read.j0, if_neg (by decide)]
      unfold dragnetref16_place.f
      have hp := place_l0 room l n (formed_srt hf) h1 l.length 0 (by omega) (by omega) (fun j hj => absurd hj (Nat.not_lt_zero _))
      rw [show ((0 : Nat) : Int) = 0 from rfl] at hp
      rw [hp, Option.bind_some]
      cases hfd : foundS l n with
      | false => rw [if_neg Bool.false_ne_true, if_pos (by decide), if_neg Bool.false_ne_true]
      | true =>
        have hi := found_lt hfd
        rw [if_pos rfl, if_neg (by omega), if_pos (by omega), if_pos (by omega), copy1 _ (hr.2 _ (rdm l _ hi)), Option.bind_some, if_pos rfl]
    · rw [decide_eq_false hn, if_neg (fun h => hn h.2), show l.length + 2 = (l.length + 1) + 1 by omega, dragnetref16_Read.j0, if_pos (by decide)]
  · rw [decide_eq_false hf, if_neg (by decide), if_neg (fun h => hf h.1), show l.length + 2 = (l.length + 1) + 1 by omega, dragnetref16_Read.j0, if_pos rfl]
theorem ref_used_l0 (room : Int) (l : List S61) (hl : l.length < 2932031007402) (ht : totS l ≤ 67108864) : ∀ m i : Nat, l.length - i = m → i ≤ l.length → dragnetref16_Used.l0 (m + 1) (totS (l.take i)) (i : Int) room l = some (totS l)
  | 0, i, hm, hi => by
    obtain rfl : i = l.length := by omega
    rw [dragnetref16_Used.l0, if_neg (Int.lt_irrefl _), List.take_length]
  | m + 1, i, hm, hi => by
    have hlt : i < l.length := by omega
    have h1 := tot_snoc l i hlt
    have h2 := tot_take_le l (i + 1)
    have h3 := tot_nonneg (l.take i)
    rw [dragnetref16_Used.l0, if_pos (by omega), if_pos (by omega), ← h1, wr64 (by have := tot_nonneg (l.take (i + 1)); omega), wr64 (by omega), show (i : Int) + 1 = ((i + 1 : Nat) : Int) by omega]
    exact ref_used_l0 room l hl ht m (i + 1) (by omega) hlt
theorem ref_used (room : Int) (l : List S61) (hr : Reach l) : dragnetref16_Used.f (l.length + 1) room l = some (if FormedR room l then totS l else 0) := by
  have h1 := hr.1
  unfold dragnetref16_Used.f dragnetref16_Formed.f
  rw [if_pos (by omega), Option.bind_some]
  by_cases hf : FormedR room l
  · rw [decide_eq_true hf, if_pos rfl, if_pos hf]
    exact ref_used_l0 room l h1 (by have := hf.2.2.1; have := hf.2.2.2.2; omega) l.length 0 (by omega) (by omega)
  · rw [decide_eq_false hf, if_neg (by decide), if_neg hf]
theorem name_found {l : List S61} (hs : Srt l) {n : ByteArray} {i : Nat} (hi : i < l.length) (he : (rd_T61 l (i : Int)).f0 = n) : foundS l n = true ∧ idxS l n = i := by
  have h0 : ¬ cmpS (rd_T61 l (i : Int)).f0 n < 0 := by rw [he]; unfold cmpS; rw [cmp_self]; decide
  have h1 := idx_high l n hi h0
  have h2 : idxS l n = i := by
    rcases Nat.lt_or_eq_of_le h1 with h | h
    · have h3 := srt_get hs h hi
      rw [he] at h3
      exact absurd h3 (above_idx hs n (Nat.le_refl _) (by omega))
    · exact h
  refine ⟨?_, h2⟩
  unfold foundS
  rw [h2, he, decide_eq_true hi]
  unfold cmpS
  rw [cmp_self]
  rfl
def nE (n : ByteArray) (x : S61) : Bool := !decide (x.f0.toList = n.toList)
theorem nE_ne {n : ByteArray} {x : S61} (h : x.f0 ≠ n) : nE n x = true := by unfold nE; rw [decide_eq_false (fun h2 => h (toList_inj h2))]; rfl
def wo (l : List S61) (n : ByteArray) : List S61 := if foundS l n = true then l.eraseIdx (idxS l n) else l
theorem filter_wo {l : List S61} (hs : Srt l) (n : ByteArray) : l.filter (nE n) = wo l n := by
  unfold wo
  cases hf : foundS l n with
  | false =>
    rw [if_neg Bool.false_ne_true, List.filter_eq_self]
    intro x hx
    obtain ⟨i, hi, rfl⟩ := List.mem_iff_getElem.1 hx
    refine nE_ne fun he => ?_
    rw [← rd_get l i hi] at he
    rw [(name_found hs hi he).1] at hf
    cases hf
  | true =>
    have hi := found_lt hf
    rw [if_pos rfl, List.eraseIdx_eq_take_drop_succ]
    have hsp : l = l.take (idxS l n) ++ l[idxS l n] :: l.drop (idxS l n + 1) := by rw [← List.drop_eq_getElem_cons hi, List.take_append_drop]
    have hne : ∀ j : Nat, j < l.length → j ≠ idxS l n → nE n (rd_T61 l (j : Int)) = true := fun j hj hj2 => nE_ne fun he => hj2 (name_found hs hj he).2.symm
    have h1 : (l.take (idxS l n)).filter (nE n) = l.take (idxS l n) := by
      rw [List.filter_eq_self]
      intro x hx
      obtain ⟨j, hj, hl, rfl⟩ := mem_take hx
      exact hne j hl (by omega)
    have h2 : (l.drop (idxS l n + 1)).filter (nE n) = l.drop (idxS l n + 1) := by
      rw [List.filter_eq_self]
      intro x hx
      obtain ⟨j, hj, hl, rfl⟩ := mem_drop hx
      exact hne j hl (by omega)
    have h3 : nE n l[idxS l n] = false := by
      unfold nE
      rw [← rd_get l _ hi, found_name hf, decide_eq_true rfl]
      rfl
    have h4 : l.filter (nE n) = (l.take (idxS l n) ++ l[idxS l n] :: l.drop (idxS l n + 1)).filter (nE n) := by rw [← hsp]
    rw [h4, List.filter_append, List.filter_cons, h3, if_neg Bool.false_ne_true, h1, h2]
theorem filter_snoc (l : List S61) (n : ByteArray) (i : Nat) (h : i < l.length) : (l.take (i + 1)).filter (nE n) = (l.take i).filter (nE n) ++ (if nE n (rd_T61 l (i : Int)) = true then [rd_T61 l (i : Int)] else []) := by
  rw [← take_snoc l i h, List.filter_append, List.filter_cons, List.filter_nil]
theorem without_l0 (room r2 : Int) (l : List S61) (n : ByteArray) (hl : l.length < 2932031007402) : ∀ m i : Nat, l.length - i = m → i ≤ l.length → dragnetref16_without.l0 (m + 1) n (i : Int) r2 ((l.take i).filter (nE n)) room l = some (r2, l.filter (nE n))
  | 0, i, hm, hi => by
    obtain rfl : i = l.length := by omega
    rw [dragnetref16_without.l0, if_neg (Int.lt_irrefl _), List.take_length]
  | m + 1, i, hm, hi => by
    have hlt : i < l.length := by omega
    have ih := without_l0 room r2 l n hl m (i + 1) (by omega) hlt
    have hw : ((i + 1 : Nat) : Int) = wrap64 ((i : Int) + 1) := by rw [wr64 (by omega)]; omega
    rw [filter_snoc l n i hlt, hw] at ih
    rw [dragnetref16_without.l0, if_pos (by omega), if_pos (by omega)]
    by_cases he : (rd_T61 l (i : Int)).f0.toList = n.toList
    · rw [if_pos he]
      have h1 : nE n (rd_T61 l (i : Int)) = false := by unfold nE; rw [decide_eq_true he]; rfl
      rw [h1, if_neg Bool.false_ne_true, List.append_nil] at ih
      exact ih
    · have h1 : nE n (rd_T61 l (i : Int)) = true := by unfold nE; rw [decide_eq_false he]; rfl
      rw [h1, if_pos rfl] at ih
      have h2 : ((l.take i).filter (nE n)).length ≤ i := Nat.le_trans (List.length_filter_le _ _) (by rw [List.length_take]; omega)
      rw [if_neg he, if_pos (by omega)]
      exact ih
theorem without_plain (room : Int) (l : List S61) (n : ByteArray) (hr : Reach l) (hs : Srt l) : dragnetref16_without.f (l.length + 1) room l n = some (room, wo l n) := by
  unfold dragnetref16_without.f
  rw [copy_plain room l hr, Option.bind_some, ← filter_wo hs n]
  exact without_l0 room room l n hr.1 l.length 0 (by omega) (by omega)
theorem wo_srt {l : List S61} (hs : Srt l) (n : ByteArray) : Srt (wo l n) := by
  rw [← filter_wo hs]
  exact List.Pairwise.sublist (List.filter_sublist ..) hs
theorem wo_not {l : List S61} (hs : Srt l) (n : ByteArray) : foundS (wo l n) n = false := by
  cases h : foundS (wo l n) n with
  | false => rfl
  | true =>
    have h1 := found_name h
    have h2 := rdm _ _ (found_lt h)
    have h3 : rd_T61 (wo l n) (idxS (wo l n) n : Int) ∈ l.filter (nE n) := by rw [filter_wo hs]; exact h2
    have h4 := (List.mem_filter.1 h3).2
    unfold nE at h4
    rw [h1, decide_eq_true rfl] at h4
    cases h4
theorem wo_len (l : List S61) (n : ByteArray) : (wo l n).length ≤ l.length := by
  unfold wo
  split
  · exact List.length_eraseIdx_le _ _
  · exact Nat.le_refl _
theorem put_snoc (E : List S61) (q i : Nat) (x : S61) (hq : q ≤ i) (hi : i < E.length) : putAt (E.take i) q x ++ [rd_T61 E (i : Int)] = putAt (E.take (i + 1)) q x := by
  have h1 : q ≤ (E.take i).length := by rw [List.length_take]; omega
  unfold putAt
  rw [← take_snoc E i hi, List.take_append_of_le_length h1, List.drop_append_of_le_length h1, List.append_assoc, List.cons_append]
theorem with_put (room r2 : Int) (E : List S61) (hl : E.length < 2932031007402) (q : Nat) (x : S61) : ∀ m i : Nat, E.length - i = m → q ≤ i → i ≤ E.length → dragnetref16_with.l0 (m + 1) true (i : Int) x.f0 x.f1 x.f2 room E r2 (putAt (E.take i) q x) = some (r2, putAt E q x)
  | 0, i, hm, hq, hi => by
    obtain rfl : i = E.length := by omega
    rw [dragnetref16_with.l0, if_neg (Int.lt_irrefl _), List.take_length, if_pos rfl]
  | m + 1, i, hm, hq, hi => by
    have hlt : i < E.length := by omega
    rw [dragnetref16_with.l0, if_pos (by omega), if_pos rfl, if_pos (by omega), if_pos (by rw [put_length, List.length_take]; omega), wr64 (by omega), show (i : Int) + 1 = ((i + 1 : Nat) : Int) by omega]
    have h := with_put room r2 E hl q x m (i + 1) (by omega) (by omega) hlt
    rw [← put_snoc E q i x hq hlt] at h
    exact h
theorem less_idx {E : List S61} (hs : Srt E) {n : ByteArray} (hf : foundS E n = false) {i : Nat} (hi : i < E.length) : (Go.Op.bytesLess n.toList (rd_T61 E (i : Int)).f0.toList = true) ↔ idxS E n ≤ i := by
  rw [less_S]
  constructor
  · intro h
    by_cases h2 : idxS E n ≤ i
    · exact h2
    · have h3 := below_idx (l := E) n (j := i) (by omega)
      have h4 := cmpS_trans h h3
      unfold cmpS at h4
      rw [cmp_self] at h4
      exact absurd h4 (by decide)
  · intro h
    exact other_idx hs n hf h hi
theorem with_l0 (room r2 : Int) (E : List S61) (hl : E.length < 2932031007401) (hs : Srt E) (x : S61) (hf : foundS E x.f0 = false) : ∀ m i : Nat, E.length - i = m → i ≤ idxS E x.f0 → dragnetref16_with.l0 (m + 1) false (i : Int) x.f0 x.f1 x.f2 room E r2 (E.take i) = some (r2, putAt E (idxS E x.f0) x)
  | 0, i, hm, hi => by
    have h1 := idx_le E x.f0
    have h2 : i = E.length := by omega
    subst h2
    have h3 : idxS E x.f0 = E.length := by omega
    rw [dragnetref16_with.l0, if_neg (Int.lt_irrefl _), if_neg Bool.false_ne_true, if_pos (by rw [List.length_take]; omega), h3]
    unfold putAt
    rw [List.drop_length]
  | m + 1, i, hm, hi => by
    have hlt : i < E.length := by omega
    have htl : (E.take i).length = i := by rw [List.length_take]; omega
    have hlx := less_idx hs hf hlt
    rw [dragnetref16_with.l0, if_pos (by omega), if_neg Bool.false_ne_true, if_pos (by omega), wr64 (by omega), show (i : Int) + 1 = ((i + 1 : Nat) : Int) by omega]
    by_cases hb : Go.Op.bytesLess x.f0.toList (rd_T61 E (i : Int)).f0.toList = true
    · have hq : idxS E x.f0 = i := by have := hlx.1 hb; omega
      rw [if_pos hb, if_pos (by omega), Option.bind_some, if_pos (by rw [List.length_append, htl]; simp only [List.length_cons, List.length_nil]; omega)]
      have h := with_put room r2 E (by omega) i x m (i + 1) (by omega) (by omega) hlt
      rw [← put_snoc E i i x (Nat.le_refl _) hlt] at h
      have h5 : putAt (E.take i) i x = E.take i ++ [x] := by
        unfold putAt
        rw [List.take_of_length_le (by omega), List.drop_of_length_le (by omega)]
      rw [h5] at h
      rw [hq]
      exact h
    · have hq : i < idxS E x.f0 := by
        rcases Nat.lt_or_ge i (idxS E x.f0) with h | h
        · exact h
        · exact absurd (hlx.2 h) hb
      rw [if_neg hb, if_pos (by omega)]
      have h := with_l0 room r2 E hl hs x hf m (i + 1) (by omega) hq
      rw [← take_snoc E i hlt] at h
      exact h
theorem put_erase (l : List S61) (i : Nat) (x : S61) (h : i < l.length) : putAt (l.eraseIdx i) i x = l.set i x := by
  unfold putAt
  have h1 : (l.take i).length = i := by rw [List.length_take]; omega
  rw [List.eraseIdx_eq_take_drop_succ, List.take_append_of_le_length (by omega), List.drop_append_of_le_length (by omega), List.take_of_length_le (by omega), List.drop_of_length_le (by omega), List.nil_append, List.set_eq_take_append_cons_drop, if_pos h]
theorem idx_erase {l : List S61} (hs : Srt l) {n : ByteArray} (hf : foundS l n = true) : idxS (l.eraseIdx (idxS l n)) n = idxS l n := by
  have hi := found_lt hf
  have hle : (l.eraseIdx (idxS l n)).length = l.length - 1 := by rw [List.length_eraseIdx, if_pos hi]
  have h1 := idx_le (l.eraseIdx (idxS l n)) n
  have hE : Srt (l.eraseIdx (idxS l n)) := List.Pairwise.sublist (List.eraseIdx_sublist _ _) hs
  have hlow : ∀ j : Nat, j < idxS l n → rd_T61 (l.eraseIdx (idxS l n)) (j : Int) = rd_T61 l (j : Int) := fun j hj => by
    rw [rd_get _ j (by omega), rd_get l j (by omega), List.getElem_eraseIdx, dif_pos hj]
  have hhigh : ∀ j : Nat, idxS l n ≤ j → j < l.length - 1 → rd_T61 (l.eraseIdx (idxS l n)) (j : Int) = rd_T61 l ((j + 1 : Nat) : Int) := fun j hj hj2 => by
    rw [rd_get _ j (by omega), rd_get l (j + 1) (by omega), List.getElem_eraseIdx, dif_neg (by omega)]
  refine Nat.le_antisymm ?_ ?_
  · rcases Nat.lt_or_ge (idxS l n) (l.length - 1) with h | h
    · refine idx_high _ n (by omega) ?_
      rw [hhigh _ (Nat.le_refl _) h]
      exact above_idx hs n (by omega) (by omega)
    · omega
  · rcases Nat.eq_zero_or_pos (idxS l n) with h | h
    · omega
    · have h2 := idx_low hE n (b := idxS l n - 1) (by omega) (by rw [hlow _ (by omega)]; exact below_idx n (by omega))
      omega
def wiL (l : List S61) (x : S61) : List S61 := if foundS l x.f0 = true then l.set (idxS l x.f0) x else putAt l (idxS l x.f0) x
theorem with_plain (room : Int) (l : List S61) (x : S61) (hr : Reach l) (hl : l.length < 2932031007401) (hs : Srt l) : dragnetref16_with.f (l.length + 1) room l x.f0 x.f1 x.f2 = some (room, wiL l x) := by
  have hlen := wo_len l x.f0
  unfold dragnetref16_with.f
  rw [without_plain room l x.f0 hr hs, Option.bind_some]
  have h := with_l0 room room (wo l x.f0) (by omega) (wo_srt hs x.f0) x (wo_not hs x.f0) (wo l x.f0).length 0 (by omega) (by omega)
  have h2 : putAt (wo l x.f0) (idxS (wo l x.f0) x.f0) x = wiL l x := by
    unfold wiL
    cases hf : foundS l x.f0 with
    | false =>
      have h3 : wo l x.f0 = l := by unfold wo; rw [hf, if_neg Bool.false_ne_true]
      rw [h3, if_neg Bool.false_ne_true]
    | true =>
      have h3 : wo l x.f0 = l.eraseIdx (idxS l x.f0) := by unfold wo; rw [hf, if_pos rfl]
      rw [h3, if_pos rfl, idx_erase hs hf, put_erase l _ x (found_lt hf)]
  rw [h2] at h
  exact at_rounds (fun k => dragnetref16_with.mono_l k _ _ _ _ _ _ _ _ _) (by omega) h
def SR (room : Int) (l : List S61) (n : ByteArray) (b : List Int) : Int × List S61 × Int :=
  if FormedR room l ∧ nmd n then (if foundS l n = true then (if totS l - ((rd_T61 l (idxS l n : Int)).f1.length : Int) + (b.length : Int) > room then (0, [], 11) else (room, l.set (idxS l n) ⟨n, b, (b.length : Int)⟩, 0)) else (0, [], 8)) else (0, [], 1)
theorem own_set (room : Int) (l : List S61) (n : ByteArray) (b : List Int) (hr : Reach l) (hb : b.length ≤ 140737488351232) : store_Set.f (3 * l.length + 4) room l n b = some (SR room l n b) := by
  have h1 := hr.1
  unfold store_Set.f SR
  rw [at_rounds (fun k => store_Formed.mono _ _ k) (show 3 * l.length + 3 ≤ 3 * l.length + 4 by omega) (formed_plain room l hr.small.small), Option.bind_some]
  by_cases hf : FormedR room l
  · rw [decide_eq_true hf, if_pos rfl, named_nmd, Option.bind_some]
    by_cases hn : nmd n
    · rw [decide_eq_true hn, if_pos ⟨hf, hn⟩, show 3 * l.length + 4 = (3 * l.length + 3) + 1 by omega, store_Set.j0, if_neg (by decide)]
      unfold store_find.f
      rw [if_pos ⟨by omega, formed_srt hf⟩, Option.bind_some]
      simp only []
      cases hfd : foundS l n with
      | false => rw [if_neg Bool.false_ne_true, if_neg Bool.false_ne_true]
      | true =>
        have hi := found_lt hfd
        have hx := hr.2 _ (rdm l _ hi)
        have hat := tot_at l _ hi
        have hlen := hf.2.2.2.1
        have hroom := hf.2.2.1
        have htot := hf.2.2.2.2
        have hu := used_plain room l hr.small.small ⟨hf.2.1, hf.2.2.1⟩
        rw [if_pos hf.2.2.2.2] at hu
        rw [if_pos rfl, if_pos rfl, at_rounds (fun k => store_used.mono _ _ k) (show l.length + 1 ≤ 3 * l.length + 3 by omega) hu, Option.bind_some, if_pos (by omega), if_pos (by omega), wr64 (x := totS l - _) (by omega), wr64 (by omega)]
        by_cases hg : totS l - ((rd_T61 l (idxS l n : Int)).f1.length : Int) + (b.length : Int) > room
        · rw [if_pos hg, if_pos hg]
        · rw [if_neg hg, if_neg hg]
          unfold store_twin.f slices_Clone_byte_byte.f
          rw [if_pos ⟨by omega, fun x hx => by have := hr.2 x hx; omega⟩, Option.bind_some, if_pos (by omega), Option.bind_some]
          simp only []
          rw [if_pos (by omega), Int.toNat_natCast]
    · rw [decide_eq_false hn, if_neg (fun h => hn h.2), show 3 * l.length + 4 = (3 * l.length + 3) + 1 by omega, store_Set.j0, if_pos (by decide)]
  · rw [decide_eq_false hf, if_neg Bool.false_ne_true, if_neg (fun h => hf h.1), show 3 * l.length + 4 = (3 * l.length + 3) + 1 by omega, store_Set.j0, if_pos rfl]
theorem ref_set (room : Int) (l : List S61) (n : ByteArray) (b : List Int) (hr : Reach l) (hb : b.length ≤ 140737488351232) : dragnetref16_Set.f (l.length + 2) room l n b = some (SR room l n b) := by
  have h1 := hr.1
  unfold dragnetref16_Set.f SR
  rw [ref_read room l n hr, Option.bind_some]
  unfold RR
  by_cases hg : FormedR room l ∧ nmd n
  · rw [if_pos hg, if_pos hg]
    obtain ⟨hf, hn⟩ := hg
    cases hfd : foundS l n with
    | false =>
      rw [if_neg Bool.false_ne_true, if_neg Bool.false_ne_true]
      simp only []
      rw [if_neg (by decide)]
    | true =>
      have hi := found_lt hfd
      have hat := tot_at l _ hi
      have hlen := hf.2.2.2.1
      have hroom := hf.2.2.1
      have htot := hf.2.2.2.2
      have ht0 := tot_nonneg l
      rw [if_pos rfl, if_pos rfl]
      simp only []
      rw [if_pos trivial, at_rounds (fun k => dragnetref16_Used.mono _ _ k) (show l.length + 1 ≤ l.length + 2 by omega) (ref_used room l hr), if_pos hf, Option.bind_some, wr64 (x := room - totS l) (by have := hf.2.1; omega), wr64 (by have := hf.2.1; omega)]
      by_cases hg : totS l - ((rd_T61 l (idxS l n : Int)).f1.length : Int) + (b.length : Int) > room
      · rw [if_pos hg, if_pos (by omega)]
      · rw [if_neg hg, if_neg (by omega), copy1 _ hb, Option.bind_some]
        have h := with_plain room l ⟨n, b, (b.length : Int)⟩ hr (by omega) (formed_srt hf)
        unfold wiL at h
        simp only [] at h
        rw [hfd, if_pos rfl] at h
        rw [at_rounds (fun k => dragnetref16_with.mono _ _ _ _ _ k) (show l.length + 1 ≤ l.length + 2 by omega) h, Option.bind_some]
  · rw [if_neg hg, if_neg hg]
    simp only []
    rw [if_neg (by decide)]
theorem sr_len (room : Int) (l : List S61) (n : ByteArray) (b : List Int) : (SR room l n b).2.1.length ≤ l.length := by
  unfold SR
  split
  · split
    · split
      · exact Nat.zero_le _
      · show (l.set _ _).length ≤ _
        rw [List.length_set]
        exact Nat.le_refl _
    · exact Nat.zero_le _
  · exact Nat.zero_le _
theorem law (a0_0 : Int) (l0_1 : List S61) (a1 : ByteArray) (l2 : List Int) (hr : Reach l0_1) (hb : l2.length ≤ 140737488351232) : ∃ k, dragnetlaw16_StoreSets.f k a0_0 l0_1 a1 l2 = some true := by
  obtain ⟨K, hK⟩ : ∃ K, K = 3 * l0_1.length + 4 := ⟨_, rfl⟩
  have hlen := sr_len a0_0 l0_1 a1 l2
  have hl := hr.1
  refine ⟨K, ?_⟩
  have hcopy : dragnetref16_Copy.f K a0_0 l0_1 = some (a0_0, l0_1) := at_rounds (fun k => dragnetref16_Copy.mono _ _ k) (by omega) (copy_plain a0_0 l0_1 hr)
  have hown : store_Set.f K a0_0 l0_1 a1 l2 = some (SR a0_0 l0_1 a1 l2) := by rw [hK]; exact own_set a0_0 l0_1 a1 l2 hr hb
  have href : dragnetref16_Set.f K a0_0 l0_1 a1 l2 = some (SR a0_0 l0_1 a1 l2) := at_rounds (fun k => dragnetref16_Set.mono _ _ _ _ k) (by omega) (ref_set a0_0 l0_1 a1 l2 hr hb)
  have hsame : ∀ (r : Int) (l : List S61), l.length ≤ l0_1.length → dragnetref16_Same.f K r l r l = some true := fun r l hle => at_rounds (fun k => dragnetref16_Same.mono _ _ _ _ k) (by omega) (same_plain r l (by omega))
  unfold dragnetlaw16_StoreSets.f dragnetlaw16_alive.f
  rw [Option.bind_some, if_pos rfl, hcopy, Option.bind_some]
  simp only []
  rw [hown, Option.bind_some, href, Option.bind_some, hsame _ _ hlen, Option.bind_some, if_pos rfl, if_pos rfl, hsame _ _ (Nat.le_refl _), Option.bind_some]
def QF (x : S61) : Prop := x.f0.size ≤ 140737488351232 ∧ (x.f1.length * Try.prog.bytesOf 5 ≤ 140737488351232 ∧ ∀ u ∈ x.f1, (Lit.int .u8 u).wf = true) ∧ (Lit.int .i64 x.f2).wf = true
def QD (room : Int) (l : List S61) : Prop := (Lit.int .i64 room).wf = true ∧ (l.length * Try.prog.bytesOf 61 ≤ 140737488351232 ∧ ∀ x ∈ l, QF x)
theorem bytes61 : Try.prog.bytesOf 61 = 48 := by kernel_rfl
theorem bytes5 : Try.prog.bytesOf 5 = 1 := by kernel_rfl
theorem reach_q {room : Int} {l : List S61} (h : QD room l) : Reach l := by
  obtain ⟨_, h1, h2⟩ := h
  rw [bytes61] at h1
  refine ⟨by omega, fun x hx => ?_⟩
  have h3 := (h2 x hx).2.1.1
  rw [bytes5] at h3
  omega
def QB (b : List Int) : Prop := b.length * Try.prog.bytesOf 5 ≤ 140737488351232 ∧ ∀ u ∈ b, (Lit.int .u8 u).wf = true
theorem law_q (a0_0 : Int) (l0_1 : List S61) (a1 : ByteArray) (l2 : List Int) (hq0 : QD a0_0 l0_1) (hq1 : a1.size ≤ 140737488351232) (hq2 : QB l2) : ∃ k, dragnetlaw16_StoreSets.f k a0_0 l0_1 a1 l2 = some true :=
  law a0_0 l0_1 a1 l2 (reach_q hq0) (by have h := hq2.1; rw [bytes5] at h; omega)
end Go.Proofs.Ytopjdjljpkcdlaa.S
