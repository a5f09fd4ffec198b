/- Walk and plain law of StoreSure, by hand. -/
import Derived.Test.YtopjdjljpkcdlaaTuDx0
import Derived.Test.YtopjdjljpkcdlaaTuDx1
import Derived.Test.YtopjdjljpkcdlaaTuDx2
import Derived.Test.YtopjdjljpkcdlaaTuDx3
import Derived.Test.YtopjdjljpkcdlaaTuDx4
import Derived.Test.YtopjdjljpkcdlaaTuDx5
import Derived.Test.YtopjdjljpkcdlaaTuDx6
import Derived.Test.YtopjdjljpkcdlaaTuDx7
namespace Go.Proofs.Ytopjdjljpkcdlaa.U
open Go.Proofs.Ytopjdjljpkcdlaa.D
open Go.RowKit Go.Proofs.YtopjdjljpkcdlaaW.PrintWords Go.Proofs.YtopjdjljpkcdlaaW.PrintLast Go.Proofs.YtopjdjljpkcdlaaW.PrintMore
attribute [local go_sem] max2_int min2_int max_two min_two -- for this text's walks alone
set_option linter.unusedVariables false
set_option linter.unusedSimpArgs false
theorem rdm (l : List S61) (i : Nat) (h : i < l.length) : rd_T61 l (i : Int) ∈ l := by
  unfold rd_T61
  rw [Int.toNat_natCast, List.getD_eq_getElem?_getD, List.getElem?_eq_getElem h]
  exact List.getElem_mem h
def Reach (l : List S61) : Prop := l.length < 2932031007402 ∧ ∀ x ∈ l, x.f1.length ≤ 140737488351232
theorem Reach.small {l : List S61} (h : Reach l) : SmallD l := ⟨by have := h.1; omega, h.2⟩
theorem toList_inj {a b : ByteArray} (h : a.toList = b.toList) : a = b := by
  rw [Lib.toList_data, Lib.toList_data] at h
  cases a
  cases b
  congr 1
  exact Array.toList_inj.1 h
theorem rd_get (l : List S61) (i : Nat) (h : i < l.length) : rd_T61 l (i : Int) = l[i] := by
  unfold rd_T61
  rw [Int.toNat_natCast, List.getD_eq_getElem?_getD, List.getElem?_eq_getElem h]
  rfl
theorem srt_get {l : List S61} (h : Srt l) {i j : Nat} (hij : i < j) (hj : j < l.length) : cmpS (rd_T61 l (i : Int)).f0 (rd_T61 l (j : Int)).f0 < 0 := by
  rw [rd_get l i (by omega), rd_get l j hj]
  exact List.pairwise_iff_getElem.1 h i j (by omega) hj hij
theorem cmp_self : ∀ a : List UInt8, Lib.compareBytes a a = 0
  | [] => rfl
  | x :: a => by
    unfold Lib.compareBytes
    have h : ¬ x < x := fun hh => by have := UInt8.lt_iff_toNat_lt.1 hh; omega
    rw [if_neg h, if_neg h]
    exact cmp_self a
theorem cmp_zero : ∀ a b : List UInt8, Lib.compareBytes a b = 0 → a = b
  | [], [], _ => rfl
  | [], _ :: _, h => by simp [Lib.compareBytes] at h
  | _ :: _, [], h => by simp [Lib.compareBytes] at h
  | x :: a, y :: b, h => by
    unfold Lib.compareBytes at h
    by_cases h1 : x < y
    · rw [if_pos h1] at h
      simp at h
    · rw [if_neg h1] at h
      by_cases h2 : y < x
      · rw [if_pos h2] at h
        simp at h
      · rw [if_neg h2] at h
        have t : ∀ p q : UInt8, p < q ↔ p.toNat < q.toNat := fun p q => UInt8.lt_iff_toNat_lt
        have h4 : ¬ x.toNat < y.toNat := fun hh => h1 ((t _ _).2 hh)
        have h5 : ¬ y.toNat < x.toNat := fun hh => h2 ((t _ _).2 hh)
        have h3 : x = y := UInt8.toNat_inj.1 (by omega)
        rw [h3, cmp_zero a b h]
theorem cmp_neg : ∀ a b : List UInt8, ¬ Lib.compareBytes a b < 0 → Lib.compareBytes a b ≠ 0 → Lib.compareBytes b a < 0
  | [], [], _, h => absurd rfl h
  | [], _ :: _, h, _ => absurd (by simp [Lib.compareBytes]) h
  | _ :: _, [], _, _ => by simp [Lib.compareBytes]
  | x :: a, y :: b, h, h0 => by
    unfold Lib.compareBytes at h h0 ⊢
    by_cases h1 : x < y
    · rw [if_pos h1] at h
      exact absurd (by decide) h
    · rw [if_neg h1] at h h0
      by_cases h2 : y < x
      · rw [if_pos h2]
        decide
      · rw [if_neg h2] at h h0 ⊢
        rw [if_neg h1]
        exact cmp_neg a b h h0
theorem cmpS_eq {a b : ByteArray} (h : cmpS a b = 0) : a = b := by
  have := cmp_zero _ _ h
  cases a
  cases b
  congr 1
  exact Array.toList_inj.1 this
theorem cmpS_neg {a b : ByteArray} (h : ¬ cmpS a b < 0) (h0 : cmpS a b ≠ 0) : cmpS b a < 0 := cmp_neg _ _ h h0
theorem cmpS_trans {a b c : ByteArray} (h : cmpS a b < 0) (h2 : cmpS b c < 0) : cmpS a c < 0 := cmpB_trans _ _ _ h h2
theorem below_idx {l : List S61} (n : ByteArray) {j : Nat} (hj : j < idxS l n) : cmpS (rd_T61 l (j : Int)).f0 n < 0 := by
  have hl := idx_le l n
  by_cases h : cmpS (rd_T61 l (j : Int)).f0 n < 0
  · exact h
  · have := idx_high l n (b := j) (by omega) h
    omega
theorem above_idx {l : List S61} (hs : Srt l) (n : ByteArray) {j : Nat} (hj : idxS l n ≤ j) (hl : j < l.length) : ¬ cmpS (rd_T61 l (j : Int)).f0 n < 0 := fun h => by
  have := idx_low hs n hl h
  omega
theorem other_idx {l : List S61} (hs : Srt l) (n : ByteArray) (hf : foundS l n = false) {j : Nat} (hj : idxS l n ≤ j) (hl : j < l.length) : cmpS n (rd_T61 l (j : Int)).f0 < 0 := by
  refine cmpS_neg (above_idx hs n hj hl) fun h0 => ?_
  rcases Nat.lt_or_eq_of_le hj with h | h
  · have h1 := srt_get hs h hl
    rw [cmpS_eq h0] at h1
    exact above_idx hs n (Nat.le_refl _) (by omega) h1
  · unfold foundS at hf
    rw [h, h0] at hf
    simp [hl] at hf
theorem mem_take {l : List S61} {i : Nat} {a : S61} (h : a ∈ l.take i) : ∃ j : Nat, j < i ∧ j < l.length ∧ a = rd_T61 l (j : Int) := by
  obtain ⟨j, hj, rfl⟩ := List.mem_iff_getElem.1 h
  rw [List.length_take] at hj
  refine ⟨j, by omega, by omega, ?_⟩
  rw [rd_get l j (by omega), List.getElem_take]
theorem mem_drop {l : List S61} {i : Nat} {a : S61} (h : a ∈ l.drop i) : ∃ j : Nat, i ≤ j ∧ j < l.length ∧ a = rd_T61 l (j : Int) := by
  obtain ⟨j, hj, rfl⟩ := List.mem_iff_getElem.1 h
  rw [List.length_drop] at hj
  refine ⟨i + j, by omega, by omega, ?_⟩
  rw [rd_get l (i + j) (by omega), List.getElem_drop]
theorem found_name {l : List S61} {n : ByteArray} (h : foundS l n = true) : (rd_T61 l (idxS l n : Int)).f0 = n := by
  unfold foundS at h
  rw [Bool.and_eq_true] at h
  exact cmpS_eq (by simpa using h.2)
theorem put_length (l : List S61) (i : Nat) (x : S61) : (putAt l i x).length = l.length + 1 := by
  unfold putAt
  rw [List.length_append, List.length_cons, List.length_take, List.length_drop]
  omega
def okx (x : S61) : Prop := nmd x.f0 ∧ 0 ≤ x.f2 ∧ x.f2 ≤ x.f1.length
theorem formed_iff2 (room : Int) (l : List S61) : FormedR room l ↔ (Srt l ∧ (∀ x ∈ l, okx x) ∧ 0 ≤ room ∧ room ≤ 67108864 ∧ l.length ≤ 256 ∧ totS l ≤ room) := by
  constructor
  · intro h
    have h2 := (formed_iff room l).1 h
    refine ⟨formed_srt h, fun x hx => ?_, h2.2⟩
    obtain ⟨i, hi, rfl⟩ := List.mem_iff_getElem.1 hx
    have h3 := h2.1 i hi
    unfold okS at h3
    rw [rd_get l i hi] at h3
    exact ⟨h3.1, h3.2.1, h3.2.2.1⟩
  · rintro ⟨h1, h2, h3⟩
    refine (formed_iff room l).2 ⟨fun i hi => ?_, h3⟩
    have h4 := h2 _ (List.getElem_mem hi)
    unfold okS
    refine ⟨by rw [rd_get l i hi]; exact h4.1, by rw [rd_get l i hi]; exact h4.2.1, by rw [rd_get l i hi]; exact h4.2.2, fun h0 => ?_⟩
    have h5 := srt_get h1 (i := i - 1) (j := i) (by omega) hi
    rwa [show ((i - 1 : Nat) : Int) = (i : Int) - 1 by omega] at h5
theorem srt_names (l : List S61) : Srt l ↔ (l.map (·.f0)).Pairwise (fun a b => cmpS a b < 0) := by
  unfold Srt
  rw [List.pairwise_map]
theorem srt_set {l : List S61} (h : Srt l) (i : Nat) (hi : i < l.length) (x : S61) (hx : x.f0 = (rd_T61 l (i : Int)).f0) : Srt (l.set i x) := by
  rw [srt_names] at h ⊢
  rw [List.map_set, hx, rd_get l i hi, show l[i].f0 = (l.map (·.f0))[i]'(by rw [List.length_map]; exact hi) by rw [List.getElem_map], List.set_getElem_self]
  exact h
theorem srt_put {l : List S61} (hs : Srt l) (n : ByteArray) (hf : foundS l n = false) (x : S61) (hx : x.f0 = n) : Srt (putAt l (idxS l n) x) := by
  unfold Srt putAt
  rw [List.pairwise_append]
  refine ⟨List.Pairwise.sublist (List.take_sublist _ _) hs, ?_, ?_⟩
  · rw [List.pairwise_cons]
    refine ⟨fun b hb => ?_, List.Pairwise.sublist (List.drop_sublist _ _) hs⟩
    obtain ⟨j, h1, h2, rfl⟩ := mem_drop hb
    rw [hx]
    exact other_idx hs n hf h1 h2
  · intro a ha b hb
    obtain ⟨j, h1, h2, rfl⟩ := mem_take ha
    have h3 := below_idx n h1
    rcases List.mem_cons.1 hb with rfl | hb
    · rw [hx]
      exact h3
    · obtain ⟨q, h4, h5, rfl⟩ := mem_drop hb
      exact cmpS_trans h3 (other_idx hs n hf h4 h5)
theorem srt_erase {l : List S61} (hs : Srt l) (i : Nat) : Srt (l.eraseIdx i) := List.Pairwise.sublist (List.eraseIdx_sublist _ _) hs
theorem tot_put (l : List S61) (i : Nat) (x : S61) : totS (putAt l i x) = totS l + x.f1.length := by
  unfold putAt
  rw [tot_append, tot_cons]
  have := tot_append (l.take i) (l.drop i)
  rw [List.take_append_drop] at this
  omega
theorem tot_erase (l : List S61) (i : Nat) (h : i < l.length) : totS (l.eraseIdx i) = totS l - (rd_T61 l (i : Int)).f1.length := by
  rw [List.eraseIdx_eq_take_drop_succ, tot_append]
  have h1 := tot_append (l.take i) (l.drop i)
  rw [List.take_append_drop, List.drop_eq_getElem_cons h, tot_cons, ← rd_get l i h] at h1
  omega
theorem tot_set (l : List S61) (i : Nat) (h : i < l.length) (x : S61) : totS (l.set i x) = totS l - (rd_T61 l (i : Int)).f1.length + x.f1.length := by
  rw [List.set_eq_take_append_cons_drop, if_pos h, tot_append, tot_cons]
  have h1 := tot_append (l.take i) (l.drop i)
  rw [List.take_append_drop, List.drop_eq_getElem_cons h, tot_cons, ← rd_get l i h] at h1
  omega
theorem mem_put {l : List S61} {i : Nat} {x y : S61} (h : y ∈ putAt l i x) : y = x ∨ y ∈ l := by
  unfold putAt at h
  rcases List.mem_append.1 h with h | h
  · exact .inr (List.mem_of_mem_take h)
  · rcases List.mem_cons.1 h with h | h
    · exact .inl h
    · exact .inr (List.mem_of_mem_drop h)
theorem doL_formed {room : Int} {l : List S61} {kind : Int} {name nto : ByteArray} {bytes : List Int} (hf : FormedR room l) (hn : nmd name) (hk : 1 ≤ kind ∧ kind ≤ 4) (ht : kind = 3 → nmd nto) (hfo : kind ≠ 1 → foundS l name = true) (hl : kind = 1 → foundS l name = false → l.length ≠ 256) (hsp : kind = 1 → totS l + (bytes.length : Int) ≤ room) :
    FormedR room (doL l kind name nto bytes) ∧ (kind = 1 → totS (doL l kind name nto bytes) = totS l + bytes.length) ∧ (kind = 2 → totS (doL l kind name nto bytes) = totS l) ∧ (kind ≠ 1 → totS (doL l kind name nto bytes) ≤ totS l ∧ (doL l kind name nto bytes).length ≤ l.length) := by
  obtain ⟨h1, h2, h3, h4, h5, h6⟩ := (formed_iff2 room l).1 hf
  unfold doL
  simp only []
  by_cases k1 : kind = 1
  · rw [if_pos k1]
    have hs := hsp k1
    cases hfd : foundS l name with
    | true =>
      rw [if_pos rfl]
      have hi := found_lt hfd
      have hx := h2 _ (rdm l _ hi)
      have htot := tot_set l (idxS l name) hi ⟨(rd_T61 l (idxS l name : Int)).f0, (rd_T61 l (idxS l name : Int)).f1 ++ bytes, (rd_T61 l (idxS l name : Int)).f2⟩
      simp only [List.length_append] at htot
      refine ⟨(formed_iff2 _ _).2 ⟨srt_set h1 _ hi _ rfl, fun y hy => ?_, h3, h4, by rw [List.length_set]; exact h5, by omega⟩, fun _ => by omega, fun h => by omega, fun h => absurd k1 h⟩
      rcases List.mem_or_eq_of_mem_set hy with hy | rfl
      · exact h2 y hy
      · exact ⟨hx.1, hx.2.1, by show (rd_T61 l (idxS l name : Int)).f2 ≤ (((rd_T61 l (idxS l name : Int)).f1 ++ bytes).length : Int); rw [List.length_append]; have := hx.2.2; omega⟩
    | false =>
      rw [if_neg (by decide)]
      have htot := tot_put l (idxS l name) ⟨name, bytes, 0⟩
      simp only [] at htot
      have hne := hl k1 hfd
      refine ⟨(formed_iff2 _ _).2 ⟨srt_put h1 name hfd _ rfl, fun y hy => ?_, h3, h4, by rw [put_length]; omega, by omega⟩, fun _ => htot, fun h => by omega, fun h => absurd k1 h⟩
      rcases mem_put hy with rfl | hy
      · exact ⟨hn, Int.le_refl _, by show (0 : Int) ≤ _; omega⟩
      · exact h2 y hy
  · rw [if_neg k1]
    have hfd := hfo k1
    have hi := found_lt hfd
    have hx := h2 _ (rdm l _ hi)
    by_cases k2 : kind = 2
    · rw [if_pos k2]
      have htot := tot_set l (idxS l name) hi ⟨(rd_T61 l (idxS l name : Int)).f0, (rd_T61 l (idxS l name : Int)).f1, ((rd_T61 l (idxS l name : Int)).f1.length : Int)⟩
      simp only [] at htot
      refine ⟨(formed_iff2 _ _).2 ⟨srt_set h1 _ hi _ rfl, fun y hy => ?_, h3, h4, by rw [List.length_set]; exact h5, by omega⟩, fun h => absurd h k1, fun _ => by omega, fun _ => ⟨by omega, by rw [List.length_set]; exact Nat.le_refl _⟩⟩
      rcases List.mem_or_eq_of_mem_set hy with hy | rfl
      · exact h2 y hy
      · exact ⟨hx.1, Int.natCast_nonneg _, Int.le_refl _⟩
    · rw [if_neg k2]
      have hse := srt_erase h1 (idxS l name)
      have hte := tot_erase l (idxS l name) hi
      have hle : (l.eraseIdx (idxS l name)).length = l.length - 1 := by rw [List.length_eraseIdx, if_pos hi]
      have hme : ∀ y ∈ l.eraseIdx (idxS l name), okx y := fun y hy => h2 y (List.mem_of_mem_eraseIdx hy)
      by_cases k4 : kind = 4
      · rw [if_pos k4]
        exact ⟨(formed_iff2 _ _).2 ⟨hse, hme, h3, h4, by omega, by omega⟩, fun h => absurd h k1, fun h => absurd h k2, fun _ => ⟨by omega, by omega⟩⟩
      · rw [if_neg k4]
        have k3 : kind = 3 := by omega
        have hnt := ht k3
        generalize l.eraseIdx (idxS l name) = E at hse hte hle hme ⊢
        cases hf2 : foundS E nto with
        | true =>
          rw [if_pos rfl]
          have hk2 := found_lt hf2
          have hb := tot_at E (idxS E nto) hk2
          have htot := tot_set E (idxS E nto) hk2 ⟨nto, (rd_T61 l (idxS l name : Int)).f1, (rd_T61 l (idxS l name : Int)).f2⟩
          simp only [] at htot
          refine ⟨(formed_iff2 _ _).2 ⟨srt_set hse _ hk2 _ (found_name hf2).symm, fun y hy => ?_, h3, h4, by rw [List.length_set]; omega, by omega⟩, fun h => absurd h k1, fun h => absurd h k2, fun _ => ⟨by omega, by rw [List.length_set]; omega⟩⟩
          rcases List.mem_or_eq_of_mem_set hy with hy | rfl
          · exact hme y hy
          · exact ⟨hnt, hx.2⟩
        | false =>
          rw [if_neg (by decide)]
          have htot := tot_put E (idxS E nto) ⟨nto, (rd_T61 l (idxS l name : Int)).f1, (rd_T61 l (idxS l name : Int)).f2⟩
          simp only [] at htot
          refine ⟨(formed_iff2 _ _).2 ⟨srt_put hse nto hf2 _ rfl, fun y hy => ?_, h3, h4, by rw [put_length]; omega, by omega⟩, fun h => absurd h k1, fun h => absurd h k2, fun _ => ⟨by omega, by rw [put_length]; omega⟩⟩
          rcases mem_put hy with rfl | hy
          · exact ⟨hnt, hx.2⟩
          · exact hme y hy
theorem used_some {room : Int} {l : List S61} (h : Reach l) (hf : FormedR room l) : store_Used.f (3 * l.length + 3) room l = some (totS l) := by
  unfold store_Used.f
  rw [formed_plain room l h.small.small, decide_eq_true hf, Option.bind_some, if_pos rfl]
  have h1 := used_plain room l h.small.small ⟨hf.2.1, hf.2.2.1⟩
  rw [if_pos hf.2.2.2.2] at h1
  rw [at_rounds (fun k => store_used.mono _ _ k) (show l.length + 1 ≤ 3 * l.length + 3 by omega) h1, Option.bind_some]
theorem reach_of {room : Int} {l : List S61} (h : FormedR room l) : Reach l := by
  refine ⟨by have := h.2.2.2.1; omega, fun x hx => ?_⟩
  obtain ⟨i, hi, rfl⟩ := List.mem_iff_getElem.1 hx
  have h1 := tot_at l i hi
  rw [rd_get l i hi] at h1
  have := h.2.2.1
  have := h.2.2.2.2
  omega
def RR (room : Int) (l : List S61) (n : ByteArray) : List Int × Int := if FormedR room l ∧ nmd n then (if foundS l n = true then ((rd_T61 l (idxS l n : Int)).f1, 0) else ([], 8)) else ([], 1)
theorem own_read (room : Int) (l : List S61) (n : ByteArray) (hr : Reach l) : store_Read.f (3 * l.length + 3) room l n = some (RR room l n) := by
  have h1 := hr.1
  unfold store_Read.f RR
  rw [formed_plain room l hr.small.small, Option.bind_some]
  by_cases hf : FormedR room l
  · rw [decide_eq_true hf, if_pos rfl, named_nmd, Option.bind_some]
    by_cases hn : nmd n
    · rw [decide_eq_true hn, if_pos ⟨hf, hn⟩, show 3 * l.length + 3 = (3 * l.length + 2) + 1 by omega, store_Read.j0, if_neg (by decide)]
      unfold store_find.f
      rw [if_pos ⟨by omega, formed_srt hf⟩, Option.bind_some]
      simp only []
      cases hfd : foundS l n with
      | false => rw [if_neg (by decide), if_neg (by decide)]
      | true =>
        have hi := found_lt hfd
        have hb := hr.2 _ (rdm l _ hi)
        unfold slices_Clone_byte_byte.f
        rw [if_pos rfl, if_pos (by omega), if_pos (by omega), if_pos (by omega), Option.bind_some, if_pos rfl]
    · rw [decide_eq_false hn, if_neg (fun h => hn h.2), show 3 * l.length + 3 = (3 * l.length + 2) + 1 by omega, store_Read.j0, if_pos (by decide)]
  · rw [decide_eq_false hf, if_neg (by decide), if_neg (fun h => hf h.1), show 3 * l.length + 3 = (3 * l.length + 2) + 1 by omega, store_Read.j0, if_pos rfl]
theorem name_found {l : List S61} (hs : Srt l) {n : ByteArray} {i : Nat} (hi : i < l.length) (he : (rd_T61 l (i : Int)).f0 = n) : foundS l n = true ∧ idxS l n = i := by
  have h0 : ¬ cmpS (rd_T61 l (i : Int)).f0 n < 0 := by rw [he]; unfold cmpS; rw [cmp_self]; decide
  have h1 := idx_high l n hi h0
  have h2 : idxS l n = i := by
    rcases Nat.lt_or_eq_of_le h1 with h | h
    · have h3 := srt_get hs h hi
      rw [he] at h3
      exact absurd h3 (above_idx hs n (Nat.le_refl _) (by omega))
    · exact h
  refine ⟨?_, h2⟩
  unfold foundS
  rw [h2, he, decide_eq_true hi]
  unfold cmpS
  rw [cmp_self]
  rfl
def nA : ByteArray := ⟨#[97]⟩
def nB : ByteArray := ⟨#[98]⟩
theorem nAB : nA ≠ nB := by decide
theorem nmA : nmd nA := by decide
theorem nmB : nmd nB := by decide
def FI (L : List S61) (n al su : ByteArray) : Prop := (∃ x ∈ L, x.f0 = n ∧ strOfNums x.f1 = al ∧ x.f2 = (su.size : Int)) ∨ ((∀ x ∈ L, x.f0 ≠ n) ∧ al = ⟨#[]⟩ ∧ su = ⟨#[]⟩)
def SI (L : List S61) (a0 a1 s0 s1 : ByteArray) : Prop := FormedR 4096 L ∧ (∀ x ∈ L, x.f0 = nA ∨ x.f0 = nB) ∧ FI L nA a0 s0 ∧ FI L nB a1 s1
theorem si_start : SI [] ⟨#[]⟩ ⟨#[]⟩ ⟨#[]⟩ ⟨#[]⟩ := by
  refine ⟨(formed_iff2 _ _).2 ⟨List.Pairwise.nil, fun x hx => absurd hx (List.not_mem_nil), by decide, by decide, by decide, by decide⟩, fun x hx => absurd hx (List.not_mem_nil), .inr ⟨fun x hx => absurd hx (List.not_mem_nil), rfl, rfl⟩, .inr ⟨fun x hx => absurd hx (List.not_mem_nil), rfl, rfl⟩⟩
theorem si_len {L : List S61} (hs : Srt L) (hn : ∀ x ∈ L, x.f0 = nA ∨ x.f0 = nB) : L.length ≤ 2 := by
  match L, hs, hn with
  | [], _, _ => exact Nat.zero_le _
  | [_], _, _ => exact Nat.le_succ 1
  | [_, _], _, _ => exact Nat.le_refl _
  | x :: y :: z :: r, hs, hn =>
    exfalso
    have h1 := List.pairwise_cons.1 hs
    have h2 := List.pairwise_cons.1 h1.2
    have xy := h1.1 y (by simp)
    have xz := h1.1 z (by simp)
    have yz := h2.1 z (by simp)
    have self : ∀ q : ByteArray, ¬ cmpS q q < 0 := fun q h => by unfold cmpS at h; rw [cmp_self] at h; exact absurd h (by decide)
    have ba : ¬ cmpS nB nA < 0 := by decide
    rcases hn x (by simp) with e1 | e1 <;> rcases hn y (by simp) with e2 | e2 <;> rcases hn z (by simp) with e3 | e3 <;> rw [e1] at xy xz <;> rw [e2] at xy yz <;> rw [e3] at xz yz <;> first | exact self _ xy | exact self _ xz | exact self _ yz | exact ba xy | exact ba xz | exact ba yz
theorem found_mem {L : List S61} (hs : Srt L) {n : ByteArray} (h : foundS L n = true) : rd_T61 L (idxS L n : Int) ∈ L ∧ (rd_T61 L (idxS L n : Int)).f0 = n := ⟨rdm L _ (found_lt h), found_name h⟩
theorem mem_found {L : List S61} (hs : Srt L) {n : ByteArray} {x : S61} (hx : x ∈ L) (he : x.f0 = n) : foundS L n = true ∧ rd_T61 L (idxS L n : Int) = x := by
  obtain ⟨i, hi, rfl⟩ := List.mem_iff_getElem.1 hx
  rw [← rd_get L i hi] at he ⊢
  obtain ⟨h1, h2⟩ := name_found hs hi he
  rw [h1, h2]
  exact ⟨rfl, rfl⟩
theorem not_found {L : List S61} (hs : Srt L) {n : ByteArray} (h : foundS L n = false) {x : S61} (hx : x ∈ L) : x.f0 ≠ n := fun he => by rw [(mem_found hs hx he).1] at h; cases h
theorem fi_set {L : List S61} (hs : Srt L) {n m al su : ByteArray} {y : S61} (hf : foundS L n = true) (hy : y.f0 = n) (hm : m ≠ n) (h : FI L m al su) : FI (L.set (idxS L n) y) m al su := by
  have hi := found_lt hf
  rcases h with ⟨x, hx, he, h2⟩ | ⟨h1, h2⟩
  · refine .inl ⟨x, ?_, he, h2⟩
    obtain ⟨j, hj, rfl⟩ := List.mem_iff_getElem.1 hx
    have hne : idxS L n ≠ j := fun e => by
      have h3 := found_name hf
      rw [e, rd_get L j hj, he] at h3
      exact hm h3
    rw [List.mem_iff_getElem]
    exact ⟨j, by rw [List.length_set]; exact hj, List.getElem_set_ne hne _⟩
  · refine .inr ⟨fun x hx => ?_, h2⟩
    rcases List.mem_or_eq_of_mem_set hx with hx | rfl
    · exact h1 x hx
    · exact fun e => hm (e.symm.trans hy)
theorem fi_put {L : List S61} {n m al su : ByteArray} {y : S61} {i : Nat} (hy : y.f0 = n) (hm : m ≠ n) (h : FI L m al su) : FI (putAt L i y) m al su := by
  rcases h with ⟨x, hx, h2⟩ | ⟨h1, h2⟩
  · refine .inl ⟨x, ?_, h2⟩
    have : x ∈ L.take i ++ L.drop i := by rw [List.take_append_drop]; exact hx
    unfold putAt
    rcases List.mem_append.1 this with h | h
    · exact List.mem_append_left _ h
    · exact List.mem_append_right _ (List.mem_cons_of_mem _ h)
  · refine .inr ⟨fun x hx => ?_, h2⟩
    rcases mem_put hx with rfl | hx
    · exact fun e => hm (e.symm.trans hy)
    · exact h1 x hx
theorem str_app (a b : List Int) : strOfNums (a ++ b) = strOfNums a ++ strOfNums b := by
  apply ByteArray.ext
  rw [ByteArray.data_append]
  unfold strOfNums
  simp
theorem str_size (a : List Int) : (strOfNums a).size = a.length := by
  unfold strOfNums
  simp [ByteArray.size]
theorem si_app {L : List S61} {a0 a1 s0 s1 : ByteArray} (h : SI L a0 a1 s0 s1) (k : Bool) (b : List Int) :
    (totS L + (b.length : Int) > 4096 ∧ doR 4096 L 1 (if k then nB else nA) ⟨#[]⟩ b = (0, [], 11)) ∨ (∃ L2, doR 4096 L 1 (if k then nB else nA) ⟨#[]⟩ b = (4096, L2, 0) ∧ SI L2 (if k then a0 else a0 ++ strOfNums b) (if k then a1 ++ strOfNums b else a1) s0 s1) := by
  obtain ⟨hf, hn, hA, hB⟩ := h
  have hs := formed_srt hf
  have hnm : nmd (if k = true then nB else nA) := by cases k <;> decide
  by_cases hsp : totS L + (b.length : Int) > 4096
  · refine .inl ⟨hsp, ?_⟩
    have := si_len hs hn
    unfold doR
    rw [if_neg (fun h => by rcases h with h | h | h | h; exact h hf; exact h hnm; exact absurd h (by decide); exact absurd h (by decide)), if_neg (fun h => absurd h.1 (by decide)), if_neg (fun h => h.2 rfl), if_neg (fun h => by have := h.2.2; omega), if_pos ⟨rfl, hsp⟩]
  · right
    have hlen := si_len hs hn
    refine ⟨doL L 1 (if k = true then nB else nA) ⟨#[]⟩ b, ?_, ?_⟩
    · unfold doR
      rw [if_neg (fun h => by rcases h with h | h | h | h; exact h hf; exact h hnm; exact absurd h (by decide); exact absurd h (by decide)), if_neg (fun h => absurd h.1 (by decide)), if_neg (fun h => h.2 rfl), if_neg (fun h => by have := h.2.2; omega), if_neg (fun h => hsp h.2)]
    obtain ⟨q1, _⟩ := doL_formed (kind := 1) (nto := ⟨#[]⟩) (bytes := b) hf hnm ⟨by decide, by decide⟩ (fun h => absurd h (by decide)) (fun h => absurd rfl h) (fun _ _ h3 => by omega) (fun _ => by omega)
    have key : ∀ n al su : ByteArray, n = (if k = true then nB else nA) → FI L n al su → FI (doL L 1 n ⟨#[]⟩ b) n (al ++ strOfNums b) su := by
      intro n al su hnk hfi
      unfold doL
      simp only []
      rw [if_pos trivial]
      rcases hfi with ⟨x, hx, he, h2, h3⟩ | ⟨h1, h2, h3⟩
      · obtain ⟨m1, m2⟩ := mem_found hs hx he
        rw [m1, if_pos rfl, m2]
        have hi := found_lt m1
        refine .inl ⟨⟨x.f0, x.f1 ++ b, x.f2⟩, ?_, he, ?_, h3⟩
        · rw [List.mem_iff_getElem]
          exact ⟨idxS L n, by rw [List.length_set]; exact hi, List.getElem_set_self _⟩
        · show strOfNums (x.f1 ++ b) = _
          rw [str_app, h2]
      · have hfo : foundS L n = false := by
          cases hc : foundS L n with
          | false => rfl
          | true => exact absurd (found_mem hs hc).2 (h1 _ (found_mem hs hc).1)
        rw [hfo, if_neg Bool.false_ne_true]
        refine .inl ⟨⟨n, b, 0⟩, ?_, rfl, ?_, ?_⟩
        · unfold putAt
          exact List.mem_append_right _ List.mem_cons_self
        · show strOfNums b = al ++ strOfNums b
          rw [h2]
          exact (ByteArray.empty_append).symm
        · rw [h3]
          rfl
    have oth : ∀ m al su : ByteArray, m ≠ (if k = true then nB else nA) → FI L m al su → FI (doL L 1 (if k = true then nB else nA) ⟨#[]⟩ b) m al su := by
      intro m al su hm hfi
      unfold doL
      simp only []
      rw [if_pos trivial]
      cases hc : foundS L (if k = true then nB else nA) with
      | true =>
        rw [if_pos rfl]
        exact fi_set hs hc (found_mem hs hc).2 hm hfi
      | false =>
        rw [if_neg Bool.false_ne_true]
        exact fi_put rfl hm hfi
    have names : ∀ x ∈ doL L 1 (if k = true then nB else nA) ⟨#[]⟩ b, x.f0 = nA ∨ x.f0 = nB := by
      intro x hx
      have hkn : (if k = true then nB else nA) = nA ∨ (if k = true then nB else nA) = nB := by cases k; exact .inl rfl; exact .inr rfl
      unfold doL at hx
      simp only [] at hx
      rw [if_pos trivial] at hx
      cases hc : foundS L (if k = true then nB else nA) with
      | true =>
        rw [hc, if_pos rfl] at hx
        rcases List.mem_or_eq_of_mem_set hx with hx | rfl
        · exact hn x hx
        · exact hn (rd_T61 L (idxS L (if k = true then nB else nA) : Int)) (found_mem hs hc).1
      | false =>
        rw [hc, if_neg Bool.false_ne_true] at hx
        rcases mem_put hx with rfl | hx
        · exact hkn
        · exact hn x hx
    cases k with
    | false => exact ⟨q1, names, key nA a0 s0 rfl hA, oth nB a1 s1 (Ne.symm nAB) hB⟩
    | true => exact ⟨q1, names, oth nA a0 s0 nAB hA, key nB a1 s1 rfl hB⟩
theorem si_sync {L : List S61} {a0 a1 s0 s1 : ByteArray} (h : SI L a0 a1 s0 s1) (k : Bool) :
    ((if k then a1 else a0) = ⟨#[]⟩ ∧ doR 4096 L 2 (if k then nB else nA) ⟨#[]⟩ [] = (0, [], 8)) ∨ (∃ L2, doR 4096 L 2 (if k then nB else nA) ⟨#[]⟩ [] = (4096, L2, 0) ∧ SI L2 a0 a1 (if k then s0 else a0) (if k then a1 else s1)) := by
  obtain ⟨hf, hn, hA, hB⟩ := h
  have hs := formed_srt hf
  have hnm : nmd (if k = true then nB else nA) := by cases k <;> decide
  cases hc : foundS L (if k = true then nB else nA) with
  | false =>
    refine .inl ⟨?_, ?_⟩
    · cases k with
      | false =>
        rcases hA with ⟨x, hx, he, _⟩ | ⟨_, h2, _⟩
        · exact absurd he (not_found hs hc hx)
        · exact h2
      | true =>
        rcases hB with ⟨x, hx, he, _⟩ | ⟨_, h2, _⟩
        · exact absurd he (not_found hs hc hx)
        · exact h2
    · unfold doR
      rw [if_neg (fun h => by rcases h with h | h | h | h; exact h hf; exact h hnm; exact absurd h (by decide); exact absurd h (by decide)), if_neg (fun h => absurd h.1 (by decide)), if_pos ⟨hc, by decide⟩]
  | true =>
    right
    refine ⟨doL L 2 (if k = true then nB else nA) ⟨#[]⟩ [], ?_, ?_⟩
    · unfold doR
      rw [if_neg (fun h => by rcases h with h | h | h | h; exact h hf; exact h hnm; exact absurd h (by decide); exact absurd h (by decide)), if_neg (fun h => absurd h.1 (by decide)), if_neg (fun h => by rw [hc] at h; cases h.1), if_neg (fun h => absurd h.1 (by decide)), if_neg (fun h => absurd h.1 (by decide))]
    obtain ⟨q1, _⟩ := doL_formed (kind := 2) (nto := ⟨#[]⟩) (bytes := []) hf hnm ⟨by decide, by decide⟩ (fun h => absurd h (by decide)) (fun _ => hc) (fun h => absurd h (by decide)) (fun h => absurd h (by decide))
    have hd : doL L 2 (if k = true then nB else nA) ⟨#[]⟩ [] = L.set (idxS L (if k = true then nB else nA)) ⟨(rd_T61 L (idxS L (if k = true then nB else nA) : Int)).f0, (rd_T61 L (idxS L (if k = true then nB else nA) : Int)).f1, ((rd_T61 L (idxS L (if k = true then nB else nA) : Int)).f1.length : Int)⟩ := by
      unfold doL
      simp only []
      rw [if_neg (by decide), if_pos trivial]
    rw [hd] at q1 ⊢
    have hi := found_lt hc
    have key : ∀ al su : ByteArray, FI L (if k = true then nB else nA) al su → FI (L.set (idxS L (if k = true then nB else nA)) ⟨(rd_T61 L (idxS L (if k = true then nB else nA) : Int)).f0, (rd_T61 L (idxS L (if k = true then nB else nA) : Int)).f1, ((rd_T61 L (idxS L (if k = true then nB else nA) : Int)).f1.length : Int)⟩) (if k = true then nB else nA) al al := by
      intro al su hfi
      rcases hfi with ⟨x, hx, he, h2, h3⟩ | ⟨h1, _⟩
      · obtain ⟨m1, m2⟩ := mem_found hs hx he
        rw [m2]
        refine .inl ⟨⟨x.f0, x.f1, (x.f1.length : Int)⟩, ?_, he, h2, ?_⟩
        · rw [List.mem_iff_getElem]
          exact ⟨_, by rw [List.length_set]; exact hi, List.getElem_set_self _⟩
        · show (x.f1.length : Int) = _
          rw [← h2, str_size]
      · exact absurd (found_mem hs hc).2 (h1 _ (found_mem hs hc).1)
    have names : ∀ x ∈ L.set (idxS L (if k = true then nB else nA)) ⟨(rd_T61 L (idxS L (if k = true then nB else nA) : Int)).f0, (rd_T61 L (idxS L (if k = true then nB else nA) : Int)).f1, ((rd_T61 L (idxS L (if k = true then nB else nA) : Int)).f1.length : Int)⟩, x.f0 = nA ∨ x.f0 = nB := by
      intro x hx
      rcases List.mem_or_eq_of_mem_set hx with hx | rfl
      · exact hn x hx
      · exact hn (rd_T61 L (idxS L (if k = true then nB else nA) : Int)) (found_mem hs hc).1
    cases k with
    | false => exact ⟨q1, names, key a0 s0 hA, fi_set hs hc (found_mem hs hc).2 (Ne.symm nAB) hB⟩
    | true => exact ⟨q1, names, fi_set hs hc (found_mem hs hc).2 nAB hA, key a1 s1 hB⟩
theorem str_take (l : List Int) (n : Nat) : strOfNums (l.take n) = (strOfNums l).extract 0 n := by
  apply ByteArray.ext
  rw [ByteArray.data_extract]
  unfold strOfNums
  simp [List.map_take]
theorem crash_ok {keeps : List S59} {x : S61} (h : okx x) : okx (crashF keeps x) ∧ x.f2 ≤ ((crashF keeps x).f1.length : Int) ∧ (crashF keeps x).f1 = x.f1.take (crashF keeps x).f1.length := by
  obtain ⟨h1, h2, h3⟩ := h
  have hl : 0 ≤ D.leftOf keeps x ∧ D.leftOf keeps x ≤ x.f1.length ∧ x.f2 ≤ D.leftOf keeps x := by unfold D.leftOf; omega
  have hlen : (crashF keeps x).f1.length = (D.leftOf keeps x).toNat := by
    unfold crashF
    show (x.f1.take _).length = _
    rw [List.length_take]
    omega
  refine ⟨⟨h1, hl.1, ?_⟩, by rw [hlen]; omega, ?_⟩
  · rw [hlen]
    show D.leftOf keeps x ≤ _
    omega
  · rw [hlen]
    rfl
theorem tot_map_le (keeps : List S59) (l : List S61) : totS (l.map (crashF keeps)) ≤ totS l := by
  induction l with
  | nil => exact Int.le_refl _
  | cons x r ih =>
    rw [List.map_cons, tot_cons, tot_cons]
    have : (crashF keeps x).f1.length ≤ x.f1.length := by
      unfold crashF
      show (x.f1.take _).length ≤ _
      rw [List.length_take]
      exact Nat.min_le_right _ _
    omega
theorem crash_formed {room : Int} {L : List S61} (keeps : List S59) (h : FormedR room L) : FormedR room (L.map (crashF keeps)) := by
  obtain ⟨h1, h2, h3, h4, h5, h6⟩ := (formed_iff2 room L).1 h
  refine (formed_iff2 _ _).2 ⟨?_, fun y hy => ?_, h3, h4, by rw [List.length_map]; exact h5, Int.le_trans (tot_map_le keeps L) h6⟩
  · rw [srt_names] at h1 ⊢
    rw [List.map_map]
    exact h1
  · obtain ⟨x, hx, rfl⟩ := List.mem_map.1 hy
    exact (crash_ok (h2 x hx)).1
theorem fi_end {L : List S61} {n al su : ByteArray} (hf : FormedR 4096 L) (hn : nmd n) (keeps : List S59) (h : FI L n al su) :
    (∃ b, RR 4096 (L.map (crashF keeps)) n = (b, 0) ∧ su.size ≤ b.length ∧ b.length ≤ al.size ∧ strOfNums b = al.extract 0 b.length) ∨ (RR 4096 (L.map (crashF keeps)) n = ([], 8) ∧ al = ⟨#[]⟩) := by
  have hc := crash_formed keeps hf
  have hs := formed_srt hc
  unfold RR
  rw [if_pos ⟨hc, hn⟩]
  rcases h with ⟨x, hx, he, h2, h3⟩ | ⟨h1, h2, _⟩
  · left
    have hm : crashF keeps x ∈ L.map (crashF keeps) := List.mem_map.2 ⟨x, hx, rfl⟩
    obtain ⟨m1, m2⟩ := mem_found hs hm (show (crashF keeps x).f0 = n from he)
    obtain ⟨k1, k2, k3⟩ := crash_ok (keeps := keeps) (((formed_iff2 4096 L).1 hf).2.1 x hx)
    rw [m1, if_pos rfl, m2]
    have hle : (crashF keeps x).f1.length ≤ x.f1.length := by
      rw [k3, List.length_take]
      exact Nat.min_le_right _ _
    refine ⟨_, rfl, by omega, by rw [← h2, str_size]; exact hle, ?_⟩
    have h4 : strOfNums (crashF keeps x).f1 = strOfNums (x.f1.take (crashF keeps x).f1.length) := congrArg strOfNums k3
    rw [h4, str_take, h2]
  · right
    have hfo : foundS (L.map (crashF keeps)) n = false := by
      cases hc2 : foundS (L.map (crashF keeps)) n with
      | false => rfl
      | true =>
        obtain ⟨y1, y2⟩ := found_mem hs hc2
        obtain ⟨x, hx, hxe⟩ := List.mem_map.1 y1
        exact absurd (by rw [← y2, ← hxe]; rfl) (h1 x hx)
    rw [hfo, if_neg Bool.false_ne_true]
    exact ⟨rfl, h2⟩
structure S46 where
  f0 : Int
  f1 : (List Int)
def z46 : S46 := ⟨(0 : Int), ([] : List Int)⟩
def k46 : Kd S46 := Kd.iso (Kd.pair (Kd.int .u8) (Kd.slice 5 (Kd.int .u8))) (fun x : S46 => (x.f0, x.f1))
theorem k46_open {w : World} {x : S46} {cs : List Value} (h : k46.K w x cs) : ∃ A1 c1, cs = [.int .u8 x.f0, .slice A1 x.f1.length c1] ∧ x.f1.length ≤ c1 ∧ (Kd.int .u8).C w A1 x.f1.length x.f1 := by
  obtain ⟨_, _, rfl, rfl, ⟨A1, c1, rfl, l1, g1⟩⟩ := h
  exact ⟨A1, c1, rfl, l1, g1⟩
def rd_T46 (xs : List S46) (i : Int) : S46 := xs.getD i.toNat z46
theorem at_T46 {w : World} {A : Option Addr} {n : Nat} {xs : List S46} (h : Kd.C k46 w A n xs) (i : Int) (h0 : 0 ≤ i) (h1 : i < n) : ∃ ad A1 c1, A = some ad ∧ w.cell? (ad.add (i.toNat * 2)) = some (.int .u8 (rd_T46 xs i).f0) ∧ w.cell? ⟨(ad.add (i.toNat * 2)).block, (ad.add (i.toNat * 2)).off + 1, none⟩ = some (.slice A1 (rd_T46 xs i).f1.length c1) ∧ (rd_T46 xs i).f1.length ≤ c1 ∧ (Kd.int .u8).C w A1 (rd_T46 xs i).f1.length (rd_T46 xs i).f1 := by
  obtain ⟨ad, c, e, _, hK, hc0⟩ := Kd.C_get h z46 i h0 h1
  have hc : ∀ j u, c[j]? = some u → w.cell? (ad.add (i.toNat * 2 + j)) = some u := hc0
  obtain ⟨A1, c1, rfl, l1, g1⟩ := k46_open hK
  exact ⟨ad, A1, c1, e, hc 0 _ rfl, by rw [← add_field _ _ 1 (by omega)]; exact hc 1 _ rfl, l1, g1⟩
end Go.Proofs.Ytopjdjljpkcdlaa.U
