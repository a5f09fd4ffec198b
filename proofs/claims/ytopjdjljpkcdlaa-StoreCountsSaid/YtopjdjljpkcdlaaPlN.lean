/- The plain law behind the printed walk (namespace N): what the functions come to. -/
import Derived.Test.YtopjdjljpkcdlaaNx8
namespace Go.Proofs.Ytopjdjljpkcdlaa.N
open Go.RowKit Go.Proofs.YtopjdjljpkcdlaaW.PrintWords Go.Proofs.YtopjdjljpkcdlaaW.PrintLast Go.Proofs.YtopjdjljpkcdlaaW.PrintMore
open Go.Maps
set_option linter.unusedVariables false
set_option linter.unusedSimpArgs false
theorem rdm (l : List S61) (i : Nat) (h : i < l.length) : rd_T61 l (i : Int) ∈ l := by
  unfold rd_T61
  rw [Int.toNat_natCast, List.getD_eq_getElem?_getD, List.getElem?_eq_getElem h]
  exact List.getElem_mem h
def Reach (l : List S61) : Prop := l.length < 2932031007402 ∧ ∀ x ∈ l, x.f1.length ≤ 140737488351232
theorem Reach.small {l : List S61} (h : Reach l) : SmallD l := ⟨by have := h.1; omega, h.2⟩
def QF (x : S61) : Prop := x.f0.size ≤ 140737488351232 ∧ (x.f1.length * Try.prog.bytesOf 5 ≤ 140737488351232 ∧ ∀ u ∈ x.f1, (Lit.int .u8 u).wf = true) ∧ (Lit.int .i64 x.f2).wf = true
def QD (room : Int) (l : List S61) : Prop := (Lit.int .i64 room).wf = true ∧ (l.length * Try.prog.bytesOf 61 ≤ 140737488351232 ∧ ∀ x ∈ l, QF x)
theorem bytes61 : Try.prog.bytesOf 61 = 48 := by kernel_rfl
theorem bytes5 : Try.prog.bytesOf 5 = 1 := by kernel_rfl
theorem reach_q {room : Int} {l : List S61} (h : QD room l) : Reach l := by
  obtain ⟨_, h1, h2⟩ := h
  rw [bytes61] at h1
  refine ⟨by omega, fun x hx => ?_⟩
  have h3 := (h2 x hx).2.1.1
  rw [bytes5] at h3
  omega
def QK (l : List S59) : Prop := l.length * Try.prog.bytesOf 59 ≤ 140737488351232 ∧ ∀ x ∈ l, x.f0.size ≤ 140737488351232 ∧ (Lit.int .i64 x.f1).wf = true
theorem bytes59 : Try.prog.bytesOf 59 = 24 := by kernel_rfl
theorem wf64 {q : Int} (h : (Lit.int .i64 q).wf = true) : -9223372036854775808 ≤ q ∧ q ≤ 9223372036854775807 := by
  simp [Lit.wf, IntKind.min, IntKind.max, IntKind.signed, IntKind.bits] at h
  omega
theorem keeps_q {l : List S59} (h : QK l) : KeepsOK l := by
  obtain ⟨h1, h2⟩ := h
  rw [bytes59] at h1
  exact ⟨by omega, fun x hx => ⟨(h2 x hx).1, wf64 (h2 x hx).2⟩⟩
/-! What stays formed. -/
def okx (x : S61) : Prop := nmd x.f0 ∧ 0 ≤ x.f2 ∧ x.f2 ≤ x.f1.length
theorem rd_get (l : List S61) (i : Nat) (h : i < l.length) : rd_T61 l (i : Int) = l[i] := by
  unfold rd_T61
  rw [Int.toNat_natCast, List.getD_eq_getElem?_getD, List.getElem?_eq_getElem h]
  rfl
theorem srt_get {l : List S61} (h : Srt l) {i j : Nat} (hij : i < j) (hj : j < l.length) : cmpS (rd_T61 l (i : Int)).f0 (rd_T61 l (j : Int)).f0 < 0 := by
  rw [rd_get l i (by omega), rd_get l j hj]
  exact List.pairwise_iff_getElem.1 h i j (by omega) hj hij
theorem formed_iff2 (room : Int) (l : List S61) : FormedR room l ↔ (Srt l ∧ (∀ x ∈ l, okx x) ∧ 0 ≤ room ∧ room ≤ 67108864 ∧ l.length ≤ 256 ∧ totS l ≤ room) := by
  constructor
  · intro h
    have h2 := (formed_iff room l).1 h
    refine ⟨formed_srt h, fun x hx => ?_, h2.2⟩
    obtain ⟨i, hi, rfl⟩ := List.mem_iff_getElem.1 hx
    have h3 := h2.1 i hi
    unfold okS at h3
    rw [rd_get l i hi] at h3
    exact ⟨h3.1, h3.2.1, h3.2.2.1⟩
  · rintro ⟨h1, h2, h3⟩
    refine (formed_iff room l).2 ⟨fun i hi => ?_, h3⟩
    have h4 := h2 _ (List.getElem_mem hi)
    unfold okS
    refine ⟨by rw [rd_get l i hi]; exact h4.1, by rw [rd_get l i hi]; exact h4.2.1, by rw [rd_get l i hi]; exact h4.2.2, fun h0 => ?_⟩
    have h5 := srt_get h1 (i := i - 1) (j := i) (by omega) hi
    rwa [show ((i - 1 : Nat) : Int) = (i : Int) - 1 by omega] at h5
theorem srt_names (l : List S61) : Srt l ↔ (l.map (·.f0)).Pairwise (fun a b => cmpS a b < 0) := by
  unfold Srt
  rw [List.pairwise_map]
theorem srt_set {l : List S61} (h : Srt l) (i : Nat) (hi : i < l.length) (x : S61) (hx : x.f0 = (rd_T61 l (i : Int)).f0) : Srt (l.set i x) := by
  rw [srt_names] at h ⊢
  rw [List.map_set, hx, rd_get l i hi, show l[i].f0 = (l.map (·.f0))[i]'(by rw [List.length_map]; exact hi) by rw [List.getElem_map], List.set_getElem_self]
  exact h
theorem cmp_self : ∀ a : List UInt8, Lib.compareBytes a a = 0
  | [] => rfl
  | x :: a => by
    unfold Lib.compareBytes
    have h : ¬ x < x := fun hh => by have := UInt8.lt_iff_toNat_lt.1 hh; omega
    rw [if_neg h, if_neg h]
    exact cmp_self a
theorem cmp_zero : ∀ a b : List UInt8, Lib.compareBytes a b = 0 → a = b
  | [], [], _ => rfl
  | [], _ :: _, h => by simp [Lib.compareBytes] at h
  | _ :: _, [], h => by simp [Lib.compareBytes] at h
  | x :: a, y :: b, h => by
    unfold Lib.compareBytes at h
    by_cases h1 : x < y
    · rw [if_pos h1] at h
      simp at h
    · rw [if_neg h1] at h
      by_cases h2 : y < x
      · rw [if_pos h2] at h
        simp at h
      · rw [if_neg h2] at h
        have t : ∀ p q : UInt8, p < q ↔ p.toNat < q.toNat := fun p q => UInt8.lt_iff_toNat_lt
        have h4 : ¬ x.toNat < y.toNat := fun hh => h1 ((t _ _).2 hh)
        have h5 : ¬ y.toNat < x.toNat := fun hh => h2 ((t _ _).2 hh)
        have h3 : x = y := UInt8.toNat_inj.1 (by omega)
        rw [h3, cmp_zero a b h]
theorem cmp_neg : ∀ a b : List UInt8, ¬ Lib.compareBytes a b < 0 → Lib.compareBytes a b ≠ 0 → Lib.compareBytes b a < 0
  | [], [], _, h => absurd rfl h
  | [], _ :: _, h, _ => absurd (by simp [Lib.compareBytes]) h
  | _ :: _, [], _, _ => by simp [Lib.compareBytes]
  | x :: a, y :: b, h, h0 => by
    unfold Lib.compareBytes at h h0 ⊢
    by_cases h1 : x < y
    · rw [if_pos h1] at h
      exact absurd (by decide) h
    · rw [if_neg h1] at h h0
      by_cases h2 : y < x
      · rw [if_pos h2]
        decide
      · rw [if_neg h2] at h h0 ⊢
        rw [if_neg h1]
        exact cmp_neg a b h h0
theorem cmpS_eq {a b : ByteArray} (h : cmpS a b = 0) : a = b := by
  have := cmp_zero _ _ h
  cases a
  cases b
  congr 1
  exact Array.toList_inj.1 this
theorem cmpS_neg {a b : ByteArray} (h : ¬ cmpS a b < 0) (h0 : cmpS a b ≠ 0) : cmpS b a < 0 := cmp_neg _ _ h h0
theorem cmpS_trans {a b c : ByteArray} (h : cmpS a b < 0) (h2 : cmpS b c < 0) : cmpS a c < 0 := cmpB_trans _ _ _ h h2
theorem below_idx {l : List S61} (n : ByteArray) {j : Nat} (hj : j < idxS l n) : cmpS (rd_T61 l (j : Int)).f0 n < 0 := by
  have hl := idx_le l n
  by_cases h : cmpS (rd_T61 l (j : Int)).f0 n < 0
  · exact h
  · have := idx_high l n (b := j) (by omega) h
    omega
theorem above_idx {l : List S61} (hs : Srt l) (n : ByteArray) {j : Nat} (hj : idxS l n ≤ j) (hl : j < l.length) : ¬ cmpS (rd_T61 l (j : Int)).f0 n < 0 := fun h => by
  have := idx_low hs n hl h
  omega
theorem other_idx {l : List S61} (hs : Srt l) (n : ByteArray) (hf : foundS l n = false) {j : Nat} (hj : idxS l n ≤ j) (hl : j < l.length) : cmpS n (rd_T61 l (j : Int)).f0 < 0 := by
  refine cmpS_neg (above_idx hs n hj hl) fun h0 => ?_
  rcases Nat.lt_or_eq_of_le hj with h | h
  · have h1 := srt_get hs h hl
    rw [cmpS_eq h0] at h1
    exact above_idx hs n (Nat.le_refl _) (by omega) h1
  · unfold foundS at hf
    rw [h, h0] at hf
    simp [hl] at hf
theorem mem_take {l : List S61} {i : Nat} {a : S61} (h : a ∈ l.take i) : ∃ j : Nat, j < i ∧ j < l.length ∧ a = rd_T61 l (j : Int) := by
  obtain ⟨j, hj, rfl⟩ := List.mem_iff_getElem.1 h
  rw [List.length_take] at hj
  refine ⟨j, by omega, by omega, ?_⟩
  rw [rd_get l j (by omega), List.getElem_take]
theorem mem_drop {l : List S61} {i : Nat} {a : S61} (h : a ∈ l.drop i) : ∃ j : Nat, i ≤ j ∧ j < l.length ∧ a = rd_T61 l (j : Int) := by
  obtain ⟨j, hj, rfl⟩ := List.mem_iff_getElem.1 h
  rw [List.length_drop] at hj
  refine ⟨i + j, by omega, by omega, ?_⟩
  rw [rd_get l (i + j) (by omega), List.getElem_drop]
theorem srt_put {l : List S61} (hs : Srt l) (n : ByteArray) (hf : foundS l n = false) (x : S61) (hx : x.f0 = n) : Srt (putAt l (idxS l n) x) := by
  unfold Srt putAt
  rw [List.pairwise_append]
  refine ⟨List.Pairwise.sublist (List.take_sublist _ _) hs, ?_, ?_⟩
  · rw [List.pairwise_cons]
    refine ⟨fun b hb => ?_, List.Pairwise.sublist (List.drop_sublist _ _) hs⟩
    obtain ⟨j, h1, h2, rfl⟩ := mem_drop hb
    rw [hx]
    exact other_idx hs n hf h1 h2
  · intro a ha b hb
    obtain ⟨j, h1, h2, rfl⟩ := mem_take ha
    have h3 := below_idx n h1
    rcases List.mem_cons.1 hb with rfl | hb
    · rw [hx]
      exact h3
    · obtain ⟨q, h4, h5, rfl⟩ := mem_drop hb
      exact cmpS_trans h3 (other_idx hs n hf h4 h5)
theorem srt_erase {l : List S61} (hs : Srt l) (i : Nat) : Srt (l.eraseIdx i) := List.Pairwise.sublist (List.eraseIdx_sublist _ _) hs
theorem tot_put (l : List S61) (i : Nat) (x : S61) : totS (putAt l i x) = totS l + x.f1.length := by
  unfold putAt
  rw [tot_append, tot_cons]
  have := tot_append (l.take i) (l.drop i)
  rw [List.take_append_drop] at this
  omega
theorem tot_erase (l : List S61) (i : Nat) (h : i < l.length) : totS (l.eraseIdx i) = totS l - (rd_T61 l (i : Int)).f1.length := by
  rw [List.eraseIdx_eq_take_drop_succ, tot_append]
  have h1 := tot_append (l.take i) (l.drop i)
  rw [List.take_append_drop, List.drop_eq_getElem_cons h, tot_cons, ← rd_get l i h] at h1
  omega
theorem tot_set (l : List S61) (i : Nat) (h : i < l.length) (x : S61) : totS (l.set i x) = totS l - (rd_T61 l (i : Int)).f1.length + x.f1.length := by
  rw [List.set_eq_take_append_cons_drop, if_pos h, tot_append, tot_cons]
  have h1 := tot_append (l.take i) (l.drop i)
  rw [List.take_append_drop, List.drop_eq_getElem_cons h, tot_cons, ← rd_get l i h] at h1
  omega
theorem found_name {l : List S61} {n : ByteArray} (h : foundS l n = true) : (rd_T61 l (idxS l n : Int)).f0 = n := by
  unfold foundS at h
  rw [Bool.and_eq_true] at h
  exact cmpS_eq (by simpa using h.2)
theorem mem_put {l : List S61} {i : Nat} {x y : S61} (h : y ∈ putAt l i x) : y = x ∨ y ∈ l := by
  unfold putAt at h
  rcases List.mem_append.1 h with h | h
  · exact .inr (List.mem_of_mem_take h)
  · rcases List.mem_cons.1 h with h | h
    · exact .inl h
    · exact .inr (List.mem_of_mem_drop h)
theorem put_length (l : List S61) (i : Nat) (x : S61) : (putAt l i x).length = l.length + 1 := by
  unfold putAt
  rw [List.length_append, List.length_cons, List.length_take, List.length_drop]
  omega
/-- What an operation that is done leaves is formed; how much it holds. -/
theorem doL_formed {room : Int} {l : List S61} {kind : Int} {name nto : ByteArray} {bytes : List Int} (hf : FormedR room l) (hn : nmd name) (hk : 1 ≤ kind ∧ kind ≤ 4) (ht : kind = 3 → nmd nto) (hfo : kind ≠ 1 → foundS l name = true) (hl : kind = 1 → foundS l name = false → l.length ≠ 256) (hsp : kind = 1 → totS l + (bytes.length : Int) ≤ room) :
    FormedR room (doL l kind name nto bytes) ∧ (kind = 1 → totS (doL l kind name nto bytes) = totS l + bytes.length) ∧ (kind = 2 → totS (doL l kind name nto bytes) = totS l) ∧ (kind ≠ 1 → totS (doL l kind name nto bytes) ≤ totS l ∧ (doL l kind name nto bytes).length ≤ l.length) := by
  obtain ⟨h1, h2, h3, h4, h5, h6⟩ := (formed_iff2 room l).1 hf
  unfold doL
  simp only []
  by_cases k1 : kind = 1
  · rw [if_pos k1]
    have hs := hsp k1
    cases hfd : foundS l name with
    | true =>
      rw [if_pos rfl]
      have hi := found_lt hfd
      have hx := h2 _ (rdm l _ hi)
      have htot := tot_set l (idxS l name) hi ⟨(rd_T61 l (idxS l name : Int)).f0, (rd_T61 l (idxS l name : Int)).f1 ++ bytes, (rd_T61 l (idxS l name : Int)).f2⟩
      simp only [List.length_append] at htot
      refine ⟨(formed_iff2 _ _).2 ⟨srt_set h1 _ hi _ rfl, fun y hy => ?_, h3, h4, by rw [List.length_set]; exact h5, by omega⟩, fun _ => by omega, fun h => by omega, fun h => absurd k1 h⟩
      rcases List.mem_or_eq_of_mem_set hy with hy | rfl
      · exact h2 y hy
      · exact ⟨hx.1, hx.2.1, by show (rd_T61 l (idxS l name : Int)).f2 ≤ (((rd_T61 l (idxS l name : Int)).f1 ++ bytes).length : Int); rw [List.length_append]; have := hx.2.2; omega⟩
    | false =>
      rw [if_neg (by decide)]
      have htot := tot_put l (idxS l name) ⟨name, bytes, 0⟩
      simp only [] at htot
      have hne := hl k1 hfd
      refine ⟨(formed_iff2 _ _).2 ⟨srt_put h1 name hfd _ rfl, fun y hy => ?_, h3, h4, by rw [put_length]; omega, by omega⟩, fun _ => htot, fun h => by omega, fun h => absurd k1 h⟩
      rcases mem_put hy with rfl | hy
      · exact ⟨hn, Int.le_refl _, by show (0 : Int) ≤ _; omega⟩
      · exact h2 y hy
  · rw [if_neg k1]
    have hfd := hfo k1
    have hi := found_lt hfd
    have hx := h2 _ (rdm l _ hi)
    by_cases k2 : kind = 2
    · rw [if_pos k2]
      have htot := tot_set l (idxS l name) hi ⟨(rd_T61 l (idxS l name : Int)).f0, (rd_T61 l (idxS l name : Int)).f1, ((rd_T61 l (idxS l name : Int)).f1.length : Int)⟩
      simp only [] at htot
      refine ⟨(formed_iff2 _ _).2 ⟨srt_set h1 _ hi _ rfl, fun y hy => ?_, h3, h4, by rw [List.length_set]; exact h5, by omega⟩, fun h => absurd h k1, fun _ => by omega, fun _ => ⟨by omega, by rw [List.length_set]; exact Nat.le_refl _⟩⟩
      rcases List.mem_or_eq_of_mem_set hy with hy | rfl
      · exact h2 y hy
      · exact ⟨hx.1, Int.natCast_nonneg _, Int.le_refl _⟩
    · rw [if_neg k2]
      have hse := srt_erase h1 (idxS l name)
      have hte := tot_erase l (idxS l name) hi
      have hle : (l.eraseIdx (idxS l name)).length = l.length - 1 := by rw [List.length_eraseIdx, if_pos hi]
      have hme : ∀ y ∈ l.eraseIdx (idxS l name), okx y := fun y hy => h2 y (List.mem_of_mem_eraseIdx hy)
      by_cases k4 : kind = 4
      · rw [if_pos k4]
        exact ⟨(formed_iff2 _ _).2 ⟨hse, hme, h3, h4, by omega, by omega⟩, fun h => absurd h k1, fun h => absurd h k2, fun _ => ⟨by omega, by omega⟩⟩
      · rw [if_neg k4]
        have k3 : kind = 3 := by omega
        have hnt := ht k3
        generalize l.eraseIdx (idxS l name) = E at hse hte hle hme ⊢
        cases hf2 : foundS E nto with
        | true =>
          rw [if_pos rfl]
          have hk2 := found_lt hf2
          have hb := tot_at E (idxS E nto) hk2
          have htot := tot_set E (idxS E nto) hk2 ⟨nto, (rd_T61 l (idxS l name : Int)).f1, (rd_T61 l (idxS l name : Int)).f2⟩
          simp only [] at htot
          refine ⟨(formed_iff2 _ _).2 ⟨srt_set hse _ hk2 _ (found_name hf2).symm, fun y hy => ?_, h3, h4, by rw [List.length_set]; omega, by omega⟩, fun h => absurd h k1, fun h => absurd h k2, fun _ => ⟨by omega, by rw [List.length_set]; omega⟩⟩
          rcases List.mem_or_eq_of_mem_set hy with hy | rfl
          · exact hme y hy
          · exact ⟨hnt, hx.2⟩
        | false =>
          rw [if_neg (by decide)]
          have htot := tot_put E (idxS E nto) ⟨nto, (rd_T61 l (idxS l name : Int)).f1, (rd_T61 l (idxS l name : Int)).f2⟩
          simp only [] at htot
          refine ⟨(formed_iff2 _ _).2 ⟨srt_put hse nto hf2 _ rfl, fun y hy => ?_, h3, h4, by rw [put_length]; omega, by omega⟩, fun h => absurd h k1, fun h => absurd h k2, fun _ => ⟨by omega, by rw [put_length]; omega⟩⟩
          rcases mem_put hy with rfl | hy
          · exact ⟨hnt, hx.2⟩
          · exact hme y hy
/-! The plain law of StoreCounts. -/
theorem used_some {room : Int} {l : List S61} (h : Reach l) (hf : FormedR room l) : store_Used.f (3 * l.length + 3) room l = some (totS l) := by
  unfold store_Used.f
  rw [formed_plain room l h.small.small, decide_eq_true hf, Option.bind_some, if_pos rfl]
  have h1 := used_plain room l h.small.small ⟨hf.2.1, hf.2.2.1⟩
  rw [if_pos hf.2.2.2.2] at h1
  rw [at_rounds (fun k => store_used.mono _ _ k) (show l.length + 1 ≤ 3 * l.length + 3 by omega) h1, Option.bind_some]
theorem used_le {room : Int} {l : List S61} (h : Reach l) : ∃ v, store_Used.f (3 * l.length + 3) room l = some v ∧ v ≤ totS l := by
  by_cases hf : FormedR room l
  · exact ⟨_, used_some h hf, Int.le_refl _⟩
  · refine ⟨0, ?_, tot_nonneg l⟩
    unfold store_Used.f
    rw [formed_plain room l h.small.small, decide_eq_false hf, Option.bind_some, if_neg (by decide)]
theorem tot_map_le (keeps : List S59) (l : List S61) : totS (l.map (crashF keeps)) ≤ totS l := by
  induction l with
  | nil => exact Int.le_refl _
  | cons x r ih =>
    rw [List.map_cons, tot_cons, tot_cons]
    have : (crashF keeps x).f1.length ≤ x.f1.length := by
      unfold crashF
      show (x.f1.take _).length ≤ _
      rw [List.length_take]
      exact Nat.min_le_right _ _
    omega
theorem reach_of {room : Int} {l : List S61} (h : FormedR room l) : Reach l := by
  refine ⟨by have := h.2.2.2.1; omega, fun x hx => ?_⟩
  obtain ⟨i, hi, rfl⟩ := List.mem_iff_getElem.1 hx
  have h1 := tot_at l i hi
  rw [rd_get l i hi] at h1
  have := h.2.2.1
  have := h.2.2.2.2
  omega
theorem reach_map {keeps : List S59} {l : List S61} (h : Reach l) : Reach (l.map (crashF keeps)) := by
  refine ⟨by rw [List.length_map]; exact h.1, fun x hx => ?_⟩
  obtain ⟨y, hy, rfl⟩ := List.mem_map.1 hx
  have h1 := h.2 y hy
  unfold crashF
  show (y.f1.take _).length ≤ _
  rw [List.length_take]
  omega
theorem law (a0_0 : Int) (l0_1 : List S61) (a1_0 : Int) (a1_1 a1_2 : ByteArray) (l1_3 : List Int) (l2 : List S59) (hr : Reach l0_1) (hb : l1_3.length ≤ 140737488351232) (hk : KeepsOK l2) : ∃ k, dragnetlaw16_StoreCounts.f k a0_0 l0_1 a1_0 a1_1 a1_2 l1_3 l2 = some true := by
  have hcr : store_Crash.f a0_0 l0_1 l2 = some (if FormedR a0_0 l0_1 then (a0_0, l0_1.map (crashF l2), 0) else (0, [], 1)) := by unfold store_Crash.f; rw [if_pos ⟨hr.small, hk⟩]
  have hdo : store_Do.f a0_0 l0_1 a1_0 a1_1 a1_2 l1_3 = some (doR a0_0 l0_1 a1_0 a1_1 a1_2 l1_3) := by unfold store_Do.f; rw [if_pos ⟨hr.small, hb⟩]
  by_cases hf : FormedR a0_0 l0_1
  case neg =>
    refine ⟨0, ?_⟩
    unfold dragnetlaw16_StoreCounts.f dragnetlaw16_alive.f
    rw [Option.bind_some, if_pos rfl, hdo, Option.bind_some, hcr, Option.bind_some, if_neg hf]
    have hd : doR a0_0 l0_1 a1_0 a1_1 a1_2 l1_3 = (0, [], 1) := by unfold doR; rw [if_pos (.inl hf)]
    rw [hd]
    simp only []
    rw [if_neg (by decide), if_pos trivial]
    unfold dragnetref16_Formed.f
    rw [if_pos (by have := hr.1; omega), decide_eq_false hf, Option.bind_some]
    rfl
  obtain ⟨K, hK⟩ : ∃ K, K = 3 * 300 + 3 := ⟨_, rfl⟩
  have hlen := hf.2.2.2.1
  have hu : store_Used.f K a0_0 l0_1 = some (totS l0_1) := at_rounds (fun k => store_Used.mono _ _ k) (by omega) (used_some hr hf)
  obtain ⟨v, hv, hvl⟩ := used_le (room := a0_0) (reach_map (keeps := l2) hr)
  have hv' : store_Used.f K a0_0 (l0_1.map (crashF l2)) = some v := at_rounds (fun k => store_Used.mono _ _ k) (by rw [List.length_map]; omega) hv
  have hvt := tot_map_le l2 l0_1
  refine ⟨K + 1, ?_⟩
  have hu1 : store_Used.f (K + 1) a0_0 l0_1 = some (totS l0_1) := at_rounds (fun k => store_Used.mono _ _ k) (Nat.le_succ K) hu
  have hv1 : store_Used.f (K + 1) a0_0 (l0_1.map (crashF l2)) = some v := at_rounds (fun k => store_Used.mono _ _ k) (Nat.le_succ K) hv'
  unfold dragnetlaw16_StoreCounts.f dragnetlaw16_alive.f
  rw [Option.bind_some, if_pos rfl, hdo, Option.bind_some, hcr, Option.bind_some, if_pos hf]
  simp only []
  rw [if_pos trivial, hv1, Option.bind_some, hu1, Option.bind_some, if_neg (by omega), dragnetlaw16_StoreCounts.j0, List.length_map, bne_self_eq_false, if_neg (by decide)]
  -- refused
  have bad : ∀ n : Int, n ≠ 0 → doR a0_0 l0_1 a1_0 a1_1 a1_2 l1_3 = (0, [], n) → (if (doR a0_0 l0_1 a1_0 a1_1 a1_2 l1_3).2.2 = 0 then (if a1_0 = 1 then ((store_Used.f K (doR a0_0 l0_1 a1_0 a1_1 a1_2 l1_3).1 (doR a0_0 l0_1 a1_0 a1_1 a1_2 l1_3).2.1).bind fun t142 => ((store_Used.f K a0_0 l0_1).bind fun t143 => (some ((wrap64 (t142 - t143)) == (l1_3.length : Int))))) else (if a1_0 = 2 then ((store_Used.f K (doR a0_0 l0_1 a1_0 a1_1 a1_2 l1_3).1 (doR a0_0 l0_1 a1_0 a1_1 a1_2 l1_3).2.1).bind fun t144 => ((store_Used.f K a0_0 l0_1).bind fun t145 => (some (t144 == t145)))) else ((store_Used.f K (doR a0_0 l0_1 a1_0 a1_1 a1_2 l1_3).1 (doR a0_0 l0_1 a1_0 a1_1 a1_2 l1_3).2.1).bind fun t146 => ((store_Used.f K a0_0 l0_1).bind fun t147 => (if t146 ≤ t147 then (some (decide (((doR a0_0 l0_1 a1_0 a1_1 a1_2 l1_3).2.1.length : Int) ≤ (l0_1.length : Int)))) else (some false)))))) else (some (((doR a0_0 l0_1 a1_0 a1_1 a1_2 l1_3).2.1.length : Int) == 0))) = some true := by
    intro n hn hd
    rw [hd]
    simp only []
    rw [if_neg hn]
    rfl
  by_cases g1 : ¬ FormedR a0_0 l0_1 ∨ ¬ nmd a1_1 ∨ a1_0 < 1 ∨ 4 < a1_0
  · exact bad 1 (by decide) (by unfold doR; rw [if_pos g1])
  by_cases g2 : a1_0 = 3 ∧ ¬ nmd a1_2
  · exact bad 1 (by decide) (by unfold doR; rw [if_neg g1, if_pos g2])
  by_cases g3 : foundS l0_1 a1_1 = false ∧ a1_0 ≠ 1
  · exact bad 8 (by decide) (by unfold doR; rw [if_neg g1, if_neg g2, if_pos g3])
  by_cases g4 : a1_0 = 1 ∧ foundS l0_1 a1_1 = false ∧ l0_1.length = 256
  · exact bad 6 (by decide) (by unfold doR; rw [if_neg g1, if_neg g2, if_neg g3, if_pos g4])
  by_cases g5 : a1_0 = 1 ∧ totS l0_1 + (l1_3.length : Int) > a0_0
  · exact bad 11 (by decide) (by unfold doR; rw [if_neg g1, if_neg g2, if_neg g3, if_neg g4, if_pos g5])
  have hd : doR a0_0 l0_1 a1_0 a1_1 a1_2 l1_3 = (a0_0, doL l0_1 a1_0 a1_1 a1_2 l1_3, 0) := by unfold doR; rw [if_neg g1, if_neg g2, if_neg g3, if_neg g4, if_neg g5]
  rw [hd]
  simp only []
  have hn : nmd a1_1 := Decidable.byContradiction fun h => g1 (.inr (.inl h))
  obtain ⟨q1, q2, q3, q4⟩ := doL_formed (nto := a1_2) (bytes := l1_3) hf hn ⟨by omega, by omega⟩ (fun h => Decidable.byContradiction fun h2 => g2 ⟨h, h2⟩) (fun h => by cases hfd : foundS l0_1 a1_1 with | true => rfl | false => exact absurd ⟨hfd, h⟩ g3) (fun h h2 h3 => g4 ⟨h, h2, h3⟩) (fun h => by have := fun h2 => g5 ⟨h, h2⟩; omega)
  have hq := used_some (reach_of q1) q1
  have hql := q1.2.2.2.1
  have hq' : store_Used.f K a0_0 (doL l0_1 a1_0 a1_1 a1_2 l1_3) = some (totS (doL l0_1 a1_0 a1_1 a1_2 l1_3)) := at_rounds (fun k => store_Used.mono _ _ k) (by omega) hq
  rw [if_pos trivial, hq', hu]
  simp only [Option.bind_some]
  have hrm := hf.2.2.1
  have hrt := hf.2.2.2.2
  have hrt2 := q1.2.2.2.2
  have ht0 := tot_nonneg l0_1
  have ht1 := tot_nonneg (doL l0_1 a1_0 a1_1 a1_2 l1_3)
  by_cases k1 : a1_0 = 1
  · rw [if_pos k1, wr64 (by omega), q2 k1]
    congr 1
    rw [beq_iff_eq]
    omega
  · rw [if_neg k1]
    by_cases k2 : a1_0 = 2
    · rw [if_pos k2, q3 k2, beq_self_eq_true]
    · rw [if_neg k2]
      obtain ⟨q5, q6⟩ := q4 k1
      rw [if_pos q5, decide_eq_true (by omega)]
def QO (x : Int) (y z : ByteArray) (b : List Int) : Prop := (Lit.int .i64 x).wf = true ∧ y.size ≤ 140737488351232 ∧ z.size ≤ 140737488351232 ∧ (b.length * Try.prog.bytesOf 5 ≤ 140737488351232 ∧ ∀ u ∈ b, (Lit.int .u8 u).wf = true)
theorem law_q (a0_0 : Int) (l0_1 : List S61) (a1_0 : Int) (a1_1 a1_2 : ByteArray) (l1_3 : List Int) (l2 : List S59) (hq0 : QD a0_0 l0_1) (hq1 : QO a1_0 a1_1 a1_2 l1_3) (hq2 : QK l2) : ∃ k, dragnetlaw16_StoreCounts.f k a0_0 l0_1 a1_0 a1_1 a1_2 l1_3 l2 = some true :=
  law a0_0 l0_1 a1_0 a1_1 a1_2 l1_3 l2 (reach_q hq0) (by have h := hq1.2.2.2.1; rw [bytes5] at h; omega) (keeps_q hq2)
end Go.Proofs.Ytopjdjljpkcdlaa.N
