/- Walks by hand. -/
import Derived.Test.YtopjdjljpkcdlaaTdDx0
import Derived.Test.YtopjdjljpkcdlaaTdDx3
import Derived.Test.YtopjdjljpkcdlaaTdDx5
import Derived.Test.YtopjdjljpkcdlaaTdDx6
import Derived.Test.YtopjdjljpkcdlaaTdDx7
import Derived.Test.YtopjdjljpkcdlaaTdDx8
import Derived.Test.YtopjdjljpkcdlaaTdDx11
import Derived.Test.YtopjdjljpkcdlaaTdDx12
import Derived.Test.YtopjdjljpkcdlaaTdDx13
namespace Go.Proofs.Ytopjdjljpkcdlaa.D
open Go.RowKit Go.Proofs.YtopjdjljpkcdlaaW.PrintWords Go.Proofs.YtopjdjljpkcdlaaW.PrintLast Go.Proofs.YtopjdjljpkcdlaaW.PrintMore
attribute [local go_sem] max2_int min2_int max_two min_two -- for this text's walks alone
set_option linter.unusedVariables false
set_option linter.unusedSimpArgs false
attribute [local go_sem] gtr_str geq_str
def okx (x : S61) : Prop := nmd x.f0 ∧ 0 ≤ x.f2 ∧ x.f2 ≤ x.f1.length
theorem formed_iff2 (room : Int) (l : List S61) : FormedR room l ↔ (Srt l ∧ (∀ x ∈ l, okx x) ∧ 0 ≤ room ∧ room ≤ 67108864 ∧ l.length ≤ 256 ∧ totS l ≤ room) := by
  constructor
  · intro h
    have h2 := (formed_iff room l).1 h
    refine ⟨formed_srt h, fun x hx => ?_, h2.2⟩
    obtain ⟨i, hi, rfl⟩ := List.mem_iff_getElem.1 hx
    have h3 := h2.1 i hi
    unfold okS at h3
    rw [rd_get l i hi] at h3
    exact ⟨h3.1, h3.2.1, h3.2.2.1⟩
  · rintro ⟨h1, h2, h3⟩
    refine (formed_iff room l).2 ⟨fun i hi => ?_, h3⟩
    have h4 := h2 _ (List.getElem_mem hi)
    unfold okS
    refine ⟨by rw [rd_get l i hi]; exact h4.1, by rw [rd_get l i hi]; exact h4.2.1, by rw [rd_get l i hi]; exact h4.2.2, fun h0 => ?_⟩
    have h5 := srt_get h1 (i := i - 1) (j := i) (by omega) hi
    rwa [show ((i - 1 : Nat) : Int) = (i : Int) - 1 by omega] at h5
theorem srt_names (l : List S61) : Srt l ↔ (l.map (·.f0)).Pairwise (fun a b => cmpS a b < 0) := by
  unfold Srt
  rw [List.pairwise_map]
theorem srt_set {l : List S61} (h : Srt l) (i : Nat) (hi : i < l.length) (x : S61) (hx : x.f0 = (rd_T61 l (i : Int)).f0) : Srt (l.set i x) := by
  rw [srt_names] at h ⊢
  rw [List.map_set, hx, rd_get l i hi, show l[i].f0 = (l.map (·.f0))[i]'(by rw [List.length_map]; exact hi) by rw [List.getElem_map], List.set_getElem_self]
  exact h
theorem srt_put {l : List S61} (hs : Srt l) (n : ByteArray) (hf : foundS l n = false) (x : S61) (hx : x.f0 = n) : Srt (putAt l (idxS l n) x) := by
  unfold Srt putAt
  rw [List.pairwise_append]
  refine ⟨List.Pairwise.sublist (List.take_sublist _ _) hs, ?_, ?_⟩
  · rw [List.pairwise_cons]
    refine ⟨fun b hb => ?_, List.Pairwise.sublist (List.drop_sublist _ _) hs⟩
    obtain ⟨j, h1, h2, rfl⟩ := mem_drop hb
    rw [hx]
    exact other_idx hs n hf h1 h2
  · intro a ha b hb
    obtain ⟨j, h1, h2, rfl⟩ := mem_take ha
    have h3 := below_idx n h1
    rcases List.mem_cons.1 hb with rfl | hb
    · rw [hx]
      exact h3
    · obtain ⟨q, h4, h5, rfl⟩ := mem_drop hb
      exact cmpS_trans h3 (other_idx hs n hf h4 h5)
theorem srt_erase {l : List S61} (hs : Srt l) (i : Nat) : Srt (l.eraseIdx i) := List.Pairwise.sublist (List.eraseIdx_sublist _ _) hs
theorem tot_put (l : List S61) (i : Nat) (x : S61) : totS (putAt l i x) = totS l + x.f1.length := by
  unfold putAt
  rw [tot_append, tot_cons]
  have := tot_append (l.take i) (l.drop i)
  rw [List.take_append_drop] at this
  omega
theorem tot_erase (l : List S61) (i : Nat) (h : i < l.length) : totS (l.eraseIdx i) = totS l - (rd_T61 l (i : Int)).f1.length := by
  rw [List.eraseIdx_eq_take_drop_succ, tot_append]
  have h1 := tot_append (l.take i) (l.drop i)
  rw [List.take_append_drop, List.drop_eq_getElem_cons h, tot_cons, ← rd_get l i h] at h1
  omega
theorem tot_set (l : List S61) (i : Nat) (h : i < l.length) (x : S61) : totS (l.set i x) = totS l - (rd_T61 l (i : Int)).f1.length + x.f1.length := by
  rw [List.set_eq_take_append_cons_drop, if_pos h, tot_append, tot_cons]
  have h1 := tot_append (l.take i) (l.drop i)
  rw [List.take_append_drop, List.drop_eq_getElem_cons h, tot_cons, ← rd_get l i h] at h1
  omega
theorem mem_put {l : List S61} {i : Nat} {x y : S61} (h : y ∈ putAt l i x) : y = x ∨ y ∈ l := by
  unfold putAt at h
  rcases List.mem_append.1 h with h | h
  · exact .inr (List.mem_of_mem_take h)
  · rcases List.mem_cons.1 h with h | h
    · exact .inl h
    · exact .inr (List.mem_of_mem_drop h)
theorem doL_formed {room : Int} {l : List S61} {kind : Int} {name nto : ByteArray} {bytes : List Int} (hf : FormedR room l) (hn : nmd name) (hk : 1 ≤ kind ∧ kind ≤ 4) (ht : kind = 3 → nmd nto) (hfo : kind ≠ 1 → foundS l name = true) (hl : kind = 1 → foundS l name = false → l.length ≠ 256) (hsp : kind = 1 → totS l + (bytes.length : Int) ≤ room) :
    FormedR room (doL l kind name nto bytes) ∧ (kind = 1 → totS (doL l kind name nto bytes) = totS l + bytes.length) ∧ (kind = 2 → totS (doL l kind name nto bytes) = totS l) ∧ (kind ≠ 1 → totS (doL l kind name nto bytes) ≤ totS l ∧ (doL l kind name nto bytes).length ≤ l.length) := by
  obtain ⟨h1, h2, h3, h4, h5, h6⟩ := (formed_iff2 room l).1 hf
  unfold doL
  simp only []
  by_cases k1 : kind = 1
  · rw [if_pos k1]
    have hs := hsp k1
    cases hfd : foundS l name with
    | true =>
      rw [if_pos rfl]
      have hi := found_lt hfd
      have hx := h2 _ (rdm l _ hi)
      have htot := tot_set l (idxS l name) hi ⟨(rd_T61 l (idxS l name : Int)).f0, (rd_T61 l (idxS l name : Int)).f1 ++ bytes, (rd_T61 l (idxS l name : Int)).f2⟩
      simp only [List.length_append] at htot
      refine ⟨(formed_iff2 _ _).2 ⟨srt_set h1 _ hi _ rfl, fun y hy => ?_, h3, h4, by rw [List.length_set]; exact h5, by omega⟩, fun _ => by omega, fun h => by omega, fun h => absurd k1 h⟩
      rcases List.mem_or_eq_of_mem_set hy with hy | rfl
      · exact h2 y hy
      · exact ⟨hx.1, hx.2.1, by show (rd_T61 l (idxS l name : Int)).f2 ≤ (((rd_T61 l (idxS l name : Int)).f1 ++ bytes).length : Int); rw [List.length_append]; have := hx.2.2; omega⟩
    | false =>
      rw [if_neg (by decide)]
      have htot := tot_put l (idxS l name) ⟨name, bytes, 0⟩
      simp only [] at htot
      have hne := hl k1 hfd
      refine ⟨(formed_iff2 _ _).2 ⟨srt_put h1 name hfd _ rfl, fun y hy => ?_, h3, h4, by rw [put_length]; omega, by omega⟩, fun _ => htot, fun h => by omega, fun h => absurd k1 h⟩
      rcases mem_put hy with rfl | hy
      · exact ⟨hn, Int.le_refl _, by show (0 : Int) ≤ _; omega⟩
      · exact h2 y hy
  · rw [if_neg k1]
    have hfd := hfo k1
    have hi := found_lt hfd
    have hx := h2 _ (rdm l _ hi)
    by_cases k2 : kind = 2
    · rw [if_pos k2]
      have htot := tot_set l (idxS l name) hi ⟨(rd_T61 l (idxS l name : Int)).f0, (rd_T61 l (idxS l name : Int)).f1, ((rd_T61 l (idxS l name : Int)).f1.length : Int)⟩
      simp only [] at htot
      refine ⟨(formed_iff2 _ _).2 ⟨srt_set h1 _ hi _ rfl, fun y hy => ?_, h3, h4, by rw [List.length_set]; exact h5, by omega⟩, fun h => absurd h k1, fun _ => by omega, fun _ => ⟨by omega, by rw [List.length_set]; exact Nat.le_refl _⟩⟩
      rcases List.mem_or_eq_of_mem_set hy with hy | rfl
      · exact h2 y hy
      · exact ⟨hx.1, Int.natCast_nonneg _, Int.le_refl _⟩
    · rw [if_neg k2]
      have hse := srt_erase h1 (idxS l name)
      have hte := tot_erase l (idxS l name) hi
      have hle : (l.eraseIdx (idxS l name)).length = l.length - 1 := by rw [List.length_eraseIdx, if_pos hi]
      have hme : ∀ y ∈ l.eraseIdx (idxS l name), okx y := fun y hy => h2 y (List.mem_of_mem_eraseIdx hy)
      by_cases k4 : kind = 4
      · rw [if_pos k4]
        exact ⟨(formed_iff2 _ _).2 ⟨hse, hme, h3, h4, by omega, by omega⟩, fun h => absurd h k1, fun h => absurd h k2, fun _ => ⟨by omega, by omega⟩⟩
      · rw [if_neg k4]
        have k3 : kind = 3 := by omega
        have hnt := ht k3
        generalize l.eraseIdx (idxS l name) = E at hse hte hle hme ⊢
        cases hf2 : foundS E nto with
        | true =>
          rw [if_pos rfl]
          have hk2 := found_lt hf2
          have hb := tot_at E (idxS E nto) hk2
          have htot := tot_set E (idxS E nto) hk2 ⟨nto, (rd_T61 l (idxS l name : Int)).f1, (rd_T61 l (idxS l name : Int)).f2⟩
          simp only [] at htot
          refine ⟨(formed_iff2 _ _).2 ⟨srt_set hse _ hk2 _ (found_name hf2).symm, fun y hy => ?_, h3, h4, by rw [List.length_set]; omega, by omega⟩, fun h => absurd h k1, fun h => absurd h k2, fun _ => ⟨by omega, by rw [List.length_set]; omega⟩⟩
          rcases List.mem_or_eq_of_mem_set hy with hy | rfl
          · exact hme y hy
          · exact ⟨hnt, hx.2⟩
        | false =>
          rw [if_neg (by decide)]
          have htot := tot_put E (idxS E nto) ⟨nto, (rd_T61 l (idxS l name : Int)).f1, (rd_T61 l (idxS l name : Int)).f2⟩
          simp only [] at htot
          refine ⟨(formed_iff2 _ _).2 ⟨srt_put hse nto hf2 _ rfl, fun y hy => ?_, h3, h4, by rw [put_length]; omega, by omega⟩, fun h => absurd h k1, fun h => absurd h k2, fun _ => ⟨by omega, by rw [put_length]; omega⟩⟩
          rcases mem_put hy with rfl | hy
          · exact ⟨hnt, hx.2⟩
          · exact hme y hy
theorem same1 (l : List Int) : dragnetref01_Same.f l l = some true := by
  unfold dragnetref01_Same.f
  rw [beq_self_eq_true]
theorem same_l0 (room : Int) (l : List S61) (hl : l.length < 2932031007402) : ∀ m i : Nat, l.length - i = m → i ≤ l.length → dragnetref16_Same.l0 (2 * m + 1) (i : Int) room l room l = some true
  | 0, i, hm, hi => by
    obtain rfl : i = l.length := by omega
    rw [dragnetref16_Same.l0, if_neg (Int.lt_irrefl _)]
  | m + 1, i, hm, hi => by
    have hlt : i < l.length := by omega
    rw [show 2 * (m + 1) + 1 = (2 * m + 1) + 1 + 1 by omega, dragnetref16_Same.l0, if_pos (by omega), if_pos (by omega), if_pos (by omega), if_pos rfl, if_pos rfl, same1, Option.bind_some, dragnetref16_Same.j2, if_neg (by decide), wr64 (by omega), show (i : Int) + 1 = ((i + 1 : Nat) : Int) by omega]
    exact same_l0 room l hl m (i + 1) (by omega) hlt
theorem same_plain (room : Int) (l : List S61) (hl : l.length < 2932031007402) : dragnetref16_Same.f (2 * l.length + 2) room l room l = some true := by
  unfold dragnetref16_Same.f
  rw [if_pos rfl, show 2 * l.length + 2 = (2 * l.length + 1) + 1 by omega, dragnetref16_Same.j0, bne_self_eq_false, if_neg (by decide)]
  exact same_l0 room l hl l.length 0 (by omega) (by omega)
theorem reach_of {room : Int} {l : List S61} (h : FormedR room l) : Reach l := by
  refine ⟨by have := h.2.2.2.1; omega, fun x hx => ?_⟩
  obtain ⟨i, hi, rfl⟩ := List.mem_iff_getElem.1 hx
  have h1 := tot_at l i hi
  rw [rd_get l i hi] at h1
  have := h.2.2.1
  have := h.2.2.2.2
  omega
theorem doR_ok {room : Int} {l : List S61} {kind : Int} {name nto : ByteArray} {b : List Int} {r e : Int} {l2 : List S61} (hd : doR room l kind name nto b = (r, l2, e)) : l2.length ≤ 256 ∧ (e = 0 → FormedR r l2) := by
  have bad : ∀ n : Int, n ≠ 0 → ((0 : Int), ([] : List S61), n) = (r, l2, e) → l2.length ≤ 256 ∧ (e = 0 → FormedR r l2) := by
    intro n hn h
    injection h with h1 h2
    injection h2 with h2 h3
    subst h2
    exact ⟨Nat.zero_le _, fun h0 => absurd (h3.trans h0) hn⟩
  unfold doR at hd
  by_cases g1 : ¬ FormedR room l ∨ ¬ nmd name ∨ kind < 1 ∨ 4 < kind
  · exact bad 1 (by decide) (by rw [if_pos g1] at hd; exact hd)
  by_cases g2 : kind = 3 ∧ ¬ nmd nto
  · exact bad 1 (by decide) (by rw [if_neg g1, if_pos g2] at hd; exact hd)
  by_cases g3 : foundS l name = false ∧ kind ≠ 1
  · exact bad 8 (by decide) (by rw [if_neg g1, if_neg g2, if_pos g3] at hd; exact hd)
  by_cases g4 : kind = 1 ∧ foundS l name = false ∧ l.length = 256
  · exact bad 6 (by decide) (by rw [if_neg g1, if_neg g2, if_neg g3, if_pos g4] at hd; exact hd)
  by_cases g5 : kind = 1 ∧ totS l + (b.length : Int) > room
  · exact bad 11 (by decide) (by rw [if_neg g1, if_neg g2, if_neg g3, if_neg g4, if_pos g5] at hd; exact hd)
  rw [if_neg g1, if_neg g2, if_neg g3, if_neg g4, if_neg g5] at hd
  injection hd with h1 h2
  injection h2 with h2 h3
  have hf : FormedR room l := Decidable.byContradiction fun h => g1 (.inl h)
  have hn : nmd name := Decidable.byContradiction fun h => g1 (.inr (.inl h))
  obtain ⟨q1, _⟩ := doL_formed (nto := nto) (bytes := b) hf hn ⟨by omega, by omega⟩ (fun h => Decidable.byContradiction fun h2 => g2 ⟨h, h2⟩) (fun h => by cases hfd : foundS l name with | true => rfl | false => exact absurd ⟨hfd, h⟩ g3) (fun h h2 h3 => g4 ⟨h, h2, h3⟩) (fun h => by have := fun h2 => g5 ⟨h, h2⟩; omega)
  rw [← h1, ← h2]
  exact ⟨q1.2.2.2.1, fun _ => q1⟩
end Go.Proofs.Ytopjdjljpkcdlaa.D
