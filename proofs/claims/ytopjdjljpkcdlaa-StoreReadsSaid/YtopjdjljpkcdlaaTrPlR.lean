/- The plain law behind the printed walk (namespace R): what the functions come to. -/
import Derived.Test.YtopjdjljpkcdlaaTrRx11
namespace Go.Proofs.Ytopjdjljpkcdlaa.R
open Go.RowKit Go.Proofs.YtopjdjljpkcdlaaW.PrintWords Go.Proofs.YtopjdjljpkcdlaaW.PrintLast Go.Proofs.YtopjdjljpkcdlaaW.PrintMore
open Go.Maps
set_option linter.unusedVariables false
set_option linter.unusedSimpArgs false
theorem rdm (l : List S61) (i : Nat) (h : i < l.length) : rd_T61 l (i : Int) ∈ l := by
  unfold rd_T61
  rw [Int.toNat_natCast, List.getD_eq_getElem?_getD, List.getElem?_eq_getElem h]
  exact List.getElem_mem h
theorem take_snoc (l : List S61) (i : Nat) (h : i < l.length) : l.take i ++ [rd_T61 l (i : Int)] = l.take (i + 1) := by
  unfold rd_T61
  rw [Int.toNat_natCast, List.getD_eq_getElem?_getD, List.getElem?_eq_getElem h, List.take_succ_eq_append_getElem h]
  rfl
def Reach (l : List S61) : Prop := l.length < 2932031007402 ∧ ∀ x ∈ l, x.f1.length ≤ 140737488351232
theorem Reach.small {l : List S61} (h : Reach l) : SmallD l := ⟨by have := h.1; omega, h.2⟩
theorem copy1 (l : List Int) (h : l.length ≤ 140737488351232) : dragnetref01_Copy.f l = some l := by
  unfold dragnetref01_Copy.f
  rw [Option.bind_some, if_pos (by simp; omega)]
  rfl
theorem copy_l0 (room : Int) (l : List S61) (hr : Reach l) : ∀ m i : Nat, l.length - i = m → i ≤ l.length → dragnetref16_Copy.l0 (m + 1) (i : Int) room l room (l.take i) = some (room, l)
  | 0, i, hm, hi => by
    obtain rfl : i = l.length := by omega
    rw [dragnetref16_Copy.l0, if_neg (Int.lt_irrefl _), List.take_length]
  | m + 1, i, hm, hi => by
    have hlt : i < l.length := by omega
    have h1 := hr.1
    rw [dragnetref16_Copy.l0, if_pos (by omega), if_pos (by omega), copy1 _ (hr.2 _ (rdm l i hlt)), Option.bind_some, if_pos (by rw [List.length_take]; omega), wr64 (by omega)]
    rw [show (⟨(rd_T61 l (i : Int)).f0, (rd_T61 l (i : Int)).f1, (rd_T61 l (i : Int)).f2⟩ : S61) = rd_T61 l (i : Int) from rfl, take_snoc l i hlt, show (i : Int) + 1 = ((i + 1 : Nat) : Int) by omega]
    exact copy_l0 room l hr m (i + 1) (by omega) hlt
theorem copy_plain (room : Int) (l : List S61) (hr : Reach l) : dragnetref16_Copy.f (l.length + 1) room l = some (room, l) := copy_l0 room l hr l.length 0 (by omega) (by omega)
theorem same1 (l : List Int) : dragnetref01_Same.f l l = some true := by
  unfold dragnetref01_Same.f
  rw [beq_self_eq_true]
theorem same_l0 (room : Int) (l : List S61) (hl : l.length < 2932031007402) : ∀ m i : Nat, l.length - i = m → i ≤ l.length → dragnetref16_Same.l0 (2 * m + 1) (i : Int) room l room l = some true
  | 0, i, hm, hi => by
    obtain rfl : i = l.length := by omega
    rw [dragnetref16_Same.l0, if_neg (Int.lt_irrefl _)]
  | m + 1, i, hm, hi => by
    have hlt : i < l.length := by omega
    rw [show 2 * (m + 1) + 1 = (2 * m + 1) + 1 + 1 by omega, dragnetref16_Same.l0, if_pos (by omega), if_pos (by omega), if_pos (by omega), if_pos rfl, if_pos rfl, same1, Option.bind_some, dragnetref16_Same.j2, if_neg (by decide), wr64 (by omega), show (i : Int) + 1 = ((i + 1 : Nat) : Int) by omega]
    exact same_l0 room l hl m (i + 1) (by omega) hlt
theorem same_plain (room : Int) (l : List S61) (hl : l.length < 2932031007402) : dragnetref16_Same.f (2 * l.length + 2) room l room l = some true := by
  unfold dragnetref16_Same.f
  rw [if_pos rfl, show 2 * l.length + 2 = (2 * l.length + 1) + 1 by omega, dragnetref16_Same.j0, bne_self_eq_false, if_neg (by decide)]
  exact same_l0 room l hl l.length 0 (by omega) (by omega)
theorem toList_inj {a b : ByteArray} (h : a.toList = b.toList) : a = b := by
  rw [Lib.toList_data, Lib.toList_data] at h
  cases a
  cases b
  congr 1
  exact Array.toList_inj.1 h
theorem rd_get (l : List S61) (i : Nat) (h : i < l.length) : rd_T61 l (i : Int) = l[i] := by
  unfold rd_T61
  rw [Int.toNat_natCast, List.getD_eq_getElem?_getD, List.getElem?_eq_getElem h]
  rfl
theorem srt_get {l : List S61} (h : Srt l) {i j : Nat} (hij : i < j) (hj : j < l.length) : cmpS (rd_T61 l (i : Int)).f0 (rd_T61 l (j : Int)).f0 < 0 := by
  rw [rd_get l i (by omega), rd_get l j hj]
  exact List.pairwise_iff_getElem.1 h i j (by omega) hj hij
theorem cmp_self : ∀ a : List UInt8, Lib.compareBytes a a = 0
  | [] => rfl
  | x :: a => by
    unfold Lib.compareBytes
    have h : ¬ x < x := fun hh => by have := UInt8.lt_iff_toNat_lt.1 hh; omega
    rw [if_neg h, if_neg h]
    exact cmp_self a
theorem cmp_zero : ∀ a b : List UInt8, Lib.compareBytes a b = 0 → a = b
  | [], [], _ => rfl
  | [], _ :: _, h => by simp [Lib.compareBytes] at h
  | _ :: _, [], h => by simp [Lib.compareBytes] at h
  | x :: a, y :: b, h => by
    unfold Lib.compareBytes at h
    by_cases h1 : x < y
    · rw [if_pos h1] at h
      simp at h
    · rw [if_neg h1] at h
      by_cases h2 : y < x
      · rw [if_pos h2] at h
        simp at h
      · rw [if_neg h2] at h
        have t : ∀ p q : UInt8, p < q ↔ p.toNat < q.toNat := fun p q => UInt8.lt_iff_toNat_lt
        have h4 : ¬ x.toNat < y.toNat := fun hh => h1 ((t _ _).2 hh)
        have h5 : ¬ y.toNat < x.toNat := fun hh => h2 ((t _ _).2 hh)
        have h3 : x = y := UInt8.toNat_inj.1 (by omega)
        rw [h3, cmp_zero a b h]
theorem cmpS_eq {a b : ByteArray} (h : cmpS a b = 0) : a = b := by
  have := cmp_zero _ _ h
  cases a
  cases b
  congr 1
  exact Array.toList_inj.1 this
theorem above_idx {l : List S61} (hs : Srt l) (n : ByteArray) {j : Nat} (hj : idxS l n ≤ j) (hl : j < l.length) : ¬ cmpS (rd_T61 l (j : Int)).f0 n < 0 := fun h => by
  have := idx_low hs n hl h
  omega
theorem found_name {l : List S61} {n : ByteArray} (h : foundS l n = true) : (rd_T61 l (idxS l n : Int)).f0 = n := by
  unfold foundS at h
  rw [Bool.and_eq_true] at h
  exact cmpS_eq (by simpa using h.2)
theorem used_some {room : Int} {l : List S61} (h : Reach l) (hf : FormedR room l) : store_Used.f (3 * l.length + 3) room l = some (totS l) := by
  unfold store_Used.f
  rw [formed_plain room l h.small.small, decide_eq_true hf, Option.bind_some, if_pos rfl]
  have h1 := used_plain room l h.small.small ⟨hf.2.1, hf.2.2.1⟩
  rw [if_pos hf.2.2.2.2] at h1
  rw [at_rounds (fun k => store_used.mono _ _ k) (show l.length + 1 ≤ 3 * l.length + 3 by omega) h1, Option.bind_some]
theorem place_l0 (room : Int) (l : List S61) (n : ByteArray) (hs : Srt l) (hl : l.length < 2932031007402) : ∀ m i : Nat, l.length - i = m → i ≤ l.length → (∀ j : Nat, j < i → (rd_T61 l (j : Int)).f0 ≠ n) → dragnetref16_place.l0 (m + 1) n (i : Int) room l = some (if foundS l n = true then (idxS l n : Int) else -1)
  | 0, i, hm, hi, hj => by
    obtain rfl : i = l.length := by omega
    rw [dragnetref16_place.l0, if_neg (Int.lt_irrefl _)]
    cases hf : foundS l n with
    | false => rfl
    | true => exact absurd (found_name hf) (hj _ (found_lt hf))
  | m + 1, i, hm, hi, hj => by
    have hlt : i < l.length := by omega
    rw [dragnetref16_place.l0, if_pos (by omega), if_pos (by omega)]
    by_cases he : (rd_T61 l (i : Int)).f0 = n
    · rw [if_pos (by rw [he])]
      have h0 : ¬ cmpS (rd_T61 l (i : Int)).f0 n < 0 := by rw [he]; unfold cmpS; rw [cmp_self]; decide
      have h1 := idx_high l n hlt h0
      have h2 : idxS l n = i := by
        rcases Nat.lt_or_eq_of_le h1 with h | h
        · have h3 := srt_get hs h hlt
          rw [he] at h3
          exact absurd h3 (above_idx hs n (Nat.le_refl _) (by omega))
        · exact h
      have h3 : foundS l n = true := by
        unfold foundS
        rw [h2, he, decide_eq_true hlt]
        unfold cmpS
        rw [cmp_self]
        rfl
      rw [h3, if_pos rfl, h2]
    · rw [if_neg (fun h => he (toList_inj h)), wr64 (by omega), show (i : Int) + 1 = ((i + 1 : Nat) : Int) by omega]
      exact place_l0 room l n hs hl m (i + 1) (by omega) hlt fun j hj2 => by
        rcases Nat.lt_or_eq_of_le (Nat.le_of_lt_succ hj2) with h | h
        · exact hj j h
        · rw [h]; exact he
def RR (room : Int) (l : List S61) (n : ByteArray) : List Int × Int := if FormedR room l ∧ nmd n then (if foundS l n = true then ((rd_T61 l (idxS l n : Int)).f1, 0) else ([], 8)) else ([], 1)
theorem rnamed (n : ByteArray) : dragnetref16_named.f n = some (decide (nmd n)) := by
  unfold dragnetref16_named.f
  by_cases h : 1 ≤ n.size
  · rw [if_pos (by omega)]
    congr 1
    exact decide_eq_decide.2 ⟨fun h2 => ⟨h, by omega⟩, fun h2 => by have := h2.2; omega⟩
  · rw [if_neg (by omega), decide_eq_false (fun h2 : nmd n => h h2.1)]
theorem ref_read (room : Int) (l : List S61) (n : ByteArray) (hr : Reach l) : dragnetref16_Read.f (l.length + 2) room l n = some (RR room l n) := by
  have h1 := hr.1
  unfold dragnetref16_Read.f dragnetref16_Formed.f RR
  rw [if_pos (by omega), Option.bind_some]
  by_cases hf : FormedR room l
  · rw [decide_eq_true hf, if_pos rfl, rnamed, Option.bind_some]
    by_cases hn : nmd n
    · rw [decide_eq_true hn, if_pos ⟨hf, hn⟩, show l.length + 2 = (l.length + 1) + 1 by omega, dragnetref16_Read.j0, if_neg (by decide)]
      unfold dragnetref16_place.f
      have hp := place_l0 room l n (formed_srt hf) h1 l.length 0 (by omega) (by omega) (fun j hj => absurd hj (Nat.not_lt_zero _))
      rw [show ((0 : Nat) : Int) = 0 from rfl] at hp
      rw [hp, Option.bind_some]
      cases hfd : foundS l n with
      | false => rw [if_neg Bool.false_ne_true, if_pos (by decide), if_neg Bool.false_ne_true]
      | true =>
        have hi := found_lt hfd
        rw [if_pos rfl, if_neg (by omega), if_pos (by omega), if_pos (by omega), copy1 _ (hr.2 _ (rdm l _ hi)), Option.bind_some, if_pos rfl]
    · rw [decide_eq_false hn, if_neg (fun h => hn h.2), show l.length + 2 = (l.length + 1) + 1 by omega, dragnetref16_Read.j0, if_pos (by decide)]
  · rw [decide_eq_false hf, if_neg (by decide), if_neg (fun h => hf h.1), show l.length + 2 = (l.length + 1) + 1 by omega, dragnetref16_Read.j0, if_pos rfl]
theorem own_read (room : Int) (l : List S61) (n : ByteArray) (hr : Reach l) : store_Read.f (3 * l.length + 3) room l n = some (RR room l n) := by
  have h1 := hr.1
  unfold store_Read.f RR
  rw [formed_plain room l hr.small.small, Option.bind_some]
  by_cases hf : FormedR room l
  · rw [decide_eq_true hf, if_pos rfl, named_nmd, Option.bind_some]
    by_cases hn : nmd n
    · rw [decide_eq_true hn, if_pos ⟨hf, hn⟩, show 3 * l.length + 3 = (3 * l.length + 2) + 1 by omega, store_Read.j0, if_neg (by decide)]
      unfold store_find.f
      rw [if_pos ⟨by omega, formed_srt hf⟩, Option.bind_some]
      simp only []
      cases hfd : foundS l n with
      | false => rw [if_neg (by decide), if_neg (by decide)]
      | true =>
        have hi := found_lt hfd
        have hb := hr.2 _ (rdm l _ hi)
        unfold slices_Clone_byte_byte.f
        rw [if_pos rfl, if_pos (by omega), if_pos (by omega), if_pos (by omega), Option.bind_some, if_pos rfl]
    · rw [decide_eq_false hn, if_neg (fun h => hn h.2), show 3 * l.length + 3 = (3 * l.length + 2) + 1 by omega, store_Read.j0, if_pos (by decide)]
  · rw [decide_eq_false hf, if_neg (by decide), if_neg (fun h => hf h.1), show 3 * l.length + 3 = (3 * l.length + 2) + 1 by omega, store_Read.j0, if_pos rfl]
theorem own_used (room : Int) (l : List S61) (hr : Reach l) : store_Used.f (3 * l.length + 3) room l = some (if FormedR room l then totS l else 0) := by
  by_cases hf : FormedR room l
  · rw [used_some hr hf, if_pos hf]
  · unfold store_Used.f
    rw [formed_plain room l hr.small.small, decide_eq_false hf, Option.bind_some, if_neg (by decide), if_neg hf]
theorem ref_used_l0 (room : Int) (l : List S61) (hl : l.length < 2932031007402) (ht : totS l ≤ 67108864) : ∀ m i : Nat, l.length - i = m → i ≤ l.length → dragnetref16_Used.l0 (m + 1) (totS (l.take i)) (i : Int) room l = some (totS l)
  | 0, i, hm, hi => by
    obtain rfl : i = l.length := by omega
    rw [dragnetref16_Used.l0, if_neg (Int.lt_irrefl _), List.take_length]
  | m + 1, i, hm, hi => by
    have hlt : i < l.length := by omega
    have h1 := tot_snoc l i hlt
    have h2 := tot_take_le l (i + 1)
    have h3 := tot_nonneg (l.take i)
    rw [dragnetref16_Used.l0, if_pos (by omega), if_pos (by omega), ← h1, wr64 (by have := tot_nonneg (l.take (i + 1)); omega), wr64 (by omega), show (i : Int) + 1 = ((i + 1 : Nat) : Int) by omega]
    exact ref_used_l0 room l hl ht m (i + 1) (by omega) hlt
theorem ref_used (room : Int) (l : List S61) (hr : Reach l) : dragnetref16_Used.f (l.length + 1) room l = some (if FormedR room l then totS l else 0) := by
  have h1 := hr.1
  unfold dragnetref16_Used.f dragnetref16_Formed.f
  rw [if_pos (by omega), Option.bind_some]
  by_cases hf : FormedR room l
  · rw [decide_eq_true hf, if_pos rfl, if_pos hf]
    exact ref_used_l0 room l h1 (by have := hf.2.2.1; have := hf.2.2.2.2; omega) l.length 0 (by omega) (by omega)
  · rw [decide_eq_false hf, if_neg (by decide), if_neg hf]
def nmL (l : List S61) : List ByteArray := l.map (·.f0)
theorem nm_len (l : List S61) : (nmL l).length = l.length := List.length_map _
theorem nm_snoc (l : List S61) (i : Nat) (h : i < l.length) : (nmL l).take i ++ [(rd_T61 l (i : Int)).f0] = (nmL l).take (i + 1) := by
  have h1 : i < (nmL l).length := by rw [nm_len]; exact h
  rw [List.take_succ_eq_append_getElem h1, rd_get l i h]
  show _ = _ ++ [(l.map (·.f0))[i]'(by rw [List.length_map]; exact h)]
  rw [List.getElem_map]
theorem ref_names_l0 (room : Int) (l : List S61) (hl : l.length < 2932031007402) : ∀ m i : Nat, l.length - i = m → i ≤ l.length → dragnetref16_Names.l0 (m + 1) ((nmL l).take i) (i : Int) room l = some (nmL l)
  | 0, i, hm, hi => by
    obtain rfl : i = l.length := by omega
    rw [dragnetref16_Names.l0, if_neg (Int.lt_irrefl _), ← nm_len l, List.take_length]
  | m + 1, i, hm, hi => by
    have hlt : i < l.length := by omega
    rw [dragnetref16_Names.l0, if_pos (by omega), if_pos (by omega), if_pos (by rw [List.length_take]; omega), nm_snoc l i hlt, wr64 (by omega), show (i : Int) + 1 = ((i + 1 : Nat) : Int) by omega]
    exact ref_names_l0 room l hl m (i + 1) (by omega) hlt
theorem ref_names (room : Int) (l : List S61) (hr : Reach l) : dragnetref16_Names.f (l.length + 1) room l = some (if FormedR room l then nmL l else []) := by
  have h1 := hr.1
  unfold dragnetref16_Names.f dragnetref16_Formed.f
  rw [if_pos (by omega), Option.bind_some]
  by_cases hf : FormedR room l
  · rw [decide_eq_true hf, if_pos rfl, if_pos hf]
    exact ref_names_l0 room l h1 l.length 0 (by omega) (by omega)
  · rw [decide_eq_false hf, if_neg (by decide), if_neg hf]
theorem set_take {α : Type} (a : List α) (i : Nat) (x y : α) (r : List α) (h : a.length = i) : (a ++ y :: r).set i x = (a ++ [x]) ++ r := by
  subst h
  rw [List.set_append, if_neg (Nat.lt_irrefl _), Nat.sub_self, List.set_cons_zero, List.append_assoc, List.singleton_append]
theorem own_names_l0 (l : List S61) (hl : l.length < 2932031007402) : ∀ m i : Nat, l.length - i = m → i ≤ l.length → store_Names.l0 (m + 1) ((nmL l).take i ++ List.replicate m (⟨#[]⟩ : ByteArray)) l (l.length : Int) (i : Int) = some (nmL l)
  | 0, i, hm, hi => by
    obtain rfl : i = l.length := by omega
    rw [store_Names.l0, if_neg (Int.lt_irrefl _), ← nm_len l, List.take_length, List.replicate_zero, List.append_nil]
  | m + 1, i, hm, hi => by
    have hlt : i < l.length := by omega
    have hln := nm_len l
    have htk : ((nmL l).take i).length = i := by rw [List.length_take]; omega
    rw [store_Names.l0, if_pos (by omega), if_pos (by omega), if_pos (by omega), if_pos (by rw [List.length_append, htk, List.length_replicate]; omega), Int.toNat_natCast, List.replicate_succ, set_take _ _ _ _ _ htk, nm_snoc l i hlt, wr64 (by omega), show (i : Int) + 1 = ((i + 1 : Nat) : Int) by omega]
    exact own_names_l0 l hl m (i + 1) (by omega) hlt
theorem own_names (room : Int) (l : List S61) (hr : Reach l) : store_Names.f (3 * l.length + 3) room l = some (if FormedR room l then nmL l else []) := by
  have h1 := hr.1
  unfold store_Names.f
  rw [formed_plain room l hr.small.small, Option.bind_some]
  by_cases hf : FormedR room l
  · rw [decide_eq_true hf, if_pos rfl, if_pos hf, if_pos (by omega), if_pos (by rw [Int.toNat_natCast]; omega), Int.toNat_natCast]
    exact at_rounds (fun k => (store_Names.mono_l k) _ _ _ _) (by omega) (own_names_l0 l h1 l.length 0 (by omega) (by omega))
  · rw [decide_eq_false hf, if_neg (by decide), if_neg hf]
theorem strs_l0 (x : List ByteArray) (hl : x.length < 2932031007402) : ∀ m i : Nat, x.length - i = m → i ≤ x.length → dragnetref06_Same.l0 (m + 1) x x (i : Int) = some true
  | 0, i, hm, hi => by
    obtain rfl : i = x.length := by omega
    rw [dragnetref06_Same.l0, if_neg (Int.lt_irrefl _)]
  | m + 1, i, hm, hi => by
    have hlt : i < x.length := by omega
    rw [dragnetref06_Same.l0, if_pos (by omega), if_pos (by omega), if_pos (by omega), if_pos rfl, wr64 (by omega), show (i : Int) + 1 = ((i + 1 : Nat) : Int) by omega]
    exact strs_l0 x hl m (i + 1) (by omega) hlt
theorem strs_same (x : List ByteArray) (hl : x.length < 2932031007402) : dragnetref06_Same.f (x.length + 1) x x = some true := by
  unfold dragnetref06_Same.f
  rw [if_pos rfl]
  exact strs_l0 x hl x.length 0 (by omega) (by omega)
theorem end_plain (room : Int) (l : List S61) (hr : Reach l) (K : Nat) (hK : 3 * l.length + 4 ≤ K) (n : Nat) (hn : n ≤ 140737488351232) : ∀ m i : Nat, n - i = m → i ≤ n → ∀ b : List Int, b.length = n → dragnetlaw16_StoreReads.l0 (K + m + 1) b true (i : Int) room l room l = some true
  | 0, i, hm, hi, b, hb => by
    obtain rfl : i = n := by omega
    have h1 := hr.1
    rw [Nat.add_zero, dragnetlaw16_StoreReads.l0, if_neg (by omega), if_pos rfl,
      at_rounds (fun k => store_Formed.mono _ _ k) (show 3 * l.length + 3 ≤ K by omega) (formed_plain room l hr.small.small), Option.bind_some]
    unfold dragnetref16_Formed.f
    rw [if_pos (by omega), Option.bind_some, beq_self_eq_true, if_pos rfl,
      at_rounds (fun k => store_Used.mono _ _ k) (show 3 * l.length + 3 ≤ K by omega) (own_used room l hr), Option.bind_some,
      at_rounds (fun k => dragnetref16_Used.mono _ _ k) (show l.length + 1 ≤ K by omega) (ref_used room l hr), Option.bind_some, if_pos rfl,
      at_rounds (fun k => store_Names.mono _ _ k) (show 3 * l.length + 3 ≤ K by omega) (own_names room l hr), Option.bind_some,
      at_rounds (fun k => dragnetref16_Names.mono _ _ k) (show l.length + 1 ≤ K by omega) (ref_names room l hr), Option.bind_some]
    have h2 : (if FormedR room l then nmL l else []).length ≤ l.length := by
      split
      · rw [nm_len]; exact Nat.le_refl _
      · exact Nat.zero_le _
    rw [at_rounds (fun k => dragnetref06_Same.mono _ _ k) (show (if FormedR room l then nmL l else []).length + 1 ≤ K by omega) (strs_same _ (by omega)), Option.bind_some, if_pos rfl,
      at_rounds (fun k => dragnetref16_Same.mono _ _ _ _ k) (show 2 * l.length + 2 ≤ K by omega) (same_plain room l hr.1), Option.bind_some]
  | m + 1, i, hm, hi, b, hb => by
    rw [show K + (m + 1) + 1 = (K + m + 1) + 1 by omega, dragnetlaw16_StoreReads.l0, if_pos (by omega), if_pos (by omega), wr64 (by omega), show (i : Int) + 1 = ((i + 1 : Nat) : Int) by omega]
    exact end_plain room l hr K hK n hn m (i + 1) (by omega) (by omega) _ (by rw [List.length_set]; exact hb)
theorem rr_len {room : Int} {l : List S61} {n : ByteArray} (hr : Reach l) : (RR room l n).1.length ≤ 140737488351232 := by
  unfold RR
  split
  · cases hf : foundS l n with
    | true => exact hr.2 _ (rdm l _ (found_lt hf))
    | false => exact Nat.zero_le _
  · exact Nat.zero_le _
theorem new_same (a : Int) : dragnetref16_New.f a = store_New.f a := rfl
theorem new_len (a : Int) : ∃ r n, store_New.f a = some (r, [], n) := by
  unfold store_New.f
  split
  · exact ⟨_, _, rfl⟩
  · split <;> exact ⟨_, _, rfl⟩
theorem law (a0_0 : Int) (l0_1 : List S61) (a1 : ByteArray) (a2 : Int) (hr : Reach l0_1) : ∃ k, dragnetlaw16_StoreReads.f k a0_0 l0_1 a1 a2 = some true := by
  obtain ⟨K, hK⟩ : ∃ K, K = 3 * l0_1.length + 4 := ⟨_, rfl⟩
  have hlen := rr_len (room := a0_0) (n := a1) hr
  refine ⟨K + (RR a0_0 l0_1 a1).1.length + 2, ?_⟩
  generalize hN : K + (RR a0_0 l0_1 a1).1.length + 1 = N
  have hKN : K ≤ N + 1 := by omega
  rw [show K + (RR a0_0 l0_1 a1).1.length + 2 = N + 1 by omega]
  have hcopy : dragnetref16_Copy.f (N + 1) a0_0 l0_1 = some (a0_0, l0_1) := at_rounds (fun k => dragnetref16_Copy.mono _ _ k) (by omega) (copy_plain a0_0 l0_1 hr)
  have hown : store_Read.f (N + 1) a0_0 l0_1 a1 = some (RR a0_0 l0_1 a1) := at_rounds (fun k => store_Read.mono _ _ _ k) (by omega) (own_read a0_0 l0_1 a1 hr)
  have href : dragnetref16_Read.f (N + 1) a0_0 l0_1 a1 = some (RR a0_0 l0_1 a1) := at_rounds (fun k => dragnetref16_Read.mono _ _ _ k) (by omega) (ref_read a0_0 l0_1 a1 hr)
  obtain ⟨r, n, hnew⟩ := new_len a2
  unfold dragnetlaw16_StoreReads.f dragnetlaw16_alive.f
  rw [Option.bind_some, if_pos rfl, hcopy, Option.bind_some]
  simp only []
  rw [hown, Option.bind_some, href, Option.bind_some, new_same, hnew, Option.bind_some, Option.bind_some]
  simp only []
  rw [same1, Option.bind_some, if_pos rfl, if_pos trivial, at_rounds (fun k => dragnetref16_Same.mono _ _ _ _ k) (show 2 * ([] : List S61).length + 2 ≤ N + 1 by simp only [List.length_nil]; omega) (same_plain r [] (by decide)), Option.bind_some, if_pos rfl, beq_self_eq_true, dragnetlaw16_StoreReads.j0, ← hN]
  exact end_plain a0_0 l0_1 hr K (by omega) (RR a0_0 l0_1 a1).1.length hlen (RR a0_0 l0_1 a1).1.length 0 (by omega) (by omega) _ rfl
def QF (x : S61) : Prop := x.f0.size ≤ 140737488351232 ∧ (x.f1.length * Try.prog.bytesOf 5 ≤ 140737488351232 ∧ ∀ u ∈ x.f1, (Lit.int .u8 u).wf = true) ∧ (Lit.int .i64 x.f2).wf = true
def QD (room : Int) (l : List S61) : Prop := (Lit.int .i64 room).wf = true ∧ (l.length * Try.prog.bytesOf 61 ≤ 140737488351232 ∧ ∀ x ∈ l, QF x)
theorem bytes61 : Try.prog.bytesOf 61 = 48 := by kernel_rfl
theorem bytes5 : Try.prog.bytesOf 5 = 1 := by kernel_rfl
theorem reach_q {room : Int} {l : List S61} (h : QD room l) : Reach l := by
  obtain ⟨_, h1, h2⟩ := h
  rw [bytes61] at h1
  refine ⟨by omega, fun x hx => ?_⟩
  have h3 := (h2 x hx).2.1.1
  rw [bytes5] at h3
  omega
theorem law_q (a0_0 : Int) (l0_1 : List S61) (a1 : ByteArray) (a2 : Int) (hq0 : QD a0_0 l0_1) (hq1 : a1.size ≤ 140737488351232) (hq2 : (Lit.int .i64 a2).wf = true) : ∃ k, dragnetlaw16_StoreReads.f k a0_0 l0_1 a1 a2 = some true := law a0_0 l0_1 a1 a2 (reach_q hq0)
end Go.Proofs.Ytopjdjljpkcdlaa.R
