/- Walks by hand. -/
import Derived.Test.YtdcifmonhaklcaaDoorTpPlP0
import Derived.Test.YtdcifmonhaklcaaDoorTpQx11
import Derived.Test.YtdcifmonhaklcaaDoorTpQx12
import Derived.Test.YtdcifmonhaklcaaDoorTpQx13
import Derived.Laws.BytesArg
namespace Go.Proofs.YtdcifmonhaklcaaDoor.Q
open Go.RowKit Go.Proofs.YtdcifmonhaklcaaDoorW.PrintWords Go.Proofs.YtdcifmonhaklcaaDoorW.PrintLast Go.Proofs.YtdcifmonhaklcaaDoorW.PrintMore
attribute [local go_sem] min2_int min_two -- for this text's walks alone
set_option linter.unusedVariables false
set_option linter.unusedSimpArgs false
theorem ba_append (a b : ByteArray) : (a ++ b).toList = a.toList ++ b.toList := by
  rw [Lib.toList_data, Lib.toList_data, Lib.toList_data, ByteArray.data_append]
  simp
theorem strOf_one (d : Int) : (strOfNums [d]).toList = [UInt8.ofNat d.toNat] := by
  unfold strOfNums
  rw [Lib.toList_data]
  rfl
theorem digits_l0 (n : Nat) : ∀ (x : Nat) (acc : ByteArray) (e : Nat), x < 10 ^ (n + 1) → x < 18446744073709551616 → acc.size + n ≤ 1000 → ∃ r, dragnetref08_Digits.l0 (n + 1 + e) (x : Int) acc = some r ∧ r.toList = (if 10 ≤ x then Lib.decDigits (x / 10) else []) ++ acc.toList ∧ r.size ≤ acc.size + n := by
  induction n with
  | zero =>
    intro x acc e h _ _
    refine ⟨acc, ?_, ?_, by omega⟩
    · rw [show 0 + 1 + e = e + 1 by omega, dragnetref08_Digits.l0, if_neg (by omega)]
    · rw [if_neg (by omega)]
      rfl
  | succ n ih =>
    intro x acc e h h2 h3
    rw [show n + 1 + 1 + e = (n + 1 + e) + 1 by omega, dragnetref08_Digits.l0]
    by_cases c : 10 ≤ x
    · have e1 : IntKind.u64.wrap (Int.tdiv (x : Int) 10) = ((x / 10 : Nat) : Int) := by
        rw [wrapU64, Int.tdiv_eq_ediv_of_nonneg (by omega)]
        omega
      have e2 : IntKind.u64.wrap (48 + Int.tmod ((x / 10 : Nat) : Int) 10) % 256 = ((48 + x / 10 % 10 : Nat) : Int) := by
        rw [wrapU64, Int.tmod_eq_emod_of_nonneg (by omega)]
        omega
      have hs : (strOfNums [((48 + x / 10 % 10 : Nat) : Int)]).toList = [UInt8.ofNat (48 + x / 10 % 10)] := by rw [strOf_one, Int.toNat_natCast]
      have hz : (strOfNums [((48 + x / 10 % 10 : Nat) : Int)]).size = 1 := by
        have h3 : ∀ b : ByteArray, b.size = b.toList.length := fun b => by rw [Lib.toList_data, Array.length_toList]; rfl
        rw [h3, hs]
        rfl
      rw [if_pos (by omega), Option.bind_some, e1, e2, if_pos (by rw [hz]; omega)]
      have hsz : ∀ a b : ByteArray, (a ++ b).size = a.size + b.size := fun a b => ByteArray.size_append
      obtain ⟨r, hr, hl, hrs⟩ := ih (x / 10) (strOfNums [((48 + x / 10 % 10 : Nat) : Int)] ++ acc) e (by rw [Nat.pow_succ] at h; omega) (by omega) (by rw [hsz, hz]; omega)
      refine ⟨r, hr, ?_, by rw [hsz, hz] at hrs; omega⟩
      rw [hl, ba_append, hs, if_pos c]
      conv => rhs; rw [Lib.decDigits]
      by_cases c2 : x / 10 < 10
      · rw [if_neg (by omega), dif_pos c2, show x / 10 % 10 = x / 10 by omega]
        rfl
      · rw [if_pos (by omega), dif_neg c2, List.append_assoc]
    · rw [if_neg (by omega)]
      refine ⟨acc, rfl, ?_, by omega⟩
      rw [if_neg c]
      rfl
theorem digits_f (x : Nat) (h : x ≤ 2147483647) (k : Nat) (hk : 20 ≤ k) : ∃ r, dragnetref08_Digits.f k (x : Int) = some r ∧ r.toList = Lib.decDigits x ∧ r.size ≤ 100 := by
  have e2 : IntKind.u64.wrap (48 + Int.tmod (x : Int) 10) % 256 = ((48 + x % 10 : Nat) : Int) := by
    rw [wrapU64, Int.tmod_eq_emod_of_nonneg (by omega)]
    omega
  have hs : (strOfNums [((48 + x % 10 : Nat) : Int)]).toList = [UInt8.ofNat (48 + x % 10)] := by rw [strOf_one, Int.toNat_natCast]
  have hz : (strOfNums [((48 + x % 10 : Nat) : Int)]).size = 1 := by
    have h3 : ∀ b : ByteArray, b.size = b.toList.length := fun b => by rw [Lib.toList_data, Array.length_toList]; rfl
    rw [h3, hs]
    rfl
  unfold dragnetref08_Digits.f
  rw [e2]
  obtain ⟨e, rfl⟩ : ∃ e, k = 10 + 1 + e := ⟨k - 11, by omega⟩
  obtain ⟨r, hr, hl, hrs⟩ := digits_l0 10 x (strOfNums [((48 + x % 10 : Nat) : Int)]) e (by omega) (by omega) (by rw [hz]; omega)
  refine ⟨r, hr, ?_, by omega⟩
  rw [hl, hs]
  conv => rhs; rw [Lib.decDigits]
  by_cases c : x < 10
  · rw [if_neg (by omega), dif_pos c, show x % 10 = x by omega]
    rfl
  · rw [if_pos (by omega), dif_neg c]
theorem rname_f (n : Int) (k : Nat) (hk : 20 ≤ k) : ∃ r, dragnetref18_Name.f k n = some r ∧ (nameM n).toList = r.toList := by
  unfold dragnetref18_Name.f
  by_cases h1 : n < 0
  · rw [if_pos h1]
    exact ⟨_, rfl, by unfold nameM; rw [if_pos h1]⟩
  · rw [if_neg h1]
    by_cases h2 : n > 2147483647
    · rw [if_pos h2]
      exact ⟨_, rfl, by unfold nameM; rw [if_neg h1, if_pos h2]⟩
    · obtain ⟨x, rfl⟩ : ∃ x : Nat, n = (x : Int) := ⟨n.toNat, by omega⟩
      obtain ⟨r, hr, hl, hs⟩ := digits_f x (by omega) k hk
      rw [if_neg h2, show IntKind.u64.wrap (x : Int) = (x : Int) by rw [wrapU64]; omega, hr, Option.bind_some, if_pos (by omega)]
      refine ⟨_, rfl, ?_⟩
      rw [name_list (by omega) (by omega), ba_append, hl, Int.toNat_natCast, show (⟨#[115]⟩ : ByteArray).toList = [115] by rw [Lib.toList_data]]
      rfl
theorem ops_l0 (l : List S60) (hl : l.length ≤ 140737488355328) (n : Nat) : ∀ (e i : Nat), i + n = l.length → dragnetref16_SameOps.l0 (2 * n + 1 + e) l l (i : Int) = some true := by
  induction n with
  | zero =>
    intro e i h
    rw [show 2 * 0 + 1 + e = e + 1 by omega, dragnetref16_SameOps.l0, if_neg (by omega)]
  | succ n ih =>
    intro e i h
    rw [show 2 * (n + 1) + 1 + e = (2 * n + 1 + e + 1) + 1 by omega, dragnetref16_SameOps.l0, if_pos (by omega), if_pos (by omega), if_pos (by omega), if_pos rfl, if_pos rfl, if_pos rfl, same_refl, Option.bind_some, dragnetref16_SameOps.j1, if_neg (by decide), show wrap64 ((i : Int) + 1) = ((i + 1 : Nat) : Int) by unfold wrap64; omega]
    exact ih e (i + 1) (by omega)
theorem ops_refl (l : List S60) (hl : l.length ≤ 140737488355328) (k : Nat) (hk : 2 * l.length + 1 ≤ k) : dragnetref16_SameOps.f k l l = some true := by
  obtain ⟨e, rfl⟩ : ∃ e, k = 2 * l.length + 1 + e := ⟨k - (2 * l.length + 1), by omega⟩
  unfold dragnetref16_SameOps.f
  rw [if_pos rfl]
  exact ops_l0 l hl l.length e 0 (by omega)
theorem same18_reflk (l : List S63) (a b : Int) (hl : l.length ≤ 140737488355328) (k : Nat) (hk : l.length + 2 ≤ k) : dragnetref18_Same.f k l a b l a b = some true := by
  obtain ⟨e, rfl⟩ : ∃ e, k = l.length + 1 + e + 1 := ⟨k - (l.length + 2), by omega⟩
  unfold dragnetref18_Same.f
  rw [if_pos rfl, if_pos rfl, show ((l.length : Int) != (l.length : Int)) = false by simp, dragnetref18_Same.j0, if_neg Bool.false_ne_true]
  exact same18_l0 l a b hl l.length e 0 (by omega)
theorem rbytes18_f {l : List S63} {a b : Int} (h : FormedC l a b) : dragnetref18_Bytes.f l a b = some (frame (bytesC l a b)) := by
  unfold dragnetref18_Bytes.f
  rw [if_pos h, refFrame_f _ (by have := bytesC_len h; omega) _ (Nat.le_refl _)]
end Go.Proofs.YtdcifmonhaklcaaDoor.Q
