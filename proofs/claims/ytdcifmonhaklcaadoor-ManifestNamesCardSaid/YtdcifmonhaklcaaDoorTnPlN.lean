/- Walks by hand. -/
import Derived.Test.YtdcifmonhaklcaaDoorTnMx5
namespace Go.Proofs.YtdcifmonhaklcaaDoor.M
open Go.RowKit Go.Proofs.YtdcifmonhaklcaaDoorW.PrintWords Go.Proofs.YtdcifmonhaklcaaDoorW.PrintLast Go.Proofs.YtdcifmonhaklcaaDoorW.PrintMore
attribute [local go_sem] min2_int min_two -- for this text's walks alone
set_option linter.unusedVariables false
set_option linter.unusedSimpArgs false
def valD : List UInt8 → Nat := fun l => l.foldl (fun a c => a * 10 + (c.toNat - 48)) 0
theorem valD_snoc (l : List UInt8) (c : UInt8) : valD (l ++ [c]) = valD l * 10 + (c.toNat - 48) := by
  unfold valD
  rw [List.foldl_append]
  rfl
theorem dig_val {d : Nat} (h : d < 10) : (UInt8.ofNat (48 + d)).toNat - 48 = d := by
  rw [UInt8.toNat_ofNat']
  omega
theorem valD_dec (u : Nat) : valD (Lib.decDigits u) = u := by
  induction u using Nat.strongRecOn with
  | _ u ih =>
    rw [Lib.decDigits]
    by_cases h : u < 10
    · rw [dif_pos h]
      show 0 * 10 + _ = _
      rw [dig_val h]
      omega
    · rw [dif_neg h, valD_snoc, ih (u / 10) (by omega), dig_val (by omega)]
      omega
theorem dec_inj {a b : Nat} (h : Lib.decDigits a = Lib.decDigits b) : a = b := by rw [← valD_dec a, ← valD_dec b, h]
theorem dec_length (k : Nat) : ∀ u, u < 10 ^ (k + 1) → (Lib.decDigits u).length ≤ k + 1 := by
  induction k with
  | zero =>
    intro u h
    rw [Lib.decDigits_one (by omega)]
    exact Nat.le_refl 1
  | succ k ih =>
    intro u h
    rw [Lib.decDigits]
    by_cases h1 : u < 10
    · rw [dif_pos h1]
      exact Nat.succ_le_succ (Nat.zero_le _)
    · rw [dif_neg h1, List.length_append]
      have := ih (u / 10) (by rw [Nat.pow_succ] at h; omega)
      rw [List.length_singleton]
      omega
theorem dec_pos (u : Nat) : 1 ≤ (Lib.decDigits u).length := by
  rw [Lib.decDigits]
  by_cases h1 : u < 10
  · rw [dif_pos h1]
    exact Nat.le_refl 1
  · rw [dif_neg h1, List.length_append, List.length_singleton]
    omega
def nameM (n : Int) : ByteArray := if n < 0 then ⟨#[]⟩ else if n > 2147483647 then ⟨#[]⟩ else (⟨#[115]⟩ : ByteArray) ++ ⟨(Lib.decDigits n.toNat).toArray⟩
theorem name_f (n : Int) : manifest_Name.f n = some (nameM n) := by
  unfold manifest_Name.f nameM
  by_cases h1 : n < 0
  · rw [if_pos h1, if_pos h1]
  · rw [if_neg h1, if_neg h1]
    by_cases h2 : n > 2147483647
    · rw [if_pos h2, if_pos h2]
    · rw [if_neg h2, if_neg h2]
      unfold strconv_Itoa.f
      have e : Lib.itoa n = Lib.decDigits n.toNat := by unfold Lib.itoa; rw [if_neg h1]
      have hl := dec_length 9 n.toNat (by omega)
      rw [if_pos ⟨by omega, by omega⟩, Option.bind_some, e, if_pos (by show 1 + (Lib.decDigits n.toNat).toArray.size ≤ _; rw [List.size_toArray]; omega)]
theorem name_list {n : Int} (h0 : 0 ≤ n) (h1 : n ≤ 2147483647) : (nameM n).toList = 115 :: Lib.decDigits n.toNat := by
  unfold nameM
  rw [if_neg (by omega), if_neg (by omega), Lib.toList_data, ByteArray.data_append]
  simp
theorem name_out {n : Int} (h : n < 0 ∨ n > 2147483647) : (nameM n).toList = [] := by
  unfold nameM
  by_cases h1 : n < 0
  · rw [if_pos h1, Lib.toList_data]
  · rw [if_neg h1, if_pos (by omega), Lib.toList_data]
theorem names_law (a0 a1 : Int) : dragnetlaw18_ManifestNames.f a0 a1 = some true := by
  unfold dragnetlaw18_ManifestNames.f dragnetlaw18_alive.f
  rw [Option.bind_some, if_pos rfl, name_f, Option.bind_some, name_f, Option.bind_some]
  by_cases h1 : a0 < 0
  · rw [if_pos h1, name_out (.inl h1)]
    rfl
  · rw [if_neg h1]
    by_cases h2 : a0 > 2147483647
    · rw [if_pos h2, name_out (.inr h2)]
      rfl
    · have hn := name_list (n := a0) (by omega) (by omega)
      have hd := dec_pos a0.toNat
      have hl := dec_length 9 a0.toNat (by omega)
      have hs : (nameM a0).size = 1 + (Lib.decDigits a0.toNat).length := by
        have h3 : (nameM a0).size = (nameM a0).toList.length := by rw [Lib.toList_data, Array.length_toList]; rfl
        rw [h3, hn, List.length_cons]
        omega
      rw [if_neg h2, if_neg (by rw [hn]; intro h; injection h with h _; exact absurd h (by decide)), if_neg (by rw [hn]; intro h; injection h with h _; exact absurd h (by decide)), if_pos (by rw [hs]; omega), if_pos (by rw [hs]; omega)]
      by_cases h3 : a0 = a1
      · subst h3
        rw [if_pos rfl, if_pos rfl]
      · rw [if_neg h3, if_neg]
        intro h
        rw [hn] at h
        by_cases h4 : a1 < 0 ∨ a1 > 2147483647
        · rw [name_out h4] at h
          cases h
        · rw [name_list (n := a1) (by omega) (by omega)] at h
          injection h with _ h
          have := dec_inj h
          omega
theorem names_q (a0 a1 : Int) (_ : (Lit.int .i64 a0).wf = true) (_ : (Lit.int .i64 a1).wf = true) : dragnetlaw18_ManifestNames.f a0 a1 = some true := names_law a0 a1
end Go.Proofs.YtdcifmonhaklcaaDoor.M
