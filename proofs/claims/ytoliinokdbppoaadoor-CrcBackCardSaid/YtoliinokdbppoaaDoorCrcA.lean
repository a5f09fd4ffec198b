/- The document's sum, frames and wrapping (the reference's printed functions) come to the same plain functions as the program's; the laws CrcSums, CrcMore, CrcWraps in plain form. -/
import Derived.Test.YtoliinokdbppoaaDoorCrc
import Derived.Test.YtoliinokdbppoaaDoorPx2
namespace Go.Proofs.YtoliinokdbppoaaDoor.Crc
open Go.RowKit Go.Proofs.YtoliinokdbppoaaDoorW.PrintWords Go.Proofs.YtoliinokdbppoaaDoorW.PrintLast Go.Proofs.YtoliinokdbppoaaDoor.P

theorem N_odd (c : BitVec 32) : (Int.tmod (u32 c) 2 = 1) ↔ c.getLsbD 0 = true := by
  have h : Int.tmod (u32 c) 2 = ((c.toNat % 2 : Nat) : Int) := by
    unfold u32
    exact (Int.ofNat_tmod c.toNat 2).symm
  rw [h]
  show _ ↔ c.toNat.testBit 0 = true
  rw [Nat.testBit_zero]
  simp only [decide_eq_true_eq]
  omega
theorem N_half (c : BitVec 32) : Int.tdiv (u32 c) 2 % (4294967296 : Int) = u32 (c >>> 1) := by
  have h : Int.tdiv (u32 c) 2 = ((c.toNat / 2 : Nat) : Int) := by
    unfold u32
    exact (Int.ofNat_tdiv c.toNat 2).symm
  have h2 : u32 (c >>> 1) = ((c.toNat / 2 : Nat) : Int) := by
    unfold u32
    rw [BitVec.toNat_ushiftRight, Nat.shiftRight_eq_div_pow]
  have h3 := N_lt c
  unfold u32 at h3
  rw [h, h2]
  omega
theorem N_not (c : BitVec 32) : (4294967295 - u32 c) % 4294967296 = u32 (~~~ c) := by
  have h := N_lt c
  unfold u32 at h ⊢
  rw [BitVec.toNat_not]
  omega
theorem poly_B : b32 2197175160 = poly := by decide
theorem wrap_one {i : Int} {n : Nat} (h0 : 0 ≤ i) (h1 : i ≤ n) (hn : n ≤ 140737488355328) : wrap64 (i + 1) = i + 1 := by
  unfold wrap64
  omega
theorem ref_l1 (l : List Int) (x4 : Int) (k : Nat) (j : Nat) : ∀ c, j ≤ 8 → dragnetref01_Sum.l1 (k + j + 1) l (u32 c) x4 (8 - j) = dragnetref01_Sum.l0 k l (u32 (steps j c)) (wrap64 (x4 + 1)) := by
  induction j with
  | zero =>
    intro c _
    simp only [dragnetref01_Sum.l1]
    rw [if_neg (by omega)]
    rfl
  | succ j ih =>
    intro c hj
    rw [show k + (j + 1) + 1 = (k + j + 1) + 1 from by omega, dragnetref01_Sum.l1, if_pos (by omega)]
    have hw : wrap64 (8 - ((j + 1 : Nat) : Int) + 1) = 8 - (j : Int) := by
      unfold wrap64
      omega
    rw [hw]
    by_cases h : c.getLsbD 0 = true
    · rw [if_pos ((N_odd c).2 h), N_half, xorN, B_N, poly_B]
      have e : (c >>> 1) ^^^ poly = step c := by
        unfold step
        rw [if_pos h]
      rw [e, ih _ (by omega)]
      rfl
    · rw [if_neg (fun z => h ((N_odd c).1 z)), N_half]
      have e : (c >>> 1) = step c := by
        unfold step
        rw [if_neg h, BitVec.xor_zero]
      rw [e, ih _ (by omega)]
      rfl
theorem drop_rd (l : List Int) (i : Nat) (h : i < l.length) : l.drop i = rd l i :: l.drop (i + 1) := by
  rw [List.drop_eq_getElem_cons h]
  simp [rd, h]
theorem ref_l0 (l : List Int) (hl : l.length ≤ 140737488355328) (n : Nat) : ∀ (e i : Nat) c, i + n = l.length → dragnetref01_Sum.l0 (10 * n + 1 + e) l (u32 c) i = some (u32 (~~~ run c (l.drop i))) := by
  induction n with
  | zero =>
    intro e i c hi
    rw [show 10 * 0 + 1 + e = e + 1 from by omega]
    simp only [dragnetref01_Sum.l0]
    rw [if_neg (by omega), N_not, List.drop_of_length_le (by omega)]
    rfl
  | succ n ih =>
    intro e i c hi
    rw [show 10 * (n + 1) + 1 + e = ((10 * n + 1 + e) + 8 + 1) + 1 from by omega]
    simp only [dragnetref01_Sum.l0]
    rw [if_pos (by omega), if_pos (by omega), xorN, B_N, B_mod]
    have h8 := ref_l1 l i (10 * n + 1 + e) 8 (c ^^^ b32 (rd l i)) (by omega)
    rw [show (8 : Int) - ((8 : Nat) : Int) = 0 from by omega] at h8
    rw [h8, wrap_one (n := l.length) (by omega) (by omega) hl, show ((i : Int) + 1) = ((i + 1 : Nat) : Int) from by omega, ih e (i + 1) _ (by omega), drop_rd l i (by omega)]
    rfl
theorem ref_sum (l : List Int) (hl : l.length ≤ 140737488355328) (k : Nat) (hk : 10 * l.length + 1 ≤ k) : dragnetref01_Sum.f k l = some (u32 (sum 0#32 l)) := by
  have h := ref_l0 l hl l.length (k - (10 * l.length + 1)) 0 (~~~ 0#32) (by omega)
  rw [show 10 * l.length + 1 + (k - (10 * l.length + 1)) = k from by omega] at h
  have e : u32 (~~~ 0#32) = 4294967295 := by decide
  rw [e] at h
  exact h

/-! Bytes. -/
def Bytes (l : List Int) : Prop := ∀ x ∈ l, 0 ≤ x ∧ x < 256
theorem bytes_of_wf {l : List Int} (h : ∀ x ∈ l, (Lit.int .u8 x).wf = true) : Bytes l := by
  intro x hx
  have := h x hx
  simp [Lit.wf, IntKind.min, IntKind.max, IntKind.signed, IntKind.bits] at this
  omega
theorem copy_f (l : List Int) (h : l.length < 140737488355328) : dragnetref01_Copy.f l = some l := by
  unfold dragnetref01_Copy.f
  rw [Option.bind_some, if_pos (by simpa using h)]
  rfl
theorem same_refl (l : List Int) : dragnetref01_Same.f l l = some true := by
  unfold dragnetref01_Same.f
  simp
def four (n : Int) : List Int := [n % 256, n / 256 % 256, n / 65536 % 256, n / 16777216 % 256]
theorem lay_f (l : List Int) (n : Int) (h : l.length + 4 < 140737488355328) : crc_lay.f l n = some (l ++ four n) := by
  unfold crc_lay.f
  rw [Option.bind_some, if_pos (by simpa using h)]
  rfl
def head (l : List Int) : List Int := four (l.length : Int)
def frame (l : List Int) : List Int := head l ++ l ++ four (u32 (sum 0#32 (head l ++ l)))
theorem wrap_f (l : List Int) (h : l.length ≤ 16777216) : crc_Wrap.f l = some (frame l, 0) := by
  have hw : wrap64 (wrap64 (4 + (l.length : Int)) + 4) = (l.length : Int) + 8 := by
    unfold wrap64
    omega
  have hm : (l.length : Int) % 4294967296 = l.length := by omega
  have hh : (head l).length = 4 := rfl
  unfold crc_Wrap.f
  rw [if_neg (by omega), hw, if_pos (by omega), if_pos (by omega), lay_f [] _ (by simp), hm]
  simp only [Option.bind_some, List.nil_append]
  rw [if_pos (by have : (four (l.length : Int)).length = 4 := rfl; omega)]
  rw [Sum_f, Option.bind_some, lay_f _ _ (by rw [List.length_append]; have : (four (l.length : Int)).length = 4 := rfl; omega)]
  rfl
theorem wrap_long (l : List Int) (h : 16777216 < l.length) : crc_Wrap.f l = some ([], 5) := by
  unfold crc_Wrap.f
  rw [if_pos (by omega)]
theorem refFrame_f (l : List Int) (h : l.length ≤ 16777216) (k : Nat) (hk : 10 * l.length + 50 ≤ k) : dragnetref01_Frame.f k l = some (frame l) := by
  have hm : (l.length : Int) % 4294967296 = l.length := by omega
  have h4 : ∀ n, (four n).length = 4 := fun _ => rfl
  unfold dragnetref01_Frame.f
  rw [hm]
  show (some (four (l.length : Int))).bind _ = _
  simp only [Option.bind_some]
  rw [if_pos (by rw [h4]; omega), ref_sum _ (by rw [List.length_append, h4]; omega) k (by rw [List.length_append, h4]; omega)]
  simp only [Option.bind_some]
  show (some (four _)).bind _ = _
  simp only [Option.bind_some]
  rw [if_pos (by rw [List.length_append, h4, h4]; omega)]
  rfl
theorem refWrap_f (l : List Int) (h : l.length ≤ 16777216) (k : Nat) (hk : 10 * l.length + 50 ≤ k) : dragnetref01_Wrap.f k l = some (frame l, 0) := by
  unfold dragnetref01_Wrap.f
  rw [if_neg (by omega), refFrame_f l h k hk]
  rfl
theorem refWrap_long (l : List Int) (h : 16777216 < l.length) (k : Nat) : dragnetref01_Wrap.f k l = some ([], 5) := by
  unfold dragnetref01_Wrap.f
  rw [if_pos (by omega)]

/-! CrcMore, CrcSums. -/
theorem more_f (c : Int) (l : List Int) : crc_More.f c l = some (crcMore c l) := rfl
theorem CrcMore_pure (a0 : Int) (l1 l2 : List Int) (h : l1.length + l2.length < 140737488355328) : dragnetlaw01_CrcMore.f a0 l1 l2 = some true := by
  unfold dragnetlaw01_CrcMore.f dragnetlaw01_alive.f
  simp only [Option.bind_some, if_true]
  rw [more_f, Option.bind_some, more_f, Option.bind_some, copy_f l1 (by omega), Option.bind_some, if_pos h, more_f, Option.bind_some, more_append]
  simp
theorem CrcSums_pure : dragnetlaw01_CrcSums.Pure := by
  intro l0 l1 _ _ _ _ _ _
  refine ⟨10 * (l0.length + l1.length) + 50, ?_⟩
  unfold dragnetlaw01_CrcSums.f dragnetlaw01_alive.f
  simp only [Option.bind_some, if_true]
  rw [show 10 * (l0.length + l1.length) + 50 = (10 * (l0.length + l1.length) + 49) + 1 from by omega]
  by_cases h0 : (l0.length : Int) > 65536
  · rw [if_pos h0]
    simp only [dragnetlaw01_CrcSums.j0, if_true]
  · rw [if_neg h0]
    simp only [dragnetlaw01_CrcSums.j0]
    by_cases h1 : (l1.length : Int) > 65536
    · rw [if_pos (by simpa using h1)]
    · rw [if_neg (by simpa using h1), copy_f l0 (by omega)]
      simp only [Option.bind_some]
      rw [if_pos (by omega)]
      rw [Sum_f, Option.bind_some, ref_sum (l0 ++ l1) (by rw [List.length_append]; omega) _ (by rw [List.length_append]; omega), Option.bind_some, if_pos rfl, Sum_f, Option.bind_some, more_f, Option.bind_some, Option.bind_some]
      rw [ref_sum l0 (by omega) _ (by omega), more_f]
      simp only [Option.bind_some]
      rw [more_N, more_N, B_N, B_zero]
      have e : sum (sum 0#32 l0) l1 = sum 0#32 (l0 ++ l1) := by
        unfold sum
        rw [BitVec.not_not, run_append]
      rw [e, if_pos rfl]
      simp
/-- What is turned behind the comparison. -/
theorem wraps_l0 (x0 : List Int) (n : Nat) : ∀ (e : Nat) (x4 : List Int) (i : Nat), i + n = x4.length → x4.length ≤ 140737488355328 → dragnetlaw01_CrcWraps.l0 (n + 1 + e) x0 x0 x4 true i = some true := by
  induction n with
  | zero =>
    intro e x4 i hi _
    rw [show 0 + 1 + e = e + 1 from by omega]
    simp only [dragnetlaw01_CrcWraps.l0]
    rw [if_neg (by omega), same_refl]
    rfl
  | succ n ih =>
    intro e x4 i hi hl
    rw [show n + 1 + 1 + e = (n + 1 + e) + 1 from by omega]
    simp only [dragnetlaw01_CrcWraps.l0]
    rw [if_pos (by omega), if_pos (by omega), wrap_one (n := x4.length) (by omega) (by omega) hl, show ((i : Int) + 1) = ((i + 1 : Nat) : Int) from by omega]
    exact ih e _ (i + 1) (by rw [List.length_set]; omega) (by rw [List.length_set]; exact hl)
theorem CrcWraps_pure : dragnetlaw01_CrcWraps.Pure := by
  intro l0 _ hl _
  by_cases h : l0.length ≤ 16777216
  · refine ⟨11 * l0.length + 60, ?_⟩
    unfold dragnetlaw01_CrcWraps.f dragnetlaw01_alive.f
    simp only [Option.bind_some, if_true]
    rw [copy_f l0 (by omega), Option.bind_some, wrap_f l0 h, Option.bind_some, refWrap_f l0 h _ (by omega), Option.bind_some, same_refl, Option.bind_some, if_pos rfl]
    rw [show 11 * l0.length + 60 = (11 * l0.length + 59) + 1 from by omega]
    simp only [dragnetlaw01_CrcWraps.j0, BEq.rfl]
    have hf : (frame l0).length = l0.length + 8 := by
      unfold frame head
      rw [List.length_append, List.length_append]
      show 4 + l0.length + 4 = _
      omega
    have := wraps_l0 l0 (l0.length + 8) (10 * l0.length + 50) (frame l0) 0 (by omega) (by omega)
    rw [show l0.length + 8 + 1 + (10 * l0.length + 50) = 11 * l0.length + 59 from by omega] at this
    exact this
  · refine ⟨2, ?_⟩
    unfold dragnetlaw01_CrcWraps.f dragnetlaw01_alive.f
    simp only [Option.bind_some, if_true]
    rw [copy_f l0 (by omega), Option.bind_some, wrap_long l0 (by omega), Option.bind_some, refWrap_long l0 (by omega), Option.bind_some, same_refl, Option.bind_some, if_pos rfl]
    simp only [dragnetlaw01_CrcWraps.j0, BEq.rfl]
    exact wraps_l0 l0 0 0 [] 0 rfl (by simp)
/-! As the rows ask them. -/
theorem CrcSums_row (l0 l1 : List Int) (y0 : l0.length * 1 ≤ 140737488351232) (w0 : ∀ x ∈ l0, (Lit.int .u8 x).wf = true) (y1 : l1.length * 1 ≤ 140737488351232) (w1 : ∀ x ∈ l1, (Lit.int .u8 x).wf = true) : ∃ k, dragnetlaw01_CrcSums.f k l0 l1 = some true :=
  CrcSums_pure l0 l1 (by unfold maxLen; omega) y0 w0 (by unfold maxLen; omega) y1 w1
theorem CrcWraps_row (l0 : List Int) (y0 : l0.length * 1 ≤ 140737488351232) (w0 : ∀ x ∈ l0, (Lit.int .u8 x).wf = true) : ∃ k, dragnetlaw01_CrcWraps.f k l0 = some true :=
  CrcWraps_pure l0 (by unfold maxLen; omega) y0 w0
theorem CrcMore_row (a0 : Int) (l1 l2 : List Int) (_ : (Lit.int .u32 a0).wf = true) (_ : l1.length * 1 ≤ 140737488351232) (_ : ∀ x ∈ l1, (Lit.int .u8 x).wf = true) (_ : l2.length * 1 ≤ 140737488351232) (_ : ∀ x ∈ l2, (Lit.int .u8 x).wf = true) (hb : l1.length + l2.length ≤ 1048576) : dragnetlaw01_CrcMore.f a0 l1 l2 = some true :=
  CrcMore_pure a0 l1 l2 (by omega)
end Go.Proofs.YtoliinokdbppoaaDoor.Crc
