/- Walks by hand. -/
import Derived.Test.YtdcifmonhaklcaaDoorTpQx2
import Derived.Test.YtdcifmonhaklcaaDoorTpQx3
import Derived.Test.YtdcifmonhaklcaaDoorTpQx4
import Derived.Test.YtdcifmonhaklcaaDoorTpQx5
import Derived.Test.YtdcifmonhaklcaaDoorTpQx6
import Derived.Test.YtdcifmonhaklcaaDoorTpQx7
import Derived.Test.YtdcifmonhaklcaaDoorTpQx8
import Derived.Test.YtdcifmonhaklcaaDoorTpQx10
import Derived.Laws.BitsAllLaws
namespace Go.Proofs.YtdcifmonhaklcaaDoor.Q
open Go.RowKit Go.Proofs.YtdcifmonhaklcaaDoorW.PrintWords Go.Proofs.YtdcifmonhaklcaaDoorW.PrintLast Go.Proofs.YtdcifmonhaklcaaDoorW.PrintMore
attribute [local go_sem] min2_int min_two -- for this text's walks alone
set_option linter.unusedVariables false
set_option linter.unusedSimpArgs false
def u32 (c : BitVec 32) : Int := (c.toNat : Int)
def b32 (x : Int) : BitVec 32 := BitVec.ofInt 32 x
theorem B_N (c : BitVec 32) : b32 (u32 c) = c := by
  unfold b32 u32
  rw [BitVec.ofInt_natCast, BitVec.ofNat_toNat, BitVec.setWidth_eq]
theorem N_lt (c : BitVec 32) : 0 ≤ u32 c ∧ u32 c < 4294967296 := by
  have : c.toNat < 4294967296 := c.isLt
  unfold u32
  omega
theorem xorN (x y : Int) : Go.bits .xor .u32 x y = u32 (b32 x ^^^ b32 y) := by
  show IntKind.u32.wrap ((b32 x ^^^ b32 y).toNat : Int) = _
  have h := N_lt (b32 x ^^^ b32 y)
  unfold u32 at h ⊢
  rw [IntKind.wrap_u32']
  omega
theorem B_mod (x : Int) : b32 (x % 4294967296) = b32 x := by
  unfold b32
  apply BitVec.eq_of_toInt_eq
  rw [BitVec.toInt_ofInt, BitVec.toInt_ofInt]
  show Int.bmod (x % (2 ^ 32 : Nat)) (2 ^ 32) = _
  exact Int.emod_bmod _ _
def poly : BitVec 32 := 0x82f63b78#32
def step (c : BitVec 32) : BitVec 32 := (c >>> 1) ^^^ (if c.getLsbD 0 = true then poly else 0#32)
theorem step_xor (a b : BitVec 32) : step (a ^^^ b) = step a ^^^ step b := by
  unfold step
  rw [BitVec.ushiftRight_xor_distrib, BitVec.getLsbD_xor]
  generalize a >>> 1 = x
  generalize b >>> 1 = y
  cases a.getLsbD 0 <;> cases b.getLsbD 0
  · simp
  · show x ^^^ y ^^^ poly = x ^^^ 0#32 ^^^ (y ^^^ poly)
    rw [BitVec.xor_zero, BitVec.xor_assoc]
  · show x ^^^ y ^^^ poly = x ^^^ poly ^^^ (y ^^^ 0#32)
    rw [BitVec.xor_zero, BitVec.xor_assoc, BitVec.xor_assoc, BitVec.xor_comm y poly]
  · show x ^^^ y ^^^ 0#32 = x ^^^ poly ^^^ (y ^^^ poly)
    rw [BitVec.xor_zero, BitVec.xor_comm y poly, BitVec.xor_assoc, ← BitVec.xor_assoc poly poly y, BitVec.xor_self, BitVec.zero_xor]
theorem step_zero : step 0#32 = 0#32 := by decide
def steps : Nat → BitVec 32 → BitVec 32
  | 0, c => c
  | n + 1, c => steps n (step c)
theorem steps_xor (n : Nat) : ∀ a b, steps n (a ^^^ b) = steps n a ^^^ steps n b := by
  induction n with
  | zero => intro a b; rfl
  | succ n ih => intro a b; simp only [steps]; rw [step_xor, ih]
theorem steps_zero (n : Nat) : steps n 0#32 = 0#32 := by
  induction n with
  | zero => rfl
  | succ n ih => simp only [steps]; rw [step_zero, ih]
theorem steps_add (m n : Nat) : ∀ c, steps (m + n) c = steps n (steps m c) := by
  induction m with
  | zero => intro c; rw [Nat.zero_add]; rfl
  | succ m ih => intro c; rw [Nat.succ_add]; exact ih _
theorem step_shl (c : BitVec 32) (h : c.getLsbD 31 = false) : step (c <<< 1) = c := by
  unfold step
  have e : (c <<< 1).getLsbD 0 = false := by rw [BitVec.getLsbD_shiftLeft]; simp
  rw [e]
  apply BitVec.eq_of_getLsbD_eq
  intro i hi
  rw [if_neg (by simp), BitVec.xor_zero, BitVec.getLsbD_ushiftRight, BitVec.getLsbD_shiftLeft]
  by_cases h31 : i = 31
  · subst h31
    rw [h]
    rfl
  · have : 1 + i < 32 := by omega
    simp [this]
theorem steps_shl (n : Nat) : ∀ c : BitVec 32, (∀ i, 32 - n ≤ i → c.getLsbD i = false) → steps n (c <<< n) = c := by
  induction n with
  | zero => intro c _; simp [steps]
  | succ n ih =>
    intro c h
    show steps n (step (c <<< (n + 1))) = c
    by_cases hn : n < 32
    · rw [BitVec.shiftLeft_add, step_shl, ih]
      · intro i hi
        exact h i (by omega)
      · rw [BitVec.getLsbD_shiftLeft]
        by_cases h2 : 31 < n
        · omega
        · rw [h (31 - n) (by omega)]
          simp
    · have hz : c = 0#32 := BitVec.eq_of_getLsbD_eq (fun i hi => by rw [h i (by omega)]; simp)
      subst hz
      rw [BitVec.zero_shiftLeft, step_zero, steps_zero]
theorem table : ∀ r : Fin 16, steps 4 (BitVec.ofNat 32 r.val) = b32 (rd halvesL (r.val : Int)) := by decide
theorem half (c : BitVec 32) : crcHalf (u32 c) = u32 (steps 4 c) := by
  have hand : Go.bits .and .u32 (u32 c) 15 = u32 (c &&& 15#32) := by
    show IntKind.u32.wrap ((b32 (u32 c) &&& BitVec.ofInt 32 15).toNat : Int) = _
    rw [B_N, show BitVec.ofInt 32 15 = 15#32 from by decide]
    have h := N_lt (c &&& 15#32)
    unfold u32 at h ⊢
    rw [IntKind.wrap_u32']
    omega
  have hdiv : u32 c / (16 : Int) = u32 (c >>> 4) := by
    unfold u32
    rw [BitVec.toNat_ushiftRight, Nat.shiftRight_eq_div_pow]
    rfl
  have hr : (c &&& 15#32).toNat < 16 := by
    rw [BitVec.toNat_and]
    exact Nat.lt_of_le_of_lt Nat.and_le_right (by decide)
  have ht := table ⟨(c &&& 15#32).toNat, hr⟩
  simp only at ht
  rw [BitVec.ofNat_toNat, BitVec.setWidth_eq] at ht
  have hsplit : c = (c >>> 4) <<< 4 ^^^ (c &&& 15#32) := by
    apply BitVec.eq_of_getLsbD_eq
    intro i hi
    rw [BitVec.getLsbD_xor, BitVec.getLsbD_shiftLeft, BitVec.getLsbD_ushiftRight, BitVec.getLsbD_and]
    by_cases h4 : i < 4
    · have : (15#32).getLsbD i = true := by
        have : i = 0 ∨ i = 1 ∨ i = 2 ∨ i = 3 := by omega
        rcases this with rfl | rfl | rfl | rfl <;> decide
      simp [h4, this]
    · have : (15#32).getLsbD i = false := by
        rw [BitVec.getLsbD_ofNat]
        have : Nat.testBit 15 i = false := Nat.testBit_lt_two_pow (Nat.lt_of_lt_of_le (by decide : 15 < 2 ^ 4) (Nat.pow_le_pow_right (by decide) (by omega)))
        simp [this]
      have e : 4 + (i - 4) = i := by omega
      rw [this]
      simp [h4, hi, e]
  have hs : steps 4 c = (c >>> 4) ^^^ b32 (rd halvesL (u32 (c &&& 15#32))) := by
    show _ = (c >>> 4) ^^^ b32 (rd halvesL ((c &&& 15#32).toNat : Int))
    have h4 := steps_shl 4 (c >>> 4) (fun i hi => by rw [BitVec.getLsbD_ushiftRight]; exact BitVec.getLsbD_of_ge _ _ (by omega))
    rw [← ht]
    conv => lhs; rw [hsplit, steps_xor, h4]
  unfold crcHalf
  rw [hand, hdiv, xorN, B_N, hs]
def byte (c : BitVec 32) (x : Int) : BitVec 32 := steps 8 (c ^^^ b32 x)
def run (c : BitVec 32) (l : List Int) : BitVec 32 := l.foldl byte c
theorem crcStep_N (c : BitVec 32) (x : Int) : crcStep (u32 c) x = u32 (byte c x) := by
  unfold crcStep byte
  rw [xorN, B_N, B_mod, half, half, ← steps_add]
theorem fold_N (l : List Int) : ∀ c, l.foldl crcStep (u32 c) = u32 (run c l) := by
  induction l with
  | nil => intro c; rfl
  | cons x l ih => intro c; simp only [List.foldl_cons, run]; rw [crcStep_N, ih]; rfl
theorem not_N (c : Int) : crcNot c = u32 (~~~ b32 c) := by
  unfold crcNot
  have : b32 IntKind.u32.max = BitVec.allOnes 32 := by decide
  rw [xorN, this, BitVec.allOnes_xor]
def sum (c : BitVec 32) (l : List Int) : BitVec 32 := ~~~ run (~~~ c) l
theorem more_N (c : Int) (l : List Int) : crcMore c l = u32 (sum (b32 c) l) := by
  unfold crcMore sum
  rw [not_N c, fold_N, not_N, B_N]
theorem B_zero : b32 0 = 0#32 := by decide
theorem Sum_f (l : List Int) : crc_Sum.f l = some (u32 (sum 0#32 l)) := by
  unfold crc_Sum.f crc_More.f
  rw [more_N, B_zero, Option.bind_some]
theorem N_odd (c : BitVec 32) : (Int.tmod (u32 c) 2 = 1) ↔ c.getLsbD 0 = true := by
  have h : Int.tmod (u32 c) 2 = ((c.toNat % 2 : Nat) : Int) := by
    unfold u32
    exact (Int.ofNat_tmod c.toNat 2).symm
  rw [h]
  show _ ↔ c.toNat.testBit 0 = true
  rw [Nat.testBit_zero]
  simp only [decide_eq_true_eq]
  omega
theorem N_half (c : BitVec 32) : Int.tdiv (u32 c) 2 % (4294967296 : Int) = u32 (c >>> 1) := by
  have h : Int.tdiv (u32 c) 2 = ((c.toNat / 2 : Nat) : Int) := by
    unfold u32
    exact (Int.ofNat_tdiv c.toNat 2).symm
  have h2 : u32 (c >>> 1) = ((c.toNat / 2 : Nat) : Int) := by
    unfold u32
    rw [BitVec.toNat_ushiftRight, Nat.shiftRight_eq_div_pow]
  have h3 := N_lt c
  unfold u32 at h3
  rw [h, h2]
  omega
theorem N_not (c : BitVec 32) : (4294967295 - u32 c) % 4294967296 = u32 (~~~ c) := by
  have h := N_lt c
  unfold u32 at h ⊢
  rw [BitVec.toNat_not]
  omega
theorem poly_B : b32 2197175160 = poly := by decide
theorem wrap_one {i : Int} {n : Nat} (h0 : 0 ≤ i) (h1 : i ≤ n) (hn : n ≤ 140737488355328) : wrap64 (i + 1) = i + 1 := by
  unfold wrap64
  omega
theorem ref_l1 (l : List Int) (x4 : Int) (k : Nat) (j : Nat) : ∀ c, j ≤ 8 → dragnetref01_Sum.l1 (k + j + 1) l (u32 c) x4 (8 - j) = dragnetref01_Sum.l0 k l (u32 (steps j c)) (wrap64 (x4 + 1)) := by
  induction j with
  | zero =>
    intro c _
    simp only [dragnetref01_Sum.l1]
    rw [if_neg (by omega)]
    rfl
  | succ j ih =>
    intro c hj
    rw [show k + (j + 1) + 1 = (k + j + 1) + 1 from by omega, dragnetref01_Sum.l1, if_pos (by omega)]
    have hw : wrap64 (8 - ((j + 1 : Nat) : Int) + 1) = 8 - (j : Int) := by
      unfold wrap64
      omega
    rw [hw]
    by_cases h : c.getLsbD 0 = true
    · rw [if_pos ((N_odd c).2 h), N_half, xorN, B_N, poly_B]
      have e : (c >>> 1) ^^^ poly = step c := by
        unfold step
        rw [if_pos h]
      rw [e, ih _ (by omega)]
      rfl
    · rw [if_neg (fun z => h ((N_odd c).1 z)), N_half]
      have e : (c >>> 1) = step c := by
        unfold step
        rw [if_neg h, BitVec.xor_zero]
      rw [e, ih _ (by omega)]
      rfl
theorem drop_rd (l : List Int) (i : Nat) (h : i < l.length) : l.drop i = rd l i :: l.drop (i + 1) := by
  rw [List.drop_eq_getElem_cons h]
  simp [rd, h]
theorem ref_l0 (l : List Int) (hl : l.length ≤ 140737488355328) (n : Nat) : ∀ (e i : Nat) c, i + n = l.length → dragnetref01_Sum.l0 (10 * n + 1 + e) l (u32 c) i = some (u32 (~~~ run c (l.drop i))) := by
  induction n with
  | zero =>
    intro e i c hi
    rw [show 10 * 0 + 1 + e = e + 1 from by omega]
    simp only [dragnetref01_Sum.l0]
    rw [if_neg (by omega), N_not, List.drop_of_length_le (by omega)]
    rfl
  | succ n ih =>
    intro e i c hi
    rw [show 10 * (n + 1) + 1 + e = ((10 * n + 1 + e) + 8 + 1) + 1 from by omega]
    simp only [dragnetref01_Sum.l0]
    rw [if_pos (by omega), if_pos (by omega), xorN, B_N, B_mod]
    have h8 := ref_l1 l i (10 * n + 1 + e) 8 (c ^^^ b32 (rd l i)) (by omega)
    rw [show (8 : Int) - ((8 : Nat) : Int) = 0 from by omega] at h8
    rw [h8, wrap_one (n := l.length) (by omega) (by omega) hl, show ((i : Int) + 1) = ((i + 1 : Nat) : Int) from by omega, ih e (i + 1) _ (by omega), drop_rd l i (by omega)]
    rfl
theorem ref_sum (l : List Int) (hl : l.length ≤ 140737488355328) (k : Nat) (hk : 10 * l.length + 1 ≤ k) : dragnetref01_Sum.f k l = some (u32 (sum 0#32 l)) := by
  have h := ref_l0 l hl l.length (k - (10 * l.length + 1)) 0 (~~~ 0#32) (by omega)
  rw [show 10 * l.length + 1 + (k - (10 * l.length + 1)) = k from by omega] at h
  have e : u32 (~~~ 0#32) = 4294967295 := by decide
  rw [e] at h
  exact h
def Bytes (l : List Int) : Prop := ∀ x ∈ l, 0 ≤ x ∧ x < 256
theorem same_refl (l : List Int) : dragnetref01_Same.f l l = some true := by
  unfold dragnetref01_Same.f
  simp
def four (n : Int) : List Int := [n % 256, n / 256 % 256, n / 65536 % 256, n / 16777216 % 256]
theorem lay_f (l : List Int) (n : Int) (h : l.length + 4 < 140737488355328) : crc_lay.f l n = some (l ++ four n) := by
  unfold crc_lay.f
  rw [Option.bind_some, if_pos (by simpa using h)]
  rfl
def head (l : List Int) : List Int := four (l.length : Int)
def frame (l : List Int) : List Int := head l ++ l ++ four (u32 (sum 0#32 (head l ++ l)))
theorem wrap_f (l : List Int) (h : l.length ≤ 16777216) : crc_Wrap.f l = some (frame l, 0) := by
  have hw : wrap64 (wrap64 (4 + (l.length : Int)) + 4) = (l.length : Int) + 8 := by
    unfold wrap64
    omega
  have hm : (l.length : Int) % 4294967296 = l.length := by omega
  have hh : (head l).length = 4 := rfl
  unfold crc_Wrap.f
  rw [if_neg (by omega), hw, if_pos (by omega), if_pos (by omega), lay_f [] _ (by simp), hm]
  simp only [Option.bind_some, List.nil_append]
  rw [if_pos (by have : (four (l.length : Int)).length = 4 := rfl; omega)]
  rw [Sum_f, Option.bind_some, lay_f _ _ (by rw [List.length_append]; have : (four (l.length : Int)).length = 4 := rfl; omega)]
  rfl
theorem refFrame_f (l : List Int) (h : l.length ≤ 16777216) (k : Nat) (hk : 10 * l.length + 50 ≤ k) : dragnetref01_Frame.f k l = some (frame l) := by
  have hm : (l.length : Int) % 4294967296 = l.length := by omega
  have h4 : ∀ n, (four n).length = 4 := fun _ => rfl
  unfold dragnetref01_Frame.f
  rw [hm]
  show (some (four (l.length : Int))).bind _ = _
  simp only [Option.bind_some]
  rw [if_pos (by rw [h4]; omega), ref_sum _ (by rw [List.length_append, h4]; omega) k (by rw [List.length_append, h4]; omega)]
  simp only [Option.bind_some]
  show (some (four _)).bind _ = _
  simp only [Option.bind_some]
  rw [if_pos (by rw [List.length_append, h4, h4]; omega)]
  rfl
theorem Bytes.take {l : List Int} (h : Bytes l) (n : Nat) : Bytes (l.take n) := fun x hx => h x (List.mem_of_mem_take hx)
theorem Bytes.drop {l : List Int} (h : Bytes l) (n : Nat) : Bytes (l.drop n) := fun x hx => h x (List.mem_of_mem_drop hx)
theorem Bytes.append {l m : List Int} (h : Bytes l) (h' : Bytes m) : Bytes (l ++ m) := fun x hx => (List.mem_append.1 hx).elim (h x) (h' x)
def num (l : List Int) : Int := rd l 0 + rd l 1 * 256 + rd l 2 * 65536 + rd l 3 * 16777216
def first (l : List Int) : List Int × Int × Int :=
  if l.length < 8 then ([], 0, 3) else if num l > 16777216 then ([], 0, 5) else if num l > (l.length : Int) - 8 then ([], 0, 3) else
  if u32 (sum 0#32 (l.take (4 + (num l).toNat))) = num (l.drop (4 + (num l).toNat)) then ((l.take (4 + (num l).toNat)).drop 4, num l + 8, 0) else ([], 0, 4)
theorem same18_l0 (l : List S63) (a b : Int) (hl : l.length ≤ 140737488355328) (n : Nat) : ∀ (e i : Nat), i + n = l.length → dragnetref18_Same.l0 (n + 1 + e) (i : Int) l a b l a b = some true := by
  induction n with
  | zero =>
    intro e i h
    rw [show 0 + 1 + e = e + 1 by omega, dragnetref18_Same.l0, if_neg (by omega)]
  | succ n ih =>
    intro e i h
    rw [show n + 1 + 1 + e = (n + 1 + e) + 1 by omega, dragnetref18_Same.l0, if_pos (by omega), if_pos (by omega), if_pos (by omega), if_neg (by simp), show wrap64 ((i : Int) + 1) = ((i + 1 : Nat) : Int) by unfold wrap64; omega]
    exact ih e (i + 1) (by omega)
theorem bytesC_len {l : List S63} {a b : Int} (h : FormedC l a b) : (bytesC l a b).length ≤ 3000 := by
  have h1 := accB_length h l.length (Nat.le_refl _)
  have h2 := h.1
  have h3 := (putB_length h.2.1 (by have := h.2.2.1; omega)).2
  have h4 := (putB_length h.2.2.2.1 (by have := h.2.2.2.2.1; omega)).2
  unfold bytesC
  rw [List.length_append, List.length_append]
  omega
theorem dec_length (k : Nat) : ∀ u, u < 10 ^ (k + 1) → (Lib.decDigits u).length ≤ k + 1 := by
  induction k with
  | zero =>
    intro u h
    rw [Lib.decDigits_one (by omega)]
    exact Nat.le_refl 1
  | succ k ih =>
    intro u h
    rw [Lib.decDigits]
    by_cases h1 : u < 10
    · rw [dif_pos h1]
      exact Nat.succ_le_succ (Nat.zero_le _)
    · rw [dif_neg h1, List.length_append]
      have := ih (u / 10) (by rw [Nat.pow_succ] at h; omega)
      rw [List.length_singleton]
      omega
def nameM (n : Int) : ByteArray := if n < 0 then ⟨#[]⟩ else if n > 2147483647 then ⟨#[]⟩ else (⟨#[115]⟩ : ByteArray) ++ ⟨(Lib.decDigits n.toNat).toArray⟩
theorem name_f (n : Int) : manifest_Name.f n = some (nameM n) := by
  unfold manifest_Name.f nameM
  by_cases h1 : n < 0
  · rw [if_pos h1, if_pos h1]
  · rw [if_neg h1, if_neg h1]
    by_cases h2 : n > 2147483647
    · rw [if_pos h2, if_pos h2]
    · rw [if_neg h2, if_neg h2]
      unfold strconv_Itoa.f
      have e : Lib.itoa n = Lib.decDigits n.toNat := by unfold Lib.itoa; rw [if_neg h1]
      have hl := dec_length 9 n.toNat (by omega)
      rw [if_pos ⟨by omega, by omega⟩, Option.bind_some, e, if_pos (by show 1 + (Lib.decDigits n.toNat).toArray.size ≤ _; rw [List.size_toArray]; omega)]
theorem name_list {n : Int} (h0 : 0 ≤ n) (h1 : n ≤ 2147483647) : (nameM n).toList = 115 :: Lib.decDigits n.toNat := by
  unfold nameM
  rw [if_neg (by omega), if_neg (by omega), Lib.toList_data, ByteArray.data_append]
  simp
def QCh (l : List S63) (a b : Int) : Prop := (l.length * Tryd.prog.bytesOf 63 ≤ 140737488351232 ∧ ∀ x ∈ l, (Lit.int .i64 x.f0).wf = true ∧ (Lit.int .i64 x.f1).wf = true ∧ (Lit.int .i64 x.f2).wf = true ∧ (Lit.int .i64 x.f3).wf = true) ∧ (Lit.int .i64 a).wf = true ∧ (Lit.int .i64 b).wf = true
theorem QCh_len {l : List S63} {a b : Int} (h : QCh l a b) : l.length * 32 ≤ 140737488351232 := by
  have e : Tryd.prog.bytesOf 63 = 32 := by kernel_rfl
  have := h.1.1
  rw [e] at this
  exact this
end Go.Proofs.YtdcifmonhaklcaaDoor.Q
