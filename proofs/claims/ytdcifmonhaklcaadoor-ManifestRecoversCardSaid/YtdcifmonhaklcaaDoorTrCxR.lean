/- Walks by hand. -/
import Derived.Test.YtdcifmonhaklcaaDoorTrRx2
import Derived.Test.YtdcifmonhaklcaaDoorTrRx3
import Derived.Test.YtdcifmonhaklcaaDoorTrRx4
import Derived.Test.YtdcifmonhaklcaaDoorTrRx6
import Derived.Test.YtdcifmonhaklcaaDoorTrRx8
import Derived.Test.YtdcifmonhaklcaaDoorTrRx11
import Derived.Test.YtdcifmonhaklcaaDoorTrRx12
import Derived.Laws.BitsAllLaws
namespace Go.Proofs.YtdcifmonhaklcaaDoor.R
open Go.RowKit YtdcifmonhaklcaaDoorW.PrintWords YtdcifmonhaklcaaDoorW.PrintLast YtdcifmonhaklcaaDoorW.PrintMore
attribute [local go_sem] min2_int min_two
set_option linter.unusedVariables false
set_option linter.unusedSimpArgs false
def u32 (c : BitVec 32) : Int := (c.toNat : Int)
def b32 (x : Int) : BitVec 32 := BitVec.ofInt 32 x
theorem B_N (c : BitVec 32) : b32 (u32 c) = c := by
 unfold b32 u32
 rw [BitVec.ofInt_natCast, BitVec.ofNat_toNat, BitVec.setWidth_eq]
theorem N_lt (c : BitVec 32) : 0 ≤ u32 c ∧ u32 c < 4294967296 := by
 have : c.toNat < 4294967296 := c.isLt
 unfold u32
 omega
theorem xorN (x y : Int) : Go.bits .xor .u32 x y = u32 (b32 x ^^^ b32 y) := by
 show IntKind.u32.wrap ((b32 x ^^^ b32 y).toNat : Int) = _
 have h := N_lt (b32 x ^^^ b32 y)
 unfold u32 at h ⊢
 rw [IntKind.wrap_u32']
 omega
theorem B_mod (x : Int) : b32 (x % 4294967296) = b32 x := by
 unfold b32
 apply BitVec.eq_of_toInt_eq
 rw [BitVec.toInt_ofInt, BitVec.toInt_ofInt]
 show Int.bmod (x % (2 ^ 32 : Nat)) (2 ^ 32) = _
 exact Int.emod_bmod _ _
def poly : BitVec 32 := 0x82f63b78#32
def step (c : BitVec 32) : BitVec 32 := (c >>> 1) ^^^ (if c.getLsbD 0 = true then poly else 0#32)
theorem step_xor (a b : BitVec 32) : step (a ^^^ b) = step a ^^^ step b := by
 unfold step
 rw [BitVec.ushiftRight_xor_distrib, BitVec.getLsbD_xor]
 generalize a >>> 1 = x
 generalize b >>> 1 = y
 cases a.getLsbD 0 <;> cases b.getLsbD 0
 ·simp
 ·show x ^^^ y ^^^ poly = x ^^^ 0#32 ^^^ (y ^^^ poly)
  rw [BitVec.xor_zero, BitVec.xor_assoc]
 ·show x ^^^ y ^^^ poly = x ^^^ poly ^^^ (y ^^^ 0#32)
  rw [BitVec.xor_zero, BitVec.xor_assoc, BitVec.xor_assoc, BitVec.xor_comm y poly]
 ·show x ^^^ y ^^^ 0#32 = x ^^^ poly ^^^ (y ^^^ poly)
  rw [BitVec.xor_zero, BitVec.xor_comm y poly, BitVec.xor_assoc, ← BitVec.xor_assoc poly poly y, BitVec.xor_self, BitVec.zero_xor]
theorem step_zero : step 0#32 = 0#32 := by decide
def steps : Nat → BitVec 32 → BitVec 32
 | 0, c => c
 | n + 1, c => steps n (step c)
theorem steps_xor (n : Nat) : ∀ a b, steps n (a ^^^ b) = steps n a ^^^ steps n b := by
 induction n with
 | zero => intro a b; rfl
 | succ n ih => intro a b; simp only [steps]; rw [step_xor, ih]
theorem steps_zero (n : Nat) : steps n 0#32 = 0#32 := by
 induction n with
 | zero => rfl
 | succ n ih => simp only [steps]; rw [step_zero, ih]
theorem steps_add (m n : Nat) : ∀ c, steps (m + n) c = steps n (steps m c) := by
 induction m with
 | zero => intro c; rw [Nat.zero_add]; rfl
 | succ m ih => intro c; rw [Nat.succ_add]; exact ih _
theorem step_shl (c : BitVec 32) (h : c.getLsbD 31 = false) : step (c <<< 1) = c := by
 unfold step
 have e : (c <<< 1).getLsbD 0 = false := by rw [BitVec.getLsbD_shiftLeft]; simp
 rw [e]
 apply BitVec.eq_of_getLsbD_eq
 intro i hi
 rw [if_neg (by simp), BitVec.xor_zero, BitVec.getLsbD_ushiftRight, BitVec.getLsbD_shiftLeft]
 by_cases h31 : i = 31
 ·subst h31
  rw [h]
  rfl
 ·have : 1 + i < 32 := by omega
  simp [this]
theorem steps_shl (n : Nat) : ∀ c : BitVec 32, (∀ i, 32 - n ≤ i → c.getLsbD i = false) → steps n (c <<< n) = c := by
 induction n with
 | zero => intro c _; simp [steps]
 | succ n ih =>
  intro c h
  show steps n (step (c <<< (n + 1))) = c
  by_cases hn : n < 32
  ·rw [BitVec.shiftLeft_add, step_shl, ih]
   ·intro i hi
    exact h i (by omega)
   ·rw [BitVec.getLsbD_shiftLeft]
    by_cases h2 : 31 < n
    ·omega
    ·rw [h (31 - n) (by omega)]
     simp
  ·have hz : c = 0#32 := BitVec.eq_of_getLsbD_eq (fun i hi => by rw [h i (by omega)]; simp)
   subst hz
   rw [BitVec.zero_shiftLeft, step_zero, steps_zero]
theorem table : ∀ r : Fin 16, steps 4 (BitVec.ofNat 32 r.val) = b32 (rd halvesL (r.val : Int)) := by decide
theorem half (c : BitVec 32) : crcHalf (u32 c) = u32 (steps 4 c) := by
 have hand : Go.bits .and .u32 (u32 c) 15 = u32 (c &&& 15#32) := by
  show IntKind.u32.wrap ((b32 (u32 c) &&& BitVec.ofInt 32 15).toNat : Int) = _
  rw [B_N, show BitVec.ofInt 32 15 = 15#32 from by decide]
  have h := N_lt (c &&& 15#32)
  unfold u32 at h ⊢
  rw [IntKind.wrap_u32']
  omega
 have hdiv : u32 c / (16 : Int) = u32 (c >>> 4) := by
  unfold u32
  rw [BitVec.toNat_ushiftRight, Nat.shiftRight_eq_div_pow]
  rfl
 have hr : (c &&& 15#32).toNat < 16 := by
  rw [BitVec.toNat_and]
  exact Nat.lt_of_le_of_lt Nat.and_le_right (by decide)
 have ht := table ⟨(c &&& 15#32).toNat, hr⟩
 simp only at ht
 rw [BitVec.ofNat_toNat, BitVec.setWidth_eq] at ht
 have hsplit : c = (c >>> 4) <<< 4 ^^^ (c &&& 15#32) := by
  apply BitVec.eq_of_getLsbD_eq
  intro i hi
  rw [BitVec.getLsbD_xor, BitVec.getLsbD_shiftLeft, BitVec.getLsbD_ushiftRight, BitVec.getLsbD_and]
  by_cases h4 : i < 4
  ·have : (15#32).getLsbD i = true := by
    have : i = 0 ∨ i = 1 ∨ i = 2 ∨ i = 3 := by omega
    rcases this with rfl | rfl | rfl | rfl <;> decide
   simp [h4, this]
  ·have : (15#32).getLsbD i = false := by
    rw [BitVec.getLsbD_ofNat]
    have : Nat.testBit 15 i = false := Nat.testBit_lt_two_pow (Nat.lt_of_lt_of_le (by decide : 15 < 2 ^ 4) (Nat.pow_le_pow_right (by decide) (by omega)))
    simp [this]
   have e : 4 + (i - 4) = i := by omega
   rw [this]
   simp [h4, hi, e]
 have hs : steps 4 c = (c >>> 4) ^^^ b32 (rd halvesL (u32 (c &&& 15#32))) := by
  show _ = (c >>> 4) ^^^ b32 (rd halvesL ((c &&& 15#32).toNat : Int))
  have h4 := steps_shl 4 (c >>> 4) (fun i hi => by rw [BitVec.getLsbD_ushiftRight]; exact BitVec.getLsbD_of_ge _ _ (by omega))
  rw [← ht]
  conv => lhs; rw [hsplit, steps_xor, h4]
 unfold crcHalf
 rw [hand, hdiv, xorN, B_N, hs]
def byte (c : BitVec 32) (x : Int) : BitVec 32 := steps 8 (c ^^^ b32 x)
def run (c : BitVec 32) (l : List Int) : BitVec 32 := l.foldl byte c
theorem crcStep_N (c : BitVec 32) (x : Int) : crcStep (u32 c) x = u32 (byte c x) := by
 unfold crcStep byte
 rw [xorN, B_N, B_mod, half, half, ← steps_add]
theorem fold_N (l : List Int) : ∀ c, l.foldl crcStep (u32 c) = u32 (run c l) := by
 induction l with
 | nil => intro c; rfl
 | cons x l ih => intro c; simp only [List.foldl_cons, run]; rw [crcStep_N, ih]; rfl
theorem not_N (c : Int) : crcNot c = u32 (~~~ b32 c) := by
 unfold crcNot
 have : b32 IntKind.u32.max = BitVec.allOnes 32 := by decide
 rw [xorN, this, BitVec.allOnes_xor]
def sum (c : BitVec 32) (l : List Int) : BitVec 32 := ~~~ run (~~~ c) l
theorem more_N (c : Int) (l : List Int) : crcMore c l = u32 (sum (b32 c) l) := by
 unfold crcMore sum
 rw [not_N c, fold_N, not_N, B_N]
theorem B_zero : b32 0 = 0#32 := by decide
theorem Sum_f (l : List Int) : crc_Sum.f l = some (u32 (sum 0#32 l)) := by
 unfold crc_Sum.f crc_More.f
 rw [more_N, B_zero, Option.bind_some]
theorem N_odd (c : BitVec 32) : (Int.tmod (u32 c) 2 = 1) ↔ c.getLsbD 0 = true := by
 have h : Int.tmod (u32 c) 2 = ((c.toNat % 2 : Nat) : Int) := by
  unfold u32
  exact (Int.ofNat_tmod c.toNat 2).symm
 rw [h]
 show _ ↔ c.toNat.testBit 0 = true
 rw [Nat.testBit_zero]
 simp only [decide_eq_true_eq]
 omega
theorem N_half (c : BitVec 32) : Int.tdiv (u32 c) 2 % (4294967296 : Int) = u32 (c >>> 1) := by
 have h : Int.tdiv (u32 c) 2 = ((c.toNat / 2 : Nat) : Int) := by
  unfold u32
  exact (Int.ofNat_tdiv c.toNat 2).symm
 have h2 : u32 (c >>> 1) = ((c.toNat / 2 : Nat) : Int) := by
  unfold u32
  rw [BitVec.toNat_ushiftRight, Nat.shiftRight_eq_div_pow]
 have h3 := N_lt c
 unfold u32 at h3
 rw [h, h2]
 omega
theorem N_not (c : BitVec 32) : (4294967295 - u32 c) % 4294967296 = u32 (~~~ c) := by
 have h := N_lt c
 unfold u32 at h ⊢
 rw [BitVec.toNat_not]
 omega
theorem poly_B : b32 2197175160 = poly := by decide
theorem wrap_one {i : Int} {n : Nat} (h0 : 0 ≤ i) (h1 : i ≤ n) (hn : n ≤ 140737488355328) : wrap64 (i + 1) = i + 1 := by
 unfold wrap64
 omega
theorem ref_l1 (l : List Int) (x4 : Int) (k : Nat) (j : Nat) : ∀ c, j ≤ 8 → dragnetref01_Sum.l1 (k + j + 1) l (u32 c) x4 (8 - j) = dragnetref01_Sum.l0 k l (u32 (steps j c)) (wrap64 (x4 + 1)) := by
 induction j with
 | zero =>
  intro c _
  simp only [dragnetref01_Sum.l1]
  rw [if_neg (by omega)]
  rfl
 | succ j ih =>
  intro c hj
  rw [show k + (j + 1) + 1 = (k + j + 1) + 1 from by omega, dragnetref01_Sum.l1, if_pos (by omega)]
  have hw : wrap64 (8 - ((j + 1 : Nat) : Int) + 1) = 8 - (j : Int) := by
   unfold wrap64
   omega
  rw [hw]
  by_cases h : c.getLsbD 0 = true
  ·rw [if_pos ((N_odd c).2 h), N_half, xorN, B_N, poly_B]
   have e : (c >>> 1) ^^^ poly = step c := by
    unfold step
    rw [if_pos h]
   rw [e, ih _ (by omega)]
   rfl
  ·rw [if_neg (fun z => h ((N_odd c).1 z)), N_half]
   have e : (c >>> 1) = step c := by
    unfold step
    rw [if_neg h, BitVec.xor_zero]
   rw [e, ih _ (by omega)]
   rfl
theorem drop_rd (l : List Int) (i : Nat) (h : i < l.length) : l.drop i = rd l i :: l.drop (i + 1) := by
 rw [List.drop_eq_getElem_cons h]
 simp [rd, h]
theorem ref_l0 (l : List Int) (hl : l.length ≤ 140737488355328) (n : Nat) : ∀ (e i : Nat) c, i + n = l.length → dragnetref01_Sum.l0 (10 * n + 1 + e) l (u32 c) i = some (u32 (~~~ run c (l.drop i))) := by
 induction n with
 | zero =>
  intro e i c hi
  rw [show 10 * 0 + 1 + e = e + 1 from by omega]
  simp only [dragnetref01_Sum.l0]
  rw [if_neg (by omega), N_not, List.drop_of_length_le (by omega)]
  rfl
 | succ n ih =>
  intro e i c hi
  rw [show 10 * (n + 1) + 1 + e = ((10 * n + 1 + e) + 8 + 1) + 1 from by omega]
  simp only [dragnetref01_Sum.l0]
  rw [if_pos (by omega), if_pos (by omega), xorN, B_N, B_mod]
  have h8 := ref_l1 l i (10 * n + 1 + e) 8 (c ^^^ b32 (rd l i)) (by omega)
  rw [show (8 : Int) - ((8 : Nat) : Int) = 0 from by omega] at h8
  rw [h8, wrap_one (n := l.length) (by omega) (by omega) hl, show ((i : Int) + 1) = ((i + 1 : Nat) : Int) from by omega, ih e (i + 1) _ (by omega), drop_rd l i (by omega)]
  rfl
theorem ref_sum (l : List Int) (hl : l.length ≤ 140737488355328) (k : Nat) (hk : 10 * l.length + 1 ≤ k) : dragnetref01_Sum.f k l = some (u32 (sum 0#32 l)) := by
 have h := ref_l0 l hl l.length (k - (10 * l.length + 1)) 0 (~~~ 0#32) (by omega)
 rw [show 10 * l.length + 1 + (k - (10 * l.length + 1)) = k from by omega] at h
 have e : u32 (~~~ 0#32) = 4294967295 := by decide
 rw [e] at h
 exact h
def Bytes (l : List Int) : Prop := ∀ x ∈ l, 0 ≤ x ∧ x < 256
theorem bytes_of_wf {l : List Int} (h : ∀ x ∈ l, (Lit.int .u8 x).wf = true) : Bytes l := by
 intro x hx
 have := h x hx
 simp [Lit.wf, IntKind.min, IntKind.max, IntKind.signed, IntKind.bits] at this
 omega
theorem copy_f (l : List Int) (h : l.length < 140737488355328) : dragnetref01_Copy.f l = some l := by
 unfold dragnetref01_Copy.f
 rw [Option.bind_some, if_pos (by simpa using h)]
 rfl
def four (n : Int) : List Int := [n % 256, n / 256 % 256, n / 65536 % 256, n / 16777216 % 256]
def head (l : List Int) : List Int := four (l.length : Int)
def frame (l : List Int) : List Int := head l ++ l ++ four (u32 (sum 0#32 (head l ++ l)))
theorem refFrame_f (l : List Int) (h : l.length ≤ 16777216) (k : Nat) (hk : 10 * l.length + 50 ≤ k) : dragnetref01_Frame.f k l = some (frame l) := by
 have hm : (l.length : Int) % 4294967296 = l.length := by omega
 have h4 : ∀ n, (four n).length = 4 := fun _ => rfl
 unfold dragnetref01_Frame.f
 rw [hm]
 show (some (four (l.length : Int))).bind _ = _
 simp only [Option.bind_some]
 rw [if_pos (by rw [h4]; omega), ref_sum _ (by rw [List.length_append, h4]; omega) k (by rw [List.length_append, h4]; omega)]
 simp only [Option.bind_some]
 show (some (four _)).bind _ = _
 simp only [Option.bind_some]
 rw [if_pos (by rw [List.length_append, h4, h4]; omega)]
 rfl
theorem wid {x : Int} (h0 : -9223372036854775808 ≤ x) (h1 : x ≤ 9223372036854775807) : wrap64 x = x := by
 unfold wrap64
 omega
theorem rd_bytes {l : List Int} (h : Bytes l) (i : Int) : 0 ≤ rd l i ∧ rd l i < 256 := by
 unfold rd
 rw [List.getD_eq_getElem?_getD]
 by_cases hi : i.toNat < l.length
 ·rw [List.getElem?_eq_getElem hi]
  exact h _ (List.getElem_mem hi)
 ·rw [List.getElem?_eq_none (by omega)]
  decide
theorem Bytes.take {l : List Int} (h : Bytes l) (n : Nat) : Bytes (l.take n) := fun x hx => h x (List.mem_of_mem_take hx)
theorem Bytes.drop {l : List Int} (h : Bytes l) (n : Nat) : Bytes (l.drop n) := fun x hx => h x (List.mem_of_mem_drop hx)
theorem Bytes.append {l m : List Int} (h : Bytes l) (h' : Bytes m) : Bytes (l ++ m) := fun x hx => (List.mem_append.1 hx).elim (h x) (h' x)
theorem four_bytes (n : Int) : Bytes (four n) := by
 intro x hx
 simp only [four, List.mem_cons, List.not_mem_nil, or_false] at hx
 omega
def num (l : List Int) : Int := rd l 0 + rd l 1 * 256 + rd l 2 * 65536 + rd l 3 * 16777216
theorem num_range {l : List Int} (h : Bytes l) : 0 ≤ num l ∧ num l < 4294967296 := by
 have h0 := rd_bytes h 0
 have h1 := rd_bytes h 1
 have h2 := rd_bytes h 2
 have h3 := rd_bytes h 3
 unfold num
 omega
theorem num_four {x : Int} (h0 : 0 ≤ x) (h1 : x < 4294967296) : num (four x) = x := by
 show x % 256 + x / 256 % 256 * 256 + x / 65536 % 256 * 65536 + x / 16777216 % 256 * 16777216 = x
 omega
theorem four_num {l : List Int} (h : Bytes l) (hl : 4 ≤ l.length) : four (num l) = l.take 4 := by
 match l, hl with
 | a :: b :: c :: d :: r, _ =>
  have ha := h a (by simp)
  have hb := h b (by simp)
  have hc := h c (by simp)
  have hd := h d (by simp)
  show [(a + b * 256 + c * 65536 + d * 16777216) % 256, (a + b * 256 + c * 65536 + d * 16777216) / 256 % 256, (a + b * 256 + c * 65536 + d * 16777216) / 65536 % 256, (a + b * 256 + c * 65536 + d * 16777216) / 16777216 % 256] = [a, b, c, d]
  have e0 : (a + b * 256 + c * 65536 + d * 16777216) % 256 = a := by omega
  have e1 : (a + b * 256 + c * 65536 + d * 16777216) / 256 % 256 = b := by omega
  have e2 : (a + b * 256 + c * 65536 + d * 16777216) / 65536 % 256 = c := by omega
  have e3 : (a + b * 256 + c * 65536 + d * 16777216) / 16777216 % 256 = d := by omega
  rw [e0, e1, e2, e3]
theorem or_add (i : Nat) (x y : Int) (h0 : 0 ≤ x) (h1 : x < 2 ^ i) (h2 : 0 ≤ y) (h3 : y * 2 ^ i < 4294967296) (h4 : x < 4294967296) : Go.bits .or .u32 x (y * 2 ^ i) = x + y * 2 ^ i := by
 obtain ⟨a, rfl⟩ := Int.eq_ofNat_of_zero_le h0
 obtain ⟨b, rfl⟩ := Int.eq_ofNat_of_zero_le h2
 have e : ((b : Int) * 2 ^ i) = ((b * 2 ^ i : Nat) : Int) := by simp
 have h1' : a < 2 ^ i := by
  have : ((2 ^ i : Nat) : Int) = 2 ^ i := by simp
  omega
 rw [e] at h3 ⊢
 rw [u32_or _ _ (by omega) (by omega) (by omega) (by omega)]
 rw [Int.toNat_natCast, Int.toNat_natCast]
 have := Nat.shiftLeft_add_eq_or_of_lt h1' b
 rw [Nat.shiftLeft_eq] at this
 rw [Nat.or_comm, ← this]
 omega
theorem number_f {l : List Int} (h : Bytes l) (hl : 4 ≤ l.length) : crc_number.f l = some (num l) := by
 have h0 := rd_bytes h 0
 have h1 := rd_bytes h 1
 have h2 := rd_bytes h 2
 have h3 := rd_bytes h 3
 unfold crc_number.f num
 rw [if_pos (by omega), if_pos (by omega), if_pos (by omega), if_pos (by omega)]
 have m0 : rd l 0 % 4294967296 = rd l 0 := by omega
 have m1 : rd l 1 % 4294967296 * 256 % 4294967296 = rd l 1 * 2 ^ 8 := by omega
 have m2 : rd l 2 % 4294967296 * 65536 % 4294967296 = rd l 2 * 2 ^ 16 := by omega
 have m3 : rd l 3 % 4294967296 * 16777216 % 4294967296 = rd l 3 * 2 ^ 24 := by omega
 rw [m0, m1, m2, m3, or_add 8 _ _ (by omega) (by omega) (by omega) (by omega) (by omega), or_add 16 _ _ (by omega) (by omega) (by omega) (by omega) (by omega), or_add 24 _ _ (by omega) (by omega) (by omega) (by omega) (by omega)]
 congr 1
theorem length_f {l : List Int} (h : Bytes l) (hl : 4 ≤ l.length) : dragnetref01_length.f l = some (num l) := by
 have h0 := rd_bytes h 0
 have h1 := rd_bytes h 1
 have h2 := rd_bytes h 2
 have h3 := rd_bytes h 3
 unfold dragnetref01_length.f num
 rw [if_pos (by omega), if_pos (by omega), if_pos (by omega), if_pos (by omega)]
 rw [wid (x := rd l 0) (by omega) (by omega), wid (x := rd l 1) (by omega) (by omega), wid (x := rd l 2) (by omega) (by omega), wid (x := rd l 3) (by omega) (by omega)]
 rw [wid (x := rd l 1 * 256) (by omega) (by omega), wid (x := rd l 2 * 65536) (by omega) (by omega), wid (x := rd l 3 * 16777216) (by omega) (by omega)]
 rw [wid (x := rd l 0 + rd l 1 * 256) (by omega) (by omega), wid (x := rd l 0 + rd l 1 * 256 + rd l 2 * 65536) (by omega) (by omega), wid (by omega) (by omega)]
theorem map_inj {a b : List Int} (ha : Bytes a) (hb : Bytes b) (h : (a.map fun n => UInt8.ofNat n.toNat) = b.map fun n => UInt8.ofNat n.toNat) : a = b := by
 induction a generalizing b with
 | nil =>
  cases b with
  | nil => rfl
  | cons y b => simp at h
 | cons x a ih =>
  cases b with
  | nil => simp at h
  | cons y b =>
   simp only [List.map_cons, List.cons.injEq] at h
   have hx := ha x (by simp)
   have hy := hb y (by simp)
   have h1 := congrArg UInt8.toNat h.1
   rw [UInt8.toNat_ofNat', UInt8.toNat_ofNat'] at h1
   have : x = y := by omega
   rw [this, ih (fun z hz => ha z (List.mem_cons_of_mem _ hz)) (fun z hz => hb z (List.mem_cons_of_mem _ hz)) h.2]
theorem same_f {a b : List Int} (ha : Bytes a) (hb : Bytes b) : dragnetref01_Same.f a b = some (decide (a = b)) := by
 unfold dragnetref01_Same.f
 congr 1
 have ea : (strOfNums a).toList = a.map fun n => UInt8.ofNat n.toNat := ByteArray.toList_mk _
 have eb : (strOfNums b).toList = b.map fun n => UInt8.ofNat n.toNat := ByteArray.toList_mk _
 rw [ea, eb]
 by_cases h : a = b
 ·subst h
  simp
 ·rw [decide_eq_false h]
  rw [beq_eq_false_iff_ne]
  exact fun e => h (map_inj ha hb e)
def first (l : List Int) : List Int × Int × Int :=
 if l.length < 8 then ([], 0, 3) else if num l > 16777216 then ([], 0, 5) else if num l > (l.length : Int) - 8 then ([], 0, 3) else
 if u32 (sum 0#32 (l.take (4 + (num l).toNat))) = num (l.drop (4 + (num l).toNat)) then ((l.take (4 + (num l).toNat)).drop 4, num l + 8, 0) else ([], 0, 4)
def shape (l : List Int) : Int × Int :=
 if l.length < 8 then (0, 3) else if num l > 16777216 then (0, 5) else if num l > (l.length : Int) - 8 then (0, 3) else (num l, 0)
theorem shape_f {l : List Int} (h : Bytes l) (hl : l.length ≤ 140737488355328) : crc_shape.f l = some (shape l) := by
 unfold crc_shape.f shape
 by_cases h8 : l.length < 8
 ·rw [if_pos (by omega), if_pos h8]
 ·have hn := num_range h
  rw [if_neg (by omega), if_neg h8, number_f h (by omega), Option.bind_some, wid (by omega) (by omega), wid (x := (l.length : Int) - 4) (by omega) (by omega), wid (x := (l.length : Int) - 4 - 4) (by omega) (by omega)]
  by_cases h1 : num l > 16777216
  ·rw [if_pos h1, if_pos h1]
  ·rw [if_neg h1, if_neg h1]
   by_cases h2 : num l > (l.length : Int) - 8
   ·rw [if_pos (by omega), if_pos h2]
   ·rw [if_neg (by omega), if_neg h2]
theorem first_f {l : List Int} (h : Bytes l) (hl : l.length < 140737488355328) : crc_First.f l = some (first l) := by
 unfold crc_First.f
 rw [shape_f h (by omega), Option.bind_some]
 unfold shape first
 by_cases h8 : l.length < 8
 ·rw [if_pos h8, if_pos h8]
  rfl
 ·have hn := num_range h
  rw [if_neg h8, if_neg h8]
  by_cases h1 : num l > 16777216
  ·rw [if_pos h1, if_pos h1]
   rfl
  ·rw [if_neg h1, if_neg h1]
   by_cases h2 : num l > (l.length : Int) - 8
   ·rw [if_pos h2, if_pos h2]
    rfl
   ·rw [if_neg h2, if_neg h2]
    simp only []
    obtain ⟨m, hm⟩ := Int.eq_ofNat_of_zero_le hn.1
    rw [hm] at h1 h2 ⊢
    rw [if_pos trivial, wid (x := 4 + (m : Int)) (by omega) (by omega), if_pos (by omega), if_pos (by omega), Sum_f, Option.bind_some, show (4 + (m : Int)).toNat = 4 + m from by omega, number_f (h.drop _) (by rw [List.length_drop]; omega), Option.bind_some, Int.toNat_natCast]
    by_cases e : u32 (sum 0#32 (l.take (4 + m))) = num (l.drop (4 + m))
    ·rw [if_pos e, if_pos e, if_pos (by omega)]
     unfold slices_Clone_byte_byte.f
     rw [if_pos (by rw [List.length_drop, List.length_take]; omega), Option.bind_some, wid (by omega) (by omega)]
     rw [show 4 + (m : Int) + 4 = (m : Int) + 8 from by omega]
    ·rw [if_neg e, if_neg e]
theorem frame_first {l : List Int} (h : Bytes l) (m : Nat) (hm : num l = m) (h1 : m ≤ 16777216) (h2 : m + 8 ≤ l.length) :
  decide (frame ((l.take (4 + m)).drop 4) = l.take (m + 8)) = decide (u32 (sum 0#32 (l.take (4 + m))) = num (l.drop (4 + m))) := by
 have hp : ((l.take (4 + m)).drop 4).length = m := by
  rw [List.length_drop, List.length_take]
  omega
 have h4 := four_num h (by omega)
 have hb : head ((l.take (4 + m)).drop 4) ++ (l.take (4 + m)).drop 4 = l.take (4 + m) := by
  unfold head
  rw [hp, ← hm, h4]
  have : l.take 4 = (l.take (4 + m)).take 4 := by
   rw [List.take_take]
   congr 1
   omega
  rw [this, List.take_append_drop]
 have ht : l.take (m + 8) = l.take (4 + m) ++ (l.drop (4 + m)).take 4 := by
  rw [← List.take_add]
  congr 1
  omega
 have hd := four_num (h.drop (4 + m)) (by rw [List.length_drop]; omega)
 have hr := num_range (h.drop (4 + m))
 have hs := N_lt (sum 0#32 (l.take (4 + m)))
 unfold frame
 rw [hb, ht, ← hd]
 by_cases e : u32 (sum 0#32 (l.take (4 + m))) = num (l.drop (4 + m))
 ·rw [decide_eq_true e, e]
  simp
 ·rw [decide_eq_false e]
  apply decide_eq_false
  intro z
  have z2 := List.append_cancel_left z
  have z3 := congrArg num z2
  rw [num_four hs.1 hs.2, num_four hr.1 hr.2] at z3
  exact e z3
theorem frame_bytes {l : List Int} (h : Bytes l) : Bytes (frame l) := by
 unfold frame head
 exact ((four_bytes _).append h).append (four_bytes _)
theorem refFirst_f {l : List Int} (h : Bytes l) (hl : l.length < 140737488355328) (k : Nat) (hk : 10 * l.length + 50 ≤ k) : dragnetref01_First.f k l = some (first l) := by
 unfold dragnetref01_First.f first
 by_cases h8 : l.length < 8
 ·rw [if_pos (by omega), if_pos h8]
 ·have hn := num_range h
  rw [if_neg (by omega), if_neg h8, length_f h (by omega), Option.bind_some, wid (x := (l.length : Int) - 8) (by omega) (by omega)]
  by_cases h1 : num l > 16777216
  ·rw [if_pos h1, if_pos h1]
  ·rw [if_neg h1, if_neg h1]
   by_cases h2 : num l > (l.length : Int) - 8
   ·rw [if_pos h2, if_pos h2]
   ·rw [if_neg h2, if_neg h2]
    obtain ⟨m, hm⟩ := Int.eq_ofNat_of_zero_le hn.1
    rw [hm] at h1 h2 ⊢
    have hp : ((l.take (4 + m)).drop 4).length = m := by
     rw [List.length_drop, List.length_take]
     omega
    rw [wid (x := 4 + (m : Int)) (by omega) (by omega), if_pos (by omega), if_pos (by omega), show (4 + (m : Int)).toNat = 4 + m from by omega, copy_f _ (by rw [hp]; omega), Option.bind_some, refFrame_f _ (by rw [hp]; omega) k (by rw [hp]; omega), Option.bind_some]
    rw [wid (x := (m : Int) + 8) (by omega) (by omega), if_pos (by omega), if_pos (by omega), show ((m : Int) + 8).toNat = m + 8 from by omega, same_f (frame_bytes ((h.take _).drop _)) (h.take _), Option.bind_some, frame_first h m hm (by omega) (by omega), Int.toNat_natCast]
    by_cases e : u32 (sum 0#32 (l.take (4 + m))) = num (l.drop (4 + m))
    ·rw [if_pos (decide_eq_true e), if_pos e]
    ·rw [if_neg (by rw [decide_eq_false e]; simp), if_neg e]
def unwrap (l : List Int) : List Int × Int :=
 if 8 ≤ l.length ∧ num l < (l.length : Int) - 8 ∧ num l ≤ 16777216 then ([], 2) else ((first l).1, (first l).2.2)
theorem unwrap_f {l : List Int} (h : Bytes l) (hl : l.length < 140737488355328) : crc_Unwrap.f l = some (unwrap l) := by
 unfold crc_Unwrap.f
 rw [shape_f h (by omega), Option.bind_some, first_f h hl, Option.bind_some]
 unfold shape unwrap
 by_cases h8 : l.length < 8
 ·rw [if_pos h8, if_neg (show ¬ ((0 : Int), (3 : Int)).2 = 0 by decide), if_neg (by omega)]
 ·have hn := num_range h
  rw [if_neg h8]
  by_cases h1 : num l > 16777216
  ·rw [if_pos h1, if_neg (show ¬ ((0 : Int), (5 : Int)).2 = 0 by decide), if_neg (by omega)]
  ·rw [if_neg h1]
   by_cases h2 : num l > (l.length : Int) - 8
   ·rw [if_pos h2, if_neg (show ¬ ((0 : Int), (3 : Int)).2 = 0 by decide), if_neg (by omega)]
   ·rw [if_neg h2]
    simp only []
    rw [if_pos trivial, wid (x := 4 + num l) (by omega) (by omega), wid (by omega) (by omega)]
    by_cases h3 : num l < (l.length : Int) - 8
    ·rw [if_pos (by omega), if_pos (by omega)]
    ·rw [if_neg (by omega), if_neg (by omega)]
theorem refUnwrap_f {l : List Int} (h : Bytes l) (hl : l.length < 140737488355328) (k : Nat) (hk : 10 * l.length + 60 ≤ k) : dragnetref01_Unwrap.f k l = some (unwrap l) := by
 obtain ⟨m, rfl⟩ : ∃ m, k = m + 1 := ⟨k - 1, by omega⟩
 have hj : ∀ b, dragnetref01_Unwrap.j0 (m + 1) l b = if b = true then some ([], 2) else some ((first l).1, (first l).2.2) := fun b => by rw [dragnetref01_Unwrap.j0, refFirst_f h hl m (by omega), Option.bind_some]
 unfold dragnetref01_Unwrap.f
 rw [hj false, if_neg Bool.false_ne_true]
 unfold unwrap
 by_cases h8 : l.length < 8
 ·rw [if_neg (by omega), if_neg (by omega)]
 ·have hn := num_range h
  rw [if_pos (by omega), length_f h (by omega), Option.bind_some, wid (x := (l.length : Int) - 8) (by omega) (by omega)]
  by_cases h3 : num l < (l.length : Int) - 8
  ·rw [if_pos h3]
   by_cases h1 : num l ≤ 16777216
   ·rw [hj, if_pos (decide_eq_true h1), if_pos (by omega)]
   ·rw [hj, if_neg (by rw [decide_eq_false h1]; exact Bool.false_ne_true), if_neg (by omega)]
  ·rw [if_neg h3, if_neg (by omega)]
theorem unwrap_ok {l : List Int} (h : Bytes l) (e : (unwrap l).2 = 0) : ByteL (unwrap l).1 ∧ (unwrap l).1.length ≤ 16777216 := by
 unfold unwrap at e ⊢
 by_cases c : 8 ≤ l.length ∧ num l < (l.length : Int) - 8 ∧ num l ≤ 16777216
 ·rw [if_pos c] at e
  exact absurd e (by decide)
 ·rw [if_neg c] at e ⊢
  have hn := num_range h
  show ByteL (first l).1 ∧ (first l).1.length ≤ 16777216
  replace e : (first l).2.2 = 0 := e
  unfold first at e ⊢
  by_cases c1 : l.length < 8
  ·rw [if_pos c1] at e
   exact absurd e (by decide)
  ·rw [if_neg c1] at e ⊢
   by_cases c2 : num l > 16777216
   ·rw [if_pos c2] at e
    exact absurd e (by decide)
   ·rw [if_neg c2] at e ⊢
    by_cases c3 : num l > (l.length : Int) - 8
    ·rw [if_pos c3] at e
     exact absurd e (by decide)
    ·rw [if_neg c3] at e ⊢
     by_cases c4 : u32 (sum 0#32 (l.take (4 + (num l).toNat))) = num (l.drop (4 + (num l).toNat))
     ·rw [if_pos c4]
      refine ⟨fun x hx => h x (List.mem_of_mem_take (List.mem_of_mem_drop hx)), ?_⟩
      show ((l.take (4 + (num l).toNat)).drop 4).length ≤ _
      rw [List.length_drop, List.length_take]
      omega
     ·rw [if_neg c4] at e
      exact absurd e (by decide)
end Go.Proofs.YtdcifmonhaklcaaDoor.R
