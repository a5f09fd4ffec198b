/- Walks by hand. -/
import Derived.Test.YtdcifmonhaklcaaDoorTaAx2
import Derived.Test.YtdcifmonhaklcaaDoorTaAx3
import Derived.Test.YtdcifmonhaklcaaDoorTaAx4
import Derived.Test.YtdcifmonhaklcaaDoorTaAx6
import Derived.Laws.BitsAllLaws
namespace Go.Proofs.YtdcifmonhaklcaaDoor.A
open Go.RowKit YtdcifmonhaklcaaDoorW.PrintWords YtdcifmonhaklcaaDoorW.PrintLast YtdcifmonhaklcaaDoorW.PrintMore
attribute [local go_sem] max2_int min2_int max_two min_two
set_option linter.unusedVariables false
set_option linter.unusedSimpArgs false
def u32 (c : BitVec 32) : Int := (c.toNat : Int)
def b32 (x : Int) : BitVec 32 := BitVec.ofInt 32 x
theorem B_N (c : BitVec 32) : b32 (u32 c) = c := by
 unfold b32 u32
 rw [BitVec.ofInt_natCast, BitVec.ofNat_toNat, BitVec.setWidth_eq]
theorem N_lt (c : BitVec 32) : 0 ≤ u32 c ∧ u32 c < 4294967296 := by
 have : c.toNat < 4294967296 := c.isLt
 unfold u32
 omega
theorem xorN (x y : Int) : Go.bits .xor .u32 x y = u32 (b32 x ^^^ b32 y) := by
 show IntKind.u32.wrap ((b32 x ^^^ b32 y).toNat : Int) = _
 have h := N_lt (b32 x ^^^ b32 y)
 unfold u32 at h ⊢
 rw [IntKind.wrap_u32']
 omega
theorem B_mod (x : Int) : b32 (x % 4294967296) = b32 x := by
 unfold b32
 apply BitVec.eq_of_toInt_eq
 rw [BitVec.toInt_ofInt, BitVec.toInt_ofInt]
 show Int.bmod (x % (2 ^ 32 : Nat)) (2 ^ 32) = _
 exact Int.emod_bmod _ _
def poly : BitVec 32 := 0x82f63b78#32
def step (c : BitVec 32) : BitVec 32 := (c >>> 1) ^^^ (if c.getLsbD 0 = true then poly else 0#32)
theorem step_xor (a b : BitVec 32) : step (a ^^^ b) = step a ^^^ step b := by
 unfold step
 rw [BitVec.ushiftRight_xor_distrib, BitVec.getLsbD_xor]
 generalize a >>> 1 = x
 generalize b >>> 1 = y
 cases a.getLsbD 0 <;> cases b.getLsbD 0
 ·simp
 ·show x ^^^ y ^^^ poly = x ^^^ 0#32 ^^^ (y ^^^ poly)
  rw [BitVec.xor_zero, BitVec.xor_assoc]
 ·show x ^^^ y ^^^ poly = x ^^^ poly ^^^ (y ^^^ 0#32)
  rw [BitVec.xor_zero, BitVec.xor_assoc, BitVec.xor_assoc, BitVec.xor_comm y poly]
 ·show x ^^^ y ^^^ 0#32 = x ^^^ poly ^^^ (y ^^^ poly)
  rw [BitVec.xor_zero, BitVec.xor_comm y poly, BitVec.xor_assoc, ← BitVec.xor_assoc poly poly y, BitVec.xor_self, BitVec.zero_xor]
theorem step_zero : step 0#32 = 0#32 := by decide
def steps : Nat → BitVec 32 → BitVec 32
 | 0, c => c
 | n + 1, c => steps n (step c)
theorem steps_xor (n : Nat) : ∀ a b, steps n (a ^^^ b) = steps n a ^^^ steps n b := by
 induction n with
 | zero => intro a b; rfl
 | succ n ih => intro a b; simp only [steps]; rw [step_xor, ih]
theorem steps_zero (n : Nat) : steps n 0#32 = 0#32 := by
 induction n with
 | zero => rfl
 | succ n ih => simp only [steps]; rw [step_zero, ih]
theorem steps_add (m n : Nat) : ∀ c, steps (m + n) c = steps n (steps m c) := by
 induction m with
 | zero => intro c; rw [Nat.zero_add]; rfl
 | succ m ih => intro c; rw [Nat.succ_add]; exact ih _
theorem step_shl (c : BitVec 32) (h : c.getLsbD 31 = false) : step (c <<< 1) = c := by
 unfold step
 have e : (c <<< 1).getLsbD 0 = false := by rw [BitVec.getLsbD_shiftLeft]; simp
 rw [e]
 apply BitVec.eq_of_getLsbD_eq
 intro i hi
 rw [if_neg (by simp), BitVec.xor_zero, BitVec.getLsbD_ushiftRight, BitVec.getLsbD_shiftLeft]
 by_cases h31 : i = 31
 ·subst h31
  rw [h]
  rfl
 ·have : 1 + i < 32 := by omega
  simp [this]
theorem steps_shl (n : Nat) : ∀ c : BitVec 32, (∀ i, 32 - n ≤ i → c.getLsbD i = false) → steps n (c <<< n) = c := by
 induction n with
 | zero => intro c _; simp [steps]
 | succ n ih =>
  intro c h
  show steps n (step (c <<< (n + 1))) = c
  by_cases hn : n < 32
  ·rw [BitVec.shiftLeft_add, step_shl, ih]
   ·intro i hi
    exact h i (by omega)
   ·rw [BitVec.getLsbD_shiftLeft]
    by_cases h2 : 31 < n
    ·omega
    ·rw [h (31 - n) (by omega)]
     simp
  ·have hz : c = 0#32 := BitVec.eq_of_getLsbD_eq (fun i hi => by rw [h i (by omega)]; simp)
   subst hz
   rw [BitVec.zero_shiftLeft, step_zero, steps_zero]
theorem table : ∀ r : Fin 16, steps 4 (BitVec.ofNat 32 r.val) = b32 (rd halvesL (r.val : Int)) := by decide
theorem half (c : BitVec 32) : crcHalf (u32 c) = u32 (steps 4 c) := by
 have hand : Go.bits .and .u32 (u32 c) 15 = u32 (c &&& 15#32) := by
  show IntKind.u32.wrap ((b32 (u32 c) &&& BitVec.ofInt 32 15).toNat : Int) = _
  rw [B_N, show BitVec.ofInt 32 15 = 15#32 from by decide]
  have h := N_lt (c &&& 15#32)
  unfold u32 at h ⊢
  rw [IntKind.wrap_u32']
  omega
 have hdiv : u32 c / (16 : Int) = u32 (c >>> 4) := by
  unfold u32
  rw [BitVec.toNat_ushiftRight, Nat.shiftRight_eq_div_pow]
  rfl
 have hr : (c &&& 15#32).toNat < 16 := by
  rw [BitVec.toNat_and]
  exact Nat.lt_of_le_of_lt Nat.and_le_right (by decide)
 have ht := table ⟨(c &&& 15#32).toNat, hr⟩
 simp only at ht
 rw [BitVec.ofNat_toNat, BitVec.setWidth_eq] at ht
 have hsplit : c = (c >>> 4) <<< 4 ^^^ (c &&& 15#32) := by
  apply BitVec.eq_of_getLsbD_eq
  intro i hi
  rw [BitVec.getLsbD_xor, BitVec.getLsbD_shiftLeft, BitVec.getLsbD_ushiftRight, BitVec.getLsbD_and]
  by_cases h4 : i < 4
  ·have : (15#32).getLsbD i = true := by
    have : i = 0 ∨ i = 1 ∨ i = 2 ∨ i = 3 := by omega
    rcases this with rfl | rfl | rfl | rfl <;> decide
   simp [h4, this]
  ·have : (15#32).getLsbD i = false := by
    rw [BitVec.getLsbD_ofNat]
    have : Nat.testBit 15 i = false := Nat.testBit_lt_two_pow (Nat.lt_of_lt_of_le (by decide : 15 < 2 ^ 4) (Nat.pow_le_pow_right (by decide) (by omega)))
    simp [this]
   have e : 4 + (i - 4) = i := by omega
   rw [this]
   simp [h4, hi, e]
 have hs : steps 4 c = (c >>> 4) ^^^ b32 (rd halvesL (u32 (c &&& 15#32))) := by
  show _ = (c >>> 4) ^^^ b32 (rd halvesL ((c &&& 15#32).toNat : Int))
  have h4 := steps_shl 4 (c >>> 4) (fun i hi => by rw [BitVec.getLsbD_ushiftRight]; exact BitVec.getLsbD_of_ge _ _ (by omega))
  rw [← ht]
  conv => lhs; rw [hsplit, steps_xor, h4]
 unfold crcHalf
 rw [hand, hdiv, xorN, B_N, hs]
def byte (c : BitVec 32) (x : Int) : BitVec 32 := steps 8 (c ^^^ b32 x)
def run (c : BitVec 32) (l : List Int) : BitVec 32 := l.foldl byte c
theorem crcStep_N (c : BitVec 32) (x : Int) : crcStep (u32 c) x = u32 (byte c x) := by
 unfold crcStep byte
 rw [xorN, B_N, B_mod, half, half, ← steps_add]
theorem fold_N (l : List Int) : ∀ c, l.foldl crcStep (u32 c) = u32 (run c l) := by
 induction l with
 | nil => intro c; rfl
 | cons x l ih => intro c; simp only [List.foldl_cons, run]; rw [crcStep_N, ih]; rfl
theorem not_N (c : Int) : crcNot c = u32 (~~~ b32 c) := by
 unfold crcNot
 have : b32 IntKind.u32.max = BitVec.allOnes 32 := by decide
 rw [xorN, this, BitVec.allOnes_xor]
def sum (c : BitVec 32) (l : List Int) : BitVec 32 := ~~~ run (~~~ c) l
theorem more_N (c : Int) (l : List Int) : crcMore c l = u32 (sum (b32 c) l) := by
 unfold crcMore sum
 rw [not_N c, fold_N, not_N, B_N]
theorem B_zero : b32 0 = 0#32 := by decide
theorem Sum_f (l : List Int) : crc_Sum.f l = some (u32 (sum 0#32 l)) := by
 unfold crc_Sum.f crc_More.f
 rw [more_N, B_zero, Option.bind_some]
def Bytes (l : List Int) : Prop := ∀ x ∈ l, 0 ≤ x ∧ x < 256
theorem bytes_of_wf {l : List Int} (h : ∀ x ∈ l, (Lit.int .u8 x).wf = true) : Bytes l := by
 intro x hx
 have := h x hx
 simp [Lit.wf, IntKind.min, IntKind.max, IntKind.signed, IntKind.bits] at this
 omega
def four (n : Int) : List Int := [n % 256, n / 256 % 256, n / 65536 % 256, n / 16777216 % 256]
theorem lay_f (l : List Int) (n : Int) (h : l.length + 4 < 140737488355328) : crc_lay.f l n = some (l ++ four n) := by
 unfold crc_lay.f
 rw [Option.bind_some, if_pos (by simpa using h)]
 rfl
def head (l : List Int) : List Int := four (l.length : Int)
def frame (l : List Int) : List Int := head l ++ l ++ four (u32 (sum 0#32 (head l ++ l)))
theorem wrap_f (l : List Int) (h : l.length ≤ 16777216) : crc_Wrap.f l = some (frame l, 0) := by
 have hw : wrap64 (wrap64 (4 + (l.length : Int)) + 4) = (l.length : Int) + 8 := by
  unfold wrap64
  omega
 have hm : (l.length : Int) % 4294967296 = l.length := by omega
 have hh : (head l).length = 4 := rfl
 unfold crc_Wrap.f
 rw [if_neg (by omega), hw, if_pos (by omega), if_pos (by omega), lay_f [] _ (by simp), hm]
 simp only [Option.bind_some, List.nil_append]
 rw [if_pos (by have : (four (l.length : Int)).length = 4 := rfl; omega)]
 rw [Sum_f, Option.bind_some, lay_f _ _ (by rw [List.length_append]; have : (four (l.length : Int)).length = 4 := rfl; omega)]
 rfl
theorem wid {x : Int} (h0 : -9223372036854775808 ≤ x) (h1 : x ≤ 9223372036854775807) : wrap64 x = x := by
 unfold wrap64
 omega
theorem rd_bytes {l : List Int} (h : Bytes l) (i : Int) : 0 ≤ rd l i ∧ rd l i < 256 := by
 unfold rd
 rw [List.getD_eq_getElem?_getD]
 by_cases hi : i.toNat < l.length
 ·rw [List.getElem?_eq_getElem hi]
  exact h _ (List.getElem_mem hi)
 ·rw [List.getElem?_eq_none (by omega)]
  decide
theorem Bytes.take {l : List Int} (h : Bytes l) (n : Nat) : Bytes (l.take n) := fun x hx => h x (List.mem_of_mem_take hx)
theorem Bytes.drop {l : List Int} (h : Bytes l) (n : Nat) : Bytes (l.drop n) := fun x hx => h x (List.mem_of_mem_drop hx)
theorem Bytes.append {l m : List Int} (h : Bytes l) (h' : Bytes m) : Bytes (l ++ m) := fun x hx => (List.mem_append.1 hx).elim (h x) (h' x)
theorem four_bytes (n : Int) : Bytes (four n) := by
 intro x hx
 simp only [four, List.mem_cons, List.not_mem_nil, or_false] at hx
 omega
def num (l : List Int) : Int := rd l 0 + rd l 1 * 256 + rd l 2 * 65536 + rd l 3 * 16777216
theorem num_range {l : List Int} (h : Bytes l) : 0 ≤ num l ∧ num l < 4294967296 := by
 have h0 := rd_bytes h 0
 have h1 := rd_bytes h 1
 have h2 := rd_bytes h 2
 have h3 := rd_bytes h 3
 unfold num
 omega
theorem num_four {x : Int} (h0 : 0 ≤ x) (h1 : x < 4294967296) : num (four x) = x := by
 show x % 256 + x / 256 % 256 * 256 + x / 65536 % 256 * 65536 + x / 16777216 % 256 * 16777216 = x
 omega
theorem or_add (i : Nat) (x y : Int) (h0 : 0 ≤ x) (h1 : x < 2 ^ i) (h2 : 0 ≤ y) (h3 : y * 2 ^ i < 4294967296) (h4 : x < 4294967296) : Go.bits .or .u32 x (y * 2 ^ i) = x + y * 2 ^ i := by
 obtain ⟨a, rfl⟩ := Int.eq_ofNat_of_zero_le h0
 obtain ⟨b, rfl⟩ := Int.eq_ofNat_of_zero_le h2
 have e : ((b : Int) * 2 ^ i) = ((b * 2 ^ i : Nat) : Int) := by simp
 have h1' : a < 2 ^ i := by
  have : ((2 ^ i : Nat) : Int) = 2 ^ i := by simp
  omega
 rw [e] at h3 ⊢
 rw [u32_or _ _ (by omega) (by omega) (by omega) (by omega)]
 rw [Int.toNat_natCast, Int.toNat_natCast]
 have := Nat.shiftLeft_add_eq_or_of_lt h1' b
 rw [Nat.shiftLeft_eq] at this
 rw [Nat.or_comm, ← this]
 omega
theorem number_f {l : List Int} (h : Bytes l) (hl : 4 ≤ l.length) : crc_number.f l = some (num l) := by
 have h0 := rd_bytes h 0
 have h1 := rd_bytes h 1
 have h2 := rd_bytes h 2
 have h3 := rd_bytes h 3
 unfold crc_number.f num
 rw [if_pos (by omega), if_pos (by omega), if_pos (by omega), if_pos (by omega)]
 have m0 : rd l 0 % 4294967296 = rd l 0 := by omega
 have m1 : rd l 1 % 4294967296 * 256 % 4294967296 = rd l 1 * 2 ^ 8 := by omega
 have m2 : rd l 2 % 4294967296 * 65536 % 4294967296 = rd l 2 * 2 ^ 16 := by omega
 have m3 : rd l 3 % 4294967296 * 16777216 % 4294967296 = rd l 3 * 2 ^ 24 := by omega
 rw [m0, m1, m2, m3, or_add 8 _ _ (by omega) (by omega) (by omega) (by omega) (by omega), or_add 16 _ _ (by omega) (by omega) (by omega) (by omega) (by omega), or_add 24 _ _ (by omega) (by omega) (by omega) (by omega) (by omega)]
 congr 1
def first (l : List Int) : List Int × Int × Int :=
 if l.length < 8 then ([], 0, 3) else if num l > 16777216 then ([], 0, 5) else if num l > (l.length : Int) - 8 then ([], 0, 3) else
 if u32 (sum 0#32 (l.take (4 + (num l).toNat))) = num (l.drop (4 + (num l).toNat)) then ((l.take (4 + (num l).toNat)).drop 4, num l + 8, 0) else ([], 0, 4)
def shape (l : List Int) : Int × Int :=
 if l.length < 8 then (0, 3) else if num l > 16777216 then (0, 5) else if num l > (l.length : Int) - 8 then (0, 3) else (num l, 0)
theorem shape_f {l : List Int} (h : Bytes l) (hl : l.length ≤ 140737488355328) : crc_shape.f l = some (shape l) := by
 unfold crc_shape.f shape
 by_cases h8 : l.length < 8
 ·rw [if_pos (by omega), if_pos h8]
 ·have hn := num_range h
  rw [if_neg (by omega), if_neg h8, number_f h (by omega), Option.bind_some, wid (by omega) (by omega), wid (x := (l.length : Int) - 4) (by omega) (by omega), wid (x := (l.length : Int) - 4 - 4) (by omega) (by omega)]
  by_cases h1 : num l > 16777216
  ·rw [if_pos h1, if_pos h1]
  ·rw [if_neg h1, if_neg h1]
   by_cases h2 : num l > (l.length : Int) - 8
   ·rw [if_pos (by omega), if_pos h2]
   ·rw [if_neg (by omega), if_neg h2]
theorem first_f {l : List Int} (h : Bytes l) (hl : l.length < 140737488355328) : crc_First.f l = some (first l) := by
 unfold crc_First.f
 rw [shape_f h (by omega), Option.bind_some]
 unfold shape first
 by_cases h8 : l.length < 8
 ·rw [if_pos h8, if_pos h8]
  rfl
 ·have hn := num_range h
  rw [if_neg h8, if_neg h8]
  by_cases h1 : num l > 16777216
  ·rw [if_pos h1, if_pos h1]
   rfl
  ·rw [if_neg h1, if_neg h1]
   by_cases h2 : num l > (l.length : Int) - 8
   ·rw [if_pos h2, if_pos h2]
    rfl
   ·rw [if_neg h2, if_neg h2]
    simp only []
    obtain ⟨m, hm⟩ := Int.eq_ofNat_of_zero_le hn.1
    rw [hm] at h1 h2 ⊢
    rw [if_pos trivial, wid (x := 4 + (m : Int)) (by omega) (by omega), if_pos (by omega), if_pos (by omega), Sum_f, Option.bind_some, show (4 + (m : Int)).toNat = 4 + m from by omega, number_f (h.drop _) (by rw [List.length_drop]; omega), Option.bind_some, Int.toNat_natCast]
    by_cases e : u32 (sum 0#32 (l.take (4 + m))) = num (l.drop (4 + m))
    ·rw [if_pos e, if_pos e, if_pos (by omega)]
     unfold slices_Clone_byte_byte.f
     rw [if_pos (by rw [List.length_drop, List.length_take]; omega), Option.bind_some, wid (by omega) (by omega)]
     rw [show 4 + (m : Int) + 4 = (m : Int) + 8 from by omega]
    ·rw [if_neg e, if_neg e]
theorem frame_bytes {l : List Int} (h : Bytes l) : Bytes (frame l) := by
 unfold frame head
 exact ((four_bytes _).append h).append (four_bytes _)
def unwrap (l : List Int) : List Int × Int :=
 if 8 ≤ l.length ∧ num l < (l.length : Int) - 8 ∧ num l ≤ 16777216 then ([], 2) else ((first l).1, (first l).2.2)
theorem unwrap_f {l : List Int} (h : Bytes l) (hl : l.length < 140737488355328) : crc_Unwrap.f l = some (unwrap l) := by
 unfold crc_Unwrap.f
 rw [shape_f h (by omega), Option.bind_some, first_f h hl, Option.bind_some]
 unfold shape unwrap
 by_cases h8 : l.length < 8
 ·rw [if_pos h8, if_neg (show ¬ ((0 : Int), (3 : Int)).2 = 0 by decide), if_neg (by omega)]
 ·have hn := num_range h
  rw [if_neg h8]
  by_cases h1 : num l > 16777216
  ·rw [if_pos h1, if_neg (show ¬ ((0 : Int), (5 : Int)).2 = 0 by decide), if_neg (by omega)]
  ·rw [if_neg h1]
   by_cases h2 : num l > (l.length : Int) - 8
   ·rw [if_pos h2, if_neg (show ¬ ((0 : Int), (3 : Int)).2 = 0 by decide), if_neg (by omega)]
   ·rw [if_neg h2]
    simp only []
    rw [if_pos trivial, wid (x := 4 + num l) (by omega) (by omega), wid (by omega) (by omega)]
    by_cases h3 : num l < (l.length : Int) - 8
    ·rw [if_pos (by omega), if_pos (by omega)]
    ·rw [if_neg (by omega), if_neg (by omega)]
theorem frame_length (p : List Int) : (frame p).length = p.length + 8 := by
 unfold frame head
 rw [List.length_append, List.length_append]
 show 4 + p.length + 4 = _
 omega
theorem num_append {a r : List Int} (h : 4 ≤ a.length) : num (a ++ r) = num a := by
 match a, h with
 | _ :: _ :: _ :: _ :: _, _ => rfl
theorem first_frame {p r : List Int} (_ : Bytes p) (hl : p.length ≤ 16777216) : first (frame p ++ r) = (p, (p.length : Int) + 8, 0) := by
 have h4 : (head p).length = 4 := rfl
 have hn : num (frame p ++ r) = p.length := by
  unfold frame
  rw [List.append_assoc, List.append_assoc, num_append (by rw [h4]; omega)]
  exact num_four (by omega) (by omega)
 have hf := frame_length p
 have e1 : frame p ++ r = (head p ++ p) ++ (four (u32 (sum 0#32 (head p ++ p))) ++ r) := by
  unfold frame
  rw [List.append_assoc]
 have ht : (frame p ++ r).take (4 + p.length) = head p ++ p := by
  rw [e1, List.take_append_of_le_length (by rw [List.length_append, h4]; omega), List.take_of_length_le (by rw [List.length_append, h4]; omega)]
 have hd : (frame p ++ r).drop (4 + p.length) = four (u32 (sum 0#32 (head p ++ p))) ++ r := by
  rw [e1, List.drop_append_of_le_length (by rw [List.length_append, h4]; omega), List.drop_of_length_le (by rw [List.length_append, h4]; omega), List.nil_append]
 have hs := N_lt (sum 0#32 (head p ++ p))
 unfold first
 rw [if_neg (by rw [List.length_append, hf]; omega), hn, if_neg (by omega), if_neg (by rw [List.length_append, hf]; omega), Int.toNat_natCast, ht, hd, num_append (a := four _) (show 4 ≤ (four _).length from Nat.le_refl 4), num_four hs.1 hs.2, if_pos rfl]
 rw [List.drop_append_of_le_length (by rw [h4]; omega), List.drop_of_length_le (by rw [h4]; omega), List.nil_append]
theorem unwrap_frame {p : List Int} (h : Bytes p) (hl : p.length ≤ 16777216) : unwrap (frame p) = (p, 0) := by
 have hf := first_frame (r := []) h hl
 rw [List.append_nil] at hf
 have h4 : (head p).length = 4 := rfl
 have hn : num (frame p) = p.length := by
  unfold frame
  rw [List.append_assoc, num_append (by rw [h4]; omega)]
  exact num_four (by omega) (by omega)
 unfold unwrap
 rw [hf, hn, frame_length, if_neg (by omega)]
theorem unwrap_ok {l : List Int} (h : Bytes l) (e : (unwrap l).2 = 0) : ByteL (unwrap l).1 ∧ (unwrap l).1.length ≤ 16777216 := by
 unfold unwrap at e ⊢
 by_cases c : 8 ≤ l.length ∧ num l < (l.length : Int) - 8 ∧ num l ≤ 16777216
 ·rw [if_pos c] at e
  exact absurd e (by decide)
 ·rw [if_neg c] at e ⊢
  have hn := num_range h
  show ByteL (first l).1 ∧ (first l).1.length ≤ 16777216
  replace e : (first l).2.2 = 0 := e
  unfold first at e ⊢
  by_cases c1 : l.length < 8
  ·rw [if_pos c1] at e
   exact absurd e (by decide)
  ·rw [if_neg c1] at e ⊢
   by_cases c2 : num l > 16777216
   ·rw [if_pos c2] at e
    exact absurd e (by decide)
   ·rw [if_neg c2] at e ⊢
    by_cases c3 : num l > (l.length : Int) - 8
    ·rw [if_pos c3] at e
     exact absurd e (by decide)
    ·rw [if_neg c3] at e ⊢
     by_cases c4 : u32 (sum 0#32 (l.take (4 + (num l).toNat))) = num (l.drop (4 + (num l).toNat))
     ·rw [if_pos c4]
      refine ⟨fun x hx => h x (List.mem_of_mem_take (List.mem_of_mem_drop hx)), ?_⟩
      show ((l.take (4 + (num l).toNat)).drop 4).length ≤ _
      rw [List.length_drop, List.length_take]
      omega
     ·rw [if_neg c4] at e
      exact absurd e (by decide)
end Go.Proofs.YtdcifmonhaklcaaDoor.A
