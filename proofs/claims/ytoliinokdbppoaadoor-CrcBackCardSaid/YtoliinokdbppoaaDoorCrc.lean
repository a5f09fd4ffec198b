/- The sum of bytes, in plain Lean: the register as 32 bits, a step a bit; the table by half bytes comes to four steps; two unlike frames within four bytes have unlike registers. No program in sight but the words for its integers. -/
import Derived.Test.YtoliinokdbppoaaDoorPx1
import Derived.Laws.BitsAllLaws
namespace Go.Proofs.YtoliinokdbppoaaDoor.Crc
open Go.RowKit Go.Proofs.YtoliinokdbppoaaDoorW.PrintWords Go.Proofs.YtoliinokdbppoaaDoor.P

def u32 (c : BitVec 32) : Int := (c.toNat : Int)
def b32 (x : Int) : BitVec 32 := BitVec.ofInt 32 x
theorem B_N (c : BitVec 32) : b32 (u32 c) = c := by
  unfold b32 u32
  rw [BitVec.ofInt_natCast, BitVec.ofNat_toNat, BitVec.setWidth_eq]
theorem N_lt (c : BitVec 32) : 0 ≤ u32 c ∧ u32 c < 4294967296 := by
  have : c.toNat < 4294967296 := c.isLt
  unfold u32
  omega
theorem N_B {x : Int} (h0 : 0 ≤ x) (h1 : x < 4294967296) : u32 (b32 x) = x := by
  obtain ⟨n, rfl⟩ := Int.eq_ofNat_of_zero_le h0
  unfold u32 b32
  rw [BitVec.ofInt_natCast, BitVec.toNat_ofNat]
  have : n % 2 ^ 32 = n := Nat.mod_eq_of_lt (by omega)
  rw [this]
theorem N_inj {a b : BitVec 32} (h : u32 a = u32 b) : a = b := by rw [← B_N a, ← B_N b, h]
theorem xorN (x y : Int) : Go.bits .xor .u32 x y = u32 (b32 x ^^^ b32 y) := by
  show IntKind.u32.wrap ((b32 x ^^^ b32 y).toNat : Int) = _
  have h := N_lt (b32 x ^^^ b32 y)
  unfold u32 at h ⊢
  rw [IntKind.wrap_u32']
  omega
theorem B_mod (x : Int) : b32 (x % 4294967296) = b32 x := by
  unfold b32
  apply BitVec.eq_of_toInt_eq
  rw [BitVec.toInt_ofInt, BitVec.toInt_ofInt]
  show Int.bmod (x % (2 ^ 32 : Nat)) (2 ^ 32) = _
  exact Int.emod_bmod _ _
def poly : BitVec 32 := 0x82f63b78#32
/-- One step of the register. -/
def step (c : BitVec 32) : BitVec 32 := (c >>> 1) ^^^ (if c.getLsbD 0 = true then poly else 0#32)
theorem step_xor (a b : BitVec 32) : step (a ^^^ b) = step a ^^^ step b := by
  unfold step
  rw [BitVec.ushiftRight_xor_distrib, BitVec.getLsbD_xor]
  generalize a >>> 1 = x
  generalize b >>> 1 = y
  cases a.getLsbD 0 <;> cases b.getLsbD 0
  · simp
  · show x ^^^ y ^^^ poly = x ^^^ 0#32 ^^^ (y ^^^ poly)
    rw [BitVec.xor_zero, BitVec.xor_assoc]
  · show x ^^^ y ^^^ poly = x ^^^ poly ^^^ (y ^^^ 0#32)
    rw [BitVec.xor_zero, BitVec.xor_assoc, BitVec.xor_assoc, BitVec.xor_comm y poly]
  · show x ^^^ y ^^^ 0#32 = x ^^^ poly ^^^ (y ^^^ poly)
    rw [BitVec.xor_zero, BitVec.xor_comm y poly, BitVec.xor_assoc, ← BitVec.xor_assoc poly poly y, BitVec.xor_self, BitVec.zero_xor]
theorem step_zero : step 0#32 = 0#32 := by decide
theorem step_ne (c : BitVec 32) (h : step c = 0#32) : c = 0#32 := by
  unfold step at h
  by_cases e : c.getLsbD 0 = true
  · rw [if_pos e] at h
    have h2 : ((c >>> 1) ^^^ poly).getLsbD 31 = (0#32).getLsbD 31 := by rw [h]
    rw [BitVec.getLsbD_xor, BitVec.getLsbD_ushiftRight] at h2
    have h3 : c.getLsbD (1 + 31) = false := BitVec.getLsbD_of_ge _ _ (by omega)
    rw [h3] at h2
    exact absurd h2 (by decide)
  · rw [if_neg e, BitVec.xor_zero] at h
    apply BitVec.eq_of_getLsbD_eq
    intro i hi
    cases i with
    | zero => simpa using e
    | succ i =>
      have h2 : (c >>> 1).getLsbD i = (0#32).getLsbD i := by rw [h]
      rw [BitVec.getLsbD_ushiftRight] at h2
      rw [Nat.add_comm 1 i] at h2
      simpa using h2
/-- n steps. -/
def steps : Nat → BitVec 32 → BitVec 32
  | 0, c => c
  | n + 1, c => steps n (step c)
theorem steps_xor (n : Nat) : ∀ a b, steps n (a ^^^ b) = steps n a ^^^ steps n b := by
  induction n with
  | zero => intro a b; rfl
  | succ n ih => intro a b; simp only [steps]; rw [step_xor, ih]
theorem steps_zero (n : Nat) : steps n 0#32 = 0#32 := by
  induction n with
  | zero => rfl
  | succ n ih => simp only [steps]; rw [step_zero, ih]
theorem steps_ne (n : Nat) : ∀ c, steps n c = 0#32 → c = 0#32 := by
  induction n with
  | zero => intro c h; exact h
  | succ n ih => intro c h; exact step_ne c (ih _ h)
theorem steps_add (m n : Nat) : ∀ c, steps (m + n) c = steps n (steps m c) := by
  induction m with
  | zero => intro c; rw [Nat.zero_add]; rfl
  | succ m ih => intro c; rw [Nat.succ_add]; exact ih _
theorem steps_inj (n : Nat) {a b : BitVec 32} (h : steps n a = steps n b) : a = b := by
  have h2 : steps n (a ^^^ b) = 0#32 := by rw [steps_xor, h, BitVec.xor_self]
  have h3 := steps_ne n _ h2
  have h4 : a ^^^ b ^^^ b = b := by rw [h3, BitVec.zero_xor]
  rwa [BitVec.xor_assoc, BitVec.xor_self, BitVec.xor_zero] at h4
/-- A number without low bits is shifted alone. -/
theorem step_shl (c : BitVec 32) (h : c.getLsbD 31 = false) : step (c <<< 1) = c := by
  unfold step
  have e : (c <<< 1).getLsbD 0 = false := by rw [BitVec.getLsbD_shiftLeft]; simp
  rw [e]
  apply BitVec.eq_of_getLsbD_eq
  intro i hi
  rw [if_neg (by simp), BitVec.xor_zero, BitVec.getLsbD_ushiftRight, BitVec.getLsbD_shiftLeft]
  by_cases h31 : i = 31
  · subst h31
    rw [h]
    rfl
  · have : 1 + i < 32 := by omega
    simp [this]
theorem steps_shl (n : Nat) : ∀ c : BitVec 32, (∀ i, 32 - n ≤ i → c.getLsbD i = false) → steps n (c <<< n) = c := by
  induction n with
  | zero => intro c _; simp [steps]
  | succ n ih =>
    intro c h
    show steps n (step (c <<< (n + 1))) = c
    by_cases hn : n < 32
    · rw [BitVec.shiftLeft_add, step_shl, ih]
      · intro i hi
        exact h i (by omega)
      · rw [BitVec.getLsbD_shiftLeft]
        by_cases h2 : 31 < n
        · omega
        · rw [h (31 - n) (by omega)]
          simp
    · have hz : c = 0#32 := BitVec.eq_of_getLsbD_eq (fun i hi => by rw [h i (by omega)]; simp)
      subst hz
      rw [BitVec.zero_shiftLeft, step_zero, steps_zero]
/-- The table: four steps of half a byte. -/
theorem table : ∀ r : Fin 16, steps 4 (BitVec.ofNat 32 r.val) = b32 (rd halvesL (r.val : Int)) := by decide
theorem half (c : BitVec 32) : crcHalf (u32 c) = u32 (steps 4 c) := by
  have hand : Go.bits .and .u32 (u32 c) 15 = u32 (c &&& 15#32) := by
    show IntKind.u32.wrap ((b32 (u32 c) &&& BitVec.ofInt 32 15).toNat : Int) = _
    rw [B_N, show BitVec.ofInt 32 15 = 15#32 from by decide]
    have h := N_lt (c &&& 15#32)
    unfold u32 at h ⊢
    rw [IntKind.wrap_u32']
    omega
  have hdiv : u32 c / (16 : Int) = u32 (c >>> 4) := by
    unfold u32
    rw [BitVec.toNat_ushiftRight, Nat.shiftRight_eq_div_pow]
    rfl
  have hr : (c &&& 15#32).toNat < 16 := by
    rw [BitVec.toNat_and]
    exact Nat.lt_of_le_of_lt Nat.and_le_right (by decide)
  have ht := table ⟨(c &&& 15#32).toNat, hr⟩
  simp only at ht
  rw [BitVec.ofNat_toNat, BitVec.setWidth_eq] at ht
  have hsplit : c = (c >>> 4) <<< 4 ^^^ (c &&& 15#32) := by
    apply BitVec.eq_of_getLsbD_eq
    intro i hi
    rw [BitVec.getLsbD_xor, BitVec.getLsbD_shiftLeft, BitVec.getLsbD_ushiftRight, BitVec.getLsbD_and]
    by_cases h4 : i < 4
    · have : (15#32).getLsbD i = true := by
        have : i = 0 ∨ i = 1 ∨ i = 2 ∨ i = 3 := by omega
        rcases this with rfl | rfl | rfl | rfl <;> decide
      simp [h4, this]
    · have : (15#32).getLsbD i = false := by
        rw [BitVec.getLsbD_ofNat]
        have : Nat.testBit 15 i = false := Nat.testBit_lt_two_pow (Nat.lt_of_lt_of_le (by decide : 15 < 2 ^ 4) (Nat.pow_le_pow_right (by decide) (by omega)))
        simp [this]
      have e : 4 + (i - 4) = i := by omega
      rw [this]
      simp [h4, hi, e]
  have hs : steps 4 c = (c >>> 4) ^^^ b32 (rd halvesL (u32 (c &&& 15#32))) := by
    show _ = (c >>> 4) ^^^ b32 (rd halvesL ((c &&& 15#32).toNat : Int))
    have h4 := steps_shl 4 (c >>> 4) (fun i hi => by rw [BitVec.getLsbD_ushiftRight]; exact BitVec.getLsbD_of_ge _ _ (by omega))
    rw [← ht]
    conv => lhs; rw [hsplit, steps_xor, h4]
  unfold crcHalf
  rw [hand, hdiv, xorN, B_N, hs]
/-- A byte comes in. -/
def byte (c : BitVec 32) (x : Int) : BitVec 32 := steps 8 (c ^^^ b32 x)
def run (c : BitVec 32) (l : List Int) : BitVec 32 := l.foldl byte c
theorem crcStep_N (c : BitVec 32) (x : Int) : crcStep (u32 c) x = u32 (byte c x) := by
  unfold crcStep byte
  rw [xorN, B_N, B_mod, half, half, ← steps_add]
theorem fold_N (l : List Int) : ∀ c, l.foldl crcStep (u32 c) = u32 (run c l) := by
  induction l with
  | nil => intro c; rfl
  | cons x l ih => intro c; simp only [List.foldl_cons, run]; rw [crcStep_N, ih]; rfl
theorem not_N (c : Int) : crcNot c = u32 (~~~ b32 c) := by
  unfold crcNot
  have : b32 IntKind.u32.max = BitVec.allOnes 32 := by decide
  rw [xorN, this, BitVec.allOnes_xor]
/-- The sum, on the register. -/
def sum (c : BitVec 32) (l : List Int) : BitVec 32 := ~~~ run (~~~ c) l
theorem more_N (c : Int) (l : List Int) : crcMore c l = u32 (sum (b32 c) l) := by
  unfold crcMore sum
  rw [not_N c, fold_N, not_N, B_N]
theorem run_append (c : BitVec 32) (l m : List Int) : run c (l ++ m) = run (run c l) m := List.foldl_append
theorem more_append (c : Int) (l m : List Int) : crcMore (crcMore c l) m = crcMore c (l ++ m) := by
  rw [more_N, more_N, more_N, B_N]
  unfold sum
  rw [BitVec.not_not, run_append]
theorem B_zero : b32 0 = 0#32 := by decide
theorem Sum_f (l : List Int) : crc_Sum.f l = some (u32 (sum 0#32 l)) := by
  unfold crc_Sum.f crc_More.f
  rw [more_N, B_zero, Option.bind_some]
end Go.Proofs.YtoliinokdbppoaaDoor.Crc
