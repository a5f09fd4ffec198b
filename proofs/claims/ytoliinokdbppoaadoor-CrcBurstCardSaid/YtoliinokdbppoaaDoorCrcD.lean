/- A burst of four bytes: two unlike byte strings that are alike outside of four neighbouring bytes have unlike registers; the law CrcBurst in plain form. -/
import Derived.Test.YtoliinokdbppoaaDoorCrcC
namespace Go.Proofs.YtoliinokdbppoaaDoor.Crc
open Go.RowKit Go.Proofs.YtoliinokdbppoaaDoorW.PrintWords Go.Proofs.YtoliinokdbppoaaDoorW.PrintLast Go.Proofs.YtoliinokdbppoaaDoorW.PrintMore Go.Proofs.YtoliinokdbppoaaDoor.P

/-- The register over bytes as 32 bits. -/
def runB (c : BitVec 32) (l : List (BitVec 32)) : BitVec 32 := l.foldl (fun c x => steps 8 (c ^^^ x)) c
theorem run_map (l : List Int) : ∀ c, run c l = runB c (l.map b32) := by
  induction l with
  | nil => intro c; rfl
  | cons x l ih => intro c; exact ih _
theorem runB_append (c : BitVec 32) (l m : List (BitVec 32)) : runB c (l ++ m) = runB (runB c l) m := List.foldl_append
theorem xor4 (a b x y : BitVec 32) : (a ^^^ x) ^^^ (b ^^^ y) = (a ^^^ b) ^^^ (x ^^^ y) := by
  rw [BitVec.xor_assoc, BitVec.xor_assoc, ← BitVec.xor_assoc x b y, BitVec.xor_comm x b, BitVec.xor_assoc b x y]
theorem runB_xor (l : List (BitVec 32)) : ∀ (m : List (BitVec 32)) a b, l.length = m.length → runB a l ^^^ runB b m = runB (a ^^^ b) (List.zipWith (· ^^^ ·) l m) := by
  induction l with
  | nil =>
    intro m a b h
    cases m with
    | nil => rfl
    | cons y m => simp at h
  | cons x l ih =>
    intro m a b h
    cases m with
    | nil => simp at h
    | cons y m =>
      show runB (steps 8 (a ^^^ x)) l ^^^ runB (steps 8 (b ^^^ y)) m = runB (steps 8 ((a ^^^ b) ^^^ (x ^^^ y))) (List.zipWith (· ^^^ ·) l m)
      rw [ih m _ _ (by simpa using h), ← steps_xor, xor4]
def Zero (l : List (BitVec 32)) : Prop := ∀ x ∈ l, x = 0#32
theorem runB_zero (l : List (BitVec 32)) (h : Zero l) : ∀ c, runB c l = steps (8 * l.length) c := by
  induction l with
  | nil => intro c; rfl
  | cons x l ih =>
    intro c
    obtain rfl := h x (by simp)
    show runB (steps 8 (c ^^^ 0#32)) l = _
    rw [ih (fun y hy => h y (List.mem_cons_of_mem _ hy)), BitVec.xor_zero, ← steps_add]
    congr 1
    simp
    omega
/-- A byte: no bit from the eighth on. -/
def Byte (x : BitVec 32) : Prop := ∀ i, 8 ≤ i → x.getLsbD i = false
theorem byte_xor {x y : BitVec 32} (hx : Byte x) (hy : Byte y) : Byte (x ^^^ y) := fun i hi => by rw [BitVec.getLsbD_xor, hx i hi, hy i hi]; rfl
theorem byte_of {x : Int} (h0 : 0 ≤ x) (h1 : x < 256) : Byte (b32 x) := by
  intro i hi
  obtain ⟨n, rfl⟩ := Int.eq_ofNat_of_zero_le h0
  unfold b32
  rw [BitVec.ofInt_natCast, BitVec.getLsbD_ofNat]
  have : n.testBit i = false := Nat.testBit_lt_two_pow (Nat.lt_of_lt_of_le (show n < 2 ^ 8 by omega) (Nat.pow_le_pow_right (by decide) hi))
  rw [this]
  simp
/-- Bytes as one number, the lowest first. -/
def le : List (BitVec 32) → BitVec 32
  | [] => 0#32
  | x :: l => x ^^^ (le l <<< 8)
theorem le_high (l : List (BitVec 32)) (h : ∀ x ∈ l, Byte x) : ∀ i, 8 * l.length ≤ i → (le l).getLsbD i = false := by
  induction l with
  | nil => intro i _; simp [le]
  | cons x l ih =>
    intro i hi
    simp only [List.length_cons] at hi
    simp only [le]
    rw [BitVec.getLsbD_xor, h x (by simp) i (by omega), BitVec.getLsbD_shiftLeft, ih (fun y hy => h y (List.mem_cons_of_mem _ hy)) (i - 8) (by omega)]
    simp
theorem runB_le (l : List (BitVec 32)) (h : ∀ x ∈ l, Byte x) : ∀ c, l.length ≤ 4 → runB c l = steps (8 * l.length) (c ^^^ le l) := by
  induction l with
  | nil => intro c _; simp [runB, le, steps]
  | cons x l ih =>
    intro c hl
    simp only [List.length_cons] at hl
    have hh := fun y hy => h y (List.mem_cons_of_mem _ hy)
    show runB (steps 8 (c ^^^ x)) l = _
    rw [ih hh _ (by omega)]
    have e : steps 8 (c ^^^ x) ^^^ le l = steps 8 (c ^^^ le (x :: l)) := by
      simp only [le]
      rw [← BitVec.xor_assoc, steps_xor 8 (c ^^^ x), steps_shl 8 (le l) (fun i hi => le_high l hh i (by omega))]
    rw [e, ← steps_add]
    congr 1
    simp only [List.length_cons]
    omega
theorem le_zero (l : List (BitVec 32)) (h : ∀ x ∈ l, Byte x) (hl : l.length ≤ 4) (h0 : le l = 0#32) : Zero l := by
  induction l with
  | nil => intro x hx; cases hx
  | cons x l ih =>
    simp only [List.length_cons] at hl
    have hh := fun y hy => h y (List.mem_cons_of_mem _ hy)
    simp only [le] at h0
    have hx : x = 0#32 := by
      apply BitVec.eq_of_getLsbD_eq
      intro i hi
      by_cases h8 : 8 ≤ i
      · rw [h x (by simp) i h8]
        simp
      · have := congrArg (fun z => BitVec.getLsbD z i) h0
        simp only [BitVec.getLsbD_xor, BitVec.getLsbD_shiftLeft] at this
        simpa [show i < 8 by omega] using this
    subst hx
    have hz : le l = 0#32 := by
      apply BitVec.eq_of_getLsbD_eq
      intro i hi
      by_cases h24 : 24 ≤ i
      · rw [le_high l hh i (by omega)]
        simp
      · have := congrArg (fun z => BitVec.getLsbD z (i + 8)) h0
        simp only [BitVec.getLsbD_xor, BitVec.getLsbD_shiftLeft] at this
        simpa [show i + 8 < 32 by omega] using this
    intro y hy
    rcases List.mem_cons.1 hy with rfl | hy
    · rfl
    · exact ih hh (by omega) hz y hy
/-- Bytes that are zero but for four neighbouring ones, and leave the register zero: all are zero. -/
theorem burst (d : List (BitVec 32)) (i0 : Nat) (hb : ∀ x ∈ d, Byte x) (hz : ∀ i, (i < i0 ∨ i0 + 4 ≤ i) → d.getD i 0#32 = 0#32) (h0 : runB 0#32 d = 0#32) : Zero d := by
  have e : d = d.take i0 ++ ((d.drop i0).take 4 ++ d.drop (i0 + 4)) := by
    rw [← List.drop_drop, List.take_append_drop, List.take_append_drop]
  have za : Zero (d.take i0) := by
    intro x hx
    obtain ⟨i, hi, rfl⟩ := List.mem_iff_getElem.1 hx
    rw [List.length_take] at hi
    have := hz i (.inl (by omega))
    rw [List.getElem_take]
    rw [List.getD_eq_getElem?_getD, List.getElem?_eq_getElem (by omega)] at this
    exact this
  have zc : Zero (d.drop (i0 + 4)) := by
    intro x hx
    obtain ⟨i, hi, rfl⟩ := List.mem_iff_getElem.1 hx
    rw [List.length_drop] at hi
    have := hz (i0 + 4 + i) (.inr (by omega))
    rw [List.getElem_drop]
    rw [List.getD_eq_getElem?_getD, List.getElem?_eq_getElem (by omega)] at this
    exact this
  have hbm : ∀ x ∈ (d.drop i0).take 4, Byte x := fun x hx => hb x (List.mem_of_mem_drop (List.mem_of_mem_take hx))
  have hlm : ((d.drop i0).take 4).length ≤ 4 := by
    rw [List.length_take]
    omega
  rw [e, runB_append, runB_append, runB_zero _ za, steps_zero, runB_zero _ zc, runB_le _ hbm _ hlm, BitVec.zero_xor] at h0
  have zb := le_zero _ hbm hlm (steps_ne _ _ (steps_ne _ _ h0))
  rw [e]
  intro x hx
  rcases List.mem_append.1 hx with hx | hx
  · exact za x hx
  · rcases List.mem_append.1 hx with hx | hx
    · exact zb x hx
    · exact zc x hx
/-- The bytes of a number. -/
theorem le_four (s : BitVec 32) : le ((four (u32 s)).map b32) = s := by
  have hb : ∀ (j : Nat) (q : Int), q = u32 s / 2 ^ j → ∀ i, (b32 (q % 256)).getLsbD i = (decide (i < 8) && s.getLsbD (i + j)) := by
    intro j q hq i
    subst hq
    have e : u32 s / 2 ^ j % 256 = ((s.toNat / 2 ^ j % 2 ^ 8 : Nat) : Int) := by
      unfold u32
      simp
    rw [e]
    unfold b32
    rw [BitVec.ofInt_natCast, BitVec.getLsbD_ofNat, Nat.testBit_mod_two_pow, Nat.testBit_div_two_pow]
    show _ = (decide (i < 8) && s.toNat.testBit (i + j))
    by_cases hi : i < 8
    · have : i < 32 := by omega
      simp [hi, this]
    · simp [hi]
  apply BitVec.eq_of_getLsbD_eq
  intro i hi
  simp only [four, List.map_cons, List.map_nil, le]
  simp only [BitVec.getLsbD_xor, BitVec.getLsbD_shiftLeft]
  rw [hb 0 (u32 s) (by simp), hb 8 (u32 s / 256) (by simp), hb 16 (u32 s / 65536) (by simp), hb 24 (u32 s / 16777216) (by simp)]
  by_cases h1 : i < 8
  · simp [h1]
  · by_cases h2 : i < 16
    · have a1 : i - 8 < 8 := by omega
      have a2 : i - 8 < 32 := by omega
      have a3 : i - 8 + 8 = i := by omega
      simp [h1, hi, a1, a3]
    · by_cases h3 : i < 24
      · have a1 : ¬ i - 8 < 8 := by omega
        have a2 : i - 8 < 32 := by omega
        have a3 : i - 8 - 8 < 8 := by omega
        have a4 : i - 8 - 8 + 16 = i := by omega
        simp [h1, hi, a1, a2, a3, a4]
      · have a1 : ¬ i - 8 < 8 := by omega
        have a2 : i - 8 < 32 := by omega
        have a3 : ¬ i - 8 - 8 < 8 := by omega
        have a5 : i - 8 - 8 < 32 := by omega
        have a6 : i - 8 - 8 - 8 < 8 := by omega
        have a4 : i - 8 - 8 - 8 + 24 = i := by omega
        simp [h1, hi, a1, a2, a3, a4, a5, a6]
theorem run_four (c s : BitVec 32) : run c (four (u32 s)) = steps 32 (c ^^^ s) := by
  have hb : ∀ x ∈ (four (u32 s)).map b32, Byte x := by
    intro x hx
    obtain ⟨y, hy, rfl⟩ := List.mem_map.1 hx
    have := four_bytes (u32 s) y hy
    exact byte_of this.1 this.2
  rw [run_map, runB_le _ hb c (Nat.le_refl 4), le_four]
  rfl
/-- Bytes that end in their sum, the lowest byte first: the register that they leave. -/
theorem run_valid (l : List Int) : run (~~~ 0#32) (l ++ four (u32 (sum 0#32 l))) = steps 32 (BitVec.allOnes 32) := by
  rw [run_append, run_four]
  unfold sum
  congr 1
  apply BitVec.eq_of_getLsbD_eq
  intro i hi
  rw [BitVec.getLsbD_xor, BitVec.getLsbD_not, BitVec.getLsbD_allOnes]
  cases (run (~~~ 0#32) l).getLsbD i <;> simp [hi]
theorem valid_burst (l m : List Int) (hl : Bytes l) (hm : Bytes m) (hlen : l.length = m.length) (i0 : Nat) (hz : ∀ i, (i < i0 ∨ i0 + 4 ≤ i) → l.getD i 0 = m.getD i 0) (hr : run (~~~ 0#32) l = run (~~~ 0#32) m) : l = m := by
  have h0 : runB 0#32 (List.zipWith (· ^^^ ·) (l.map b32) (m.map b32)) = 0#32 := by
    have := runB_xor (l.map b32) (m.map b32) (~~~ 0#32) (~~~ 0#32) (by simpa using hlen)
    rw [BitVec.xor_self] at this
    rw [← this, ← run_map, ← run_map, hr, BitVec.xor_self]
  have hbyte : ∀ {k : List Int}, Bytes k → ∀ i, i < k.length → Byte (b32 (k.getD i 0)) := by
    intro k hk i hi
    rw [List.getD_eq_getElem?_getD, List.getElem?_eq_getElem hi]
    have := hk _ (List.getElem_mem hi)
    exact byte_of this.1 this.2
  have hget : ∀ i, i < l.length → (List.zipWith (· ^^^ ·) (l.map b32) (m.map b32))[i]? = some (b32 (l.getD i 0) ^^^ b32 (m.getD i 0)) := by
    intro i hi
    rw [List.getElem?_zipWith, List.getElem?_map, List.getElem?_map, List.getElem?_eq_getElem hi, List.getElem?_eq_getElem (by omega), List.getD_eq_getElem?_getD, List.getD_eq_getElem?_getD, List.getElem?_eq_getElem hi, List.getElem?_eq_getElem (by omega)]
    rfl
  have hzl : (List.zipWith (· ^^^ ·) (l.map b32) (m.map b32)).length = l.length := by
    simp
    omega
  have z := burst _ i0 (by
    intro x hx
    obtain ⟨i, hi, rfl⟩ := List.mem_iff_getElem.1 hx
    rw [hzl] at hi
    have h1 := hget i hi
    rw [List.getElem?_eq_getElem (by omega)] at h1
    rw [Option.some.inj h1]
    exact byte_xor (hbyte hl i hi) (hbyte hm i (by omega))) (by
    intro i hi
    by_cases hil : i < l.length
    · rw [List.getD_eq_getElem?_getD, hget i hil, hz i hi]
      exact BitVec.xor_self
    · rw [List.getD_eq_getElem?_getD, List.getElem?_eq_none (by omega)]
      rfl) h0
  apply List.ext_getElem hlen
  intro i h1 h2
  have h3 := hget i h1
  rw [List.getElem?_eq_getElem (by omega)] at h3
  have h4 := z _ (List.getElem_mem (show i < _ by omega))
  rw [Option.some.inj h3] at h4
  have h5 : b32 (l.getD i 0) = b32 (m.getD i 0) := by
    have e : b32 (l.getD i 0) ^^^ b32 (m.getD i 0) ^^^ b32 (m.getD i 0) = b32 (m.getD i 0) := by rw [h4, BitVec.zero_xor]
    rwa [BitVec.xor_assoc, BitVec.xor_self, BitVec.xor_zero] at e
  have h6 := congrArg u32 h5
  rw [List.getD_eq_getElem?_getD, List.getD_eq_getElem?_getD, List.getElem?_eq_getElem h1, List.getElem?_eq_getElem h2] at h6
  have hx := hl _ (List.getElem_mem h1)
  have hy := hm _ (List.getElem_mem h2)
  rw [Option.getD_some, Option.getD_some, N_B (by omega) (by omega), N_B (by omega) (by omega)] at h6
  exact h6
theorem first_valid {t : List Int} (h : Bytes t) (e : (first t).2.2 = 0) (hn : num t = (t.length : Int) - 8) : run (~~~ 0#32) t = steps 32 (BitVec.allOnes 32) := by
  have hk := first_ok h e
  have h8 : 8 ≤ t.length := by omega
  unfold first at e
  rw [if_neg (by omega)] at e
  by_cases h1 : num t > 16777216
  · rw [if_pos h1] at e
    exact absurd e (by decide)
  · rw [if_neg h1, if_neg (by omega)] at e
    by_cases h3 : u32 (sum 0#32 (t.take (4 + (num t).toNat))) = num (t.drop (4 + (num t).toNat))
    · have h4 := four_num (h.drop (4 + (num t).toNat)) (by rw [List.length_drop]; omega)
      rw [← h3, List.take_of_length_le (l := t.drop (4 + (num t).toNat)) (by rw [List.length_drop]; omega)] at h4
      have := run_valid (t.take (4 + (num t).toNat))
      rw [h4, List.take_append_drop] at this
      exact this
    · rw [if_neg h3] at e
      exact absurd e (by decide)
theorem first_error (t : List Int) (e : (first t).2.2 ≠ 0) : (first t).1 = [] := by
  unfold first at e ⊢
  split at e
  · rename_i h; rw [if_pos h]
  · rename_i h; rw [if_neg h]
    split at e
    · rename_i h; rw [if_pos h]
    · rename_i h; rw [if_neg h]
      split at e
      · rename_i h; rw [if_pos h]
      · rename_i h; rw [if_neg h]
        split at e
        · exact absurd rfl e
        · rename_i h; rw [if_neg h]
theorem unwrap_error (t : List Int) (e : (unwrap t).2 ≠ 0) : (unwrap t).1 = [] := by
  unfold unwrap at e ⊢
  split at e
  · rename_i h; rw [if_pos h]
  · rename_i h; rw [if_neg h]
    exact first_error t e
theorem unwrap_valid {t : List Int} (h : Bytes t) (e : (unwrap t).2 = 0) : run (~~~ 0#32) t = steps 32 (BitVec.allOnes 32) := by
  unfold unwrap at e
  split at e
  · exact absurd e (by decide)
  · rename_i hn
    have e2 : (first t).2.2 = 0 := e
    have hk := first_ok h e2
    have hr := num_range h
    refine first_valid h e2 ?_
    unfold first at e2 hk
    rw [if_neg (by omega)] at e2
    by_cases h1 : num t > 16777216
    · rw [if_pos h1] at e2
      exact absurd e2 (by decide)
    · rw [if_neg h1] at e2
      by_cases h2 : num t > (t.length : Int) - 8
      · rw [if_pos h2] at e2
        exact absurd e2 (by decide)
      · omega
theorem u8_range (x y : Int) : 0 ≤ Go.bits .xor .u8 x y ∧ Go.bits .xor .u8 x y < 256 := by
  show 0 ≤ IntKind.u8.wrap _ ∧ IntKind.u8.wrap _ < 256
  rw [IntKind.wrap_u8']
  omega
theorem set_getD (l : List Int) (i j : Nat) (v : Int) (h : i ≠ j) : (l.set i v).getD j 0 = l.getD j 0 := by
  rw [List.getD_eq_getElem?_getD, List.getD_eq_getElem?_getD, List.getElem?_set_ne h]
theorem burst_l0 (p : List Int) (hp : Bytes p) (hpl : p.length ≤ 16777216) (a1 a2 : Int) (i0 : Nat) (hi0 : Int.tmod (wrap64 a1) ((frame p).length : Int) = i0) (hlt : i0 < (frame p).length) (n : Nat) :
    ∀ (e j : Nat) (t : List Int), j + n = 4 → Bytes t → t.length = (frame p).length → (∀ i, (i < i0 ∨ i0 + 4 ≤ i) → t.getD i 0 = (frame p).getD i 0) →
      dragnetlaw01_CrcBurst.l0 (n + 1 + e) p a1 a2 (frame p) t j = some true := by
  have hfl := frame_length p
  induction n with
  | zero =>
    intro e j t hj hb hl hz
    rw [show 0 + 1 + e = e + 1 from by omega]
    simp only [dragnetlaw01_CrcBurst.l0]
    rw [if_neg (by omega), unwrap_f hb (by omega), Option.bind_some, same_f hb (frame_bytes hp), Option.bind_some]
    by_cases q : t = frame p
    · subst q
      rw [if_pos (by simp), unwrap_frame hp hpl]
      simp only []
      rw [if_pos trivial, same_refl]
      rfl
    · rw [if_neg (by simpa using q)]
      by_cases u : (unwrap t).2 = 0
      · have h1 := unwrap_valid hb u
        have h2 := unwrap_valid (frame_bytes hp) (by rw [unwrap_frame hp hpl])
        exact absurd (valid_burst t (frame p) hb (frame_bytes hp) hl i0 hz (h1.trans h2.symm)) q
      · rw [if_neg u, unwrap_error t u]
        rfl
  | succ n ih =>
    intro e j t hj hb hl hz
    rw [show n + 1 + 1 + e = (n + 1 + e) + 1 from by omega]
    simp only [dragnetlaw01_CrcBurst.l0]
    rw [if_pos (by omega), if_neg (by omega), hi0, wid (x := (i0 : Int) + (j : Int)) (by omega) (by omega), wid (x := (j : Int) + 1) (by omega) (by omega), show ((j : Int) + 1) = ((j + 1 : Nat) : Int) from by omega]
    by_cases c : (i0 : Int) + (j : Int) < ((frame p).length : Int)
    · rw [if_pos c, if_pos (by omega), if_pos (by omega), if_pos (by rw [wid (by omega) (by omega)]; omega)]
      refine ih e (j + 1) _ (by omega) ?_ (by rw [List.length_set]; exact hl) ?_
      · intro x hx
        rcases List.mem_or_eq_of_mem_set hx with hx | rfl
        · exact hb x hx
        · exact u8_range _ _
      · intro i hi
        rw [show ((i0 : Int) + (j : Int)).toNat = i0 + j from by omega, set_getD _ _ _ _ (by omega)]
        exact hz i hi
    · rw [if_neg c]
      exact ih e (j + 1) t (by omega) hb hl hz
theorem CrcBurst_row (l0 : List Int) (a1 a2 : Int) (y0 : l0.length * 1 ≤ 140737488351232) (w0 : ∀ x ∈ l0, (Lit.int .u8 x).wf = true) (w1 : (Lit.int .u32 a1).wf = true) (_ : (Lit.int .u32 a2).wf = true) : ∃ k, dragnetlaw01_CrcBurst.f k l0 a1 a2 = some true := by
  have hb := bytes_of_wf w0
  have ha : 0 ≤ a1 ∧ a1 < 4294967296 := by
    simp [Lit.wf, IntKind.min, IntKind.max, IntKind.signed, IntKind.bits] at w1
    omega
  refine ⟨10, ?_⟩
  unfold dragnetlaw01_CrcBurst.f dragnetlaw01_alive.f
  rw [Option.bind_some, if_pos rfl]
  by_cases h : l0.length ≤ 16777216
  · have hfl := frame_length l0
    rw [wrap_f l0 h, Option.bind_some]
    simp only []
    rw [if_pos trivial, copy_f _ (by omega), Option.bind_some]
    obtain ⟨c, rfl⟩ := Int.eq_ofNat_of_zero_le ha.1
    have ht : Int.tmod (wrap64 (c : Int)) ((frame l0).length : Int) = ((c % (frame l0).length : Nat) : Int) := by
      rw [wid (by omega) (by omega)]
      exact (Int.ofNat_tmod _ _).symm
    exact burst_l0 l0 hb h c a2 (c % (frame l0).length) ht (Nat.mod_lt _ (by omega)) 4 5 0 (frame l0) (by omega) (frame_bytes hb) rfl (fun _ _ => rfl)
  · rw [wrap_long l0 (by omega), Option.bind_some]
    simp only []
    rw [if_neg (by decide)]
    simp
    omega
end Go.Proofs.YtoliinokdbppoaaDoor.Crc
