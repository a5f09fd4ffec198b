/- What the program and the reference make of bytes that are to be a frame is the one plain function 'first' (and 'unwrap'); the law CrcUnwraps in plain form. -/
import Derived.Test.YtoliinokdbppoaaDoorCrcA
import Derived.Test.YtoliinokdbppoaaDoorPx4
namespace Go.Proofs.YtoliinokdbppoaaDoor.Crc
open Go.RowKit Go.Proofs.YtoliinokdbppoaaDoorW.PrintWords Go.Proofs.YtoliinokdbppoaaDoorW.PrintLast Go.Proofs.YtoliinokdbppoaaDoor.P

theorem wid {x : Int} (h0 : -9223372036854775808 ≤ x) (h1 : x ≤ 9223372036854775807) : wrap64 x = x := by
  unfold wrap64
  omega
theorem rd_bytes {l : List Int} (h : Bytes l) (i : Int) : 0 ≤ rd l i ∧ rd l i < 256 := by
  unfold rd
  rw [List.getD_eq_getElem?_getD]
  by_cases hi : i.toNat < l.length
  · rw [List.getElem?_eq_getElem hi]
    exact h _ (List.getElem_mem hi)
  · rw [List.getElem?_eq_none (by omega)]
    decide
theorem Bytes.take {l : List Int} (h : Bytes l) (n : Nat) : Bytes (l.take n) := fun x hx => h x (List.mem_of_mem_take hx)
theorem Bytes.drop {l : List Int} (h : Bytes l) (n : Nat) : Bytes (l.drop n) := fun x hx => h x (List.mem_of_mem_drop hx)
theorem Bytes.append {l m : List Int} (h : Bytes l) (h' : Bytes m) : Bytes (l ++ m) := fun x hx => (List.mem_append.1 hx).elim (h x) (h' x)
theorem four_bytes (n : Int) : Bytes (four n) := by
  intro x hx
  simp only [four, List.mem_cons, List.not_mem_nil, or_false] at hx
  omega
def num (l : List Int) : Int := rd l 0 + rd l 1 * 256 + rd l 2 * 65536 + rd l 3 * 16777216
theorem num_range {l : List Int} (h : Bytes l) : 0 ≤ num l ∧ num l < 4294967296 := by
  have h0 := rd_bytes h 0
  have h1 := rd_bytes h 1
  have h2 := rd_bytes h 2
  have h3 := rd_bytes h 3
  unfold num
  omega
theorem num_four {x : Int} (h0 : 0 ≤ x) (h1 : x < 4294967296) : num (four x) = x := by
  show x % 256 + x / 256 % 256 * 256 + x / 65536 % 256 * 65536 + x / 16777216 % 256 * 16777216 = x
  omega
theorem four_num {l : List Int} (h : Bytes l) (hl : 4 ≤ l.length) : four (num l) = l.take 4 := by
  match l, hl with
  | a :: b :: c :: d :: r, _ =>
    have ha := h a (by simp)
    have hb := h b (by simp)
    have hc := h c (by simp)
    have hd := h d (by simp)
    show [(a + b * 256 + c * 65536 + d * 16777216) % 256, (a + b * 256 + c * 65536 + d * 16777216) / 256 % 256, (a + b * 256 + c * 65536 + d * 16777216) / 65536 % 256, (a + b * 256 + c * 65536 + d * 16777216) / 16777216 % 256] = [a, b, c, d]
    have e0 : (a + b * 256 + c * 65536 + d * 16777216) % 256 = a := by omega
    have e1 : (a + b * 256 + c * 65536 + d * 16777216) / 256 % 256 = b := by omega
    have e2 : (a + b * 256 + c * 65536 + d * 16777216) / 65536 % 256 = c := by omega
    have e3 : (a + b * 256 + c * 65536 + d * 16777216) / 16777216 % 256 = d := by omega
    rw [e0, e1, e2, e3]
theorem or_add (i : Nat) (x y : Int) (h0 : 0 ≤ x) (h1 : x < 2 ^ i) (h2 : 0 ≤ y) (h3 : y * 2 ^ i < 4294967296) (h4 : x < 4294967296) : Go.bits .or .u32 x (y * 2 ^ i) = x + y * 2 ^ i := by
  obtain ⟨a, rfl⟩ := Int.eq_ofNat_of_zero_le h0
  obtain ⟨b, rfl⟩ := Int.eq_ofNat_of_zero_le h2
  have e : ((b : Int) * 2 ^ i) = ((b * 2 ^ i : Nat) : Int) := by simp
  have h1' : a < 2 ^ i := by
    have : ((2 ^ i : Nat) : Int) = 2 ^ i := by simp
    omega
  rw [e] at h3 ⊢
  rw [u32_or _ _ (by omega) (by omega) (by omega) (by omega)]
  rw [Int.toNat_natCast, Int.toNat_natCast]
  have := Nat.shiftLeft_add_eq_or_of_lt h1' b
  rw [Nat.shiftLeft_eq] at this
  rw [Nat.or_comm, ← this]
  omega
theorem number_f {l : List Int} (h : Bytes l) (hl : 4 ≤ l.length) : crc_number.f l = some (num l) := by
  have h0 := rd_bytes h 0
  have h1 := rd_bytes h 1
  have h2 := rd_bytes h 2
  have h3 := rd_bytes h 3
  unfold crc_number.f num
  rw [if_pos (by omega), if_pos (by omega), if_pos (by omega), if_pos (by omega)]
  have m0 : rd l 0 % 4294967296 = rd l 0 := by omega
  have m1 : rd l 1 % 4294967296 * 256 % 4294967296 = rd l 1 * 2 ^ 8 := by omega
  have m2 : rd l 2 % 4294967296 * 65536 % 4294967296 = rd l 2 * 2 ^ 16 := by omega
  have m3 : rd l 3 % 4294967296 * 16777216 % 4294967296 = rd l 3 * 2 ^ 24 := by omega
  rw [m0, m1, m2, m3, or_add 8 _ _ (by omega) (by omega) (by omega) (by omega) (by omega), or_add 16 _ _ (by omega) (by omega) (by omega) (by omega) (by omega), or_add 24 _ _ (by omega) (by omega) (by omega) (by omega) (by omega)]
  congr 1
theorem length_f {l : List Int} (h : Bytes l) (hl : 4 ≤ l.length) : dragnetref01_length.f l = some (num l) := by
  have h0 := rd_bytes h 0
  have h1 := rd_bytes h 1
  have h2 := rd_bytes h 2
  have h3 := rd_bytes h 3
  unfold dragnetref01_length.f num
  rw [if_pos (by omega), if_pos (by omega), if_pos (by omega), if_pos (by omega)]
  rw [wid (x := rd l 0) (by omega) (by omega), wid (x := rd l 1) (by omega) (by omega), wid (x := rd l 2) (by omega) (by omega), wid (x := rd l 3) (by omega) (by omega)]
  rw [wid (x := rd l 1 * 256) (by omega) (by omega), wid (x := rd l 2 * 65536) (by omega) (by omega), wid (x := rd l 3 * 16777216) (by omega) (by omega)]
  rw [wid (x := rd l 0 + rd l 1 * 256) (by omega) (by omega), wid (x := rd l 0 + rd l 1 * 256 + rd l 2 * 65536) (by omega) (by omega), wid (by omega) (by omega)]
theorem map_inj {a b : List Int} (ha : Bytes a) (hb : Bytes b) (h : (a.map fun n => UInt8.ofNat n.toNat) = b.map fun n => UInt8.ofNat n.toNat) : a = b := by
  induction a generalizing b with
  | nil =>
    cases b with
    | nil => rfl
    | cons y b => simp at h
  | cons x a ih =>
    cases b with
    | nil => simp at h
    | cons y b =>
      simp only [List.map_cons, List.cons.injEq] at h
      have hx := ha x (by simp)
      have hy := hb y (by simp)
      have h1 := congrArg UInt8.toNat h.1
      rw [UInt8.toNat_ofNat', UInt8.toNat_ofNat'] at h1
      have : x = y := by omega
      rw [this, ih (fun z hz => ha z (List.mem_cons_of_mem _ hz)) (fun z hz => hb z (List.mem_cons_of_mem _ hz)) h.2]
theorem same_f {a b : List Int} (ha : Bytes a) (hb : Bytes b) : dragnetref01_Same.f a b = some (decide (a = b)) := by
  unfold dragnetref01_Same.f
  congr 1
  have ea : (strOfNums a).toList = a.map fun n => UInt8.ofNat n.toNat := ByteArray.toList_mk _
  have eb : (strOfNums b).toList = b.map fun n => UInt8.ofNat n.toNat := ByteArray.toList_mk _
  rw [ea, eb]
  by_cases h : a = b
  · subst h
    simp
  · rw [decide_eq_false h]
    rw [beq_eq_false_iff_ne]
    exact fun e => h (map_inj ha hb e)
/-- What bytes are that are to begin with a frame: its payload, its bytes; or an error. -/
def first (l : List Int) : List Int × Int × Int :=
  if l.length < 8 then ([], 0, 3) else if num l > 16777216 then ([], 0, 5) else if num l > (l.length : Int) - 8 then ([], 0, 3) else
  if u32 (sum 0#32 (l.take (4 + (num l).toNat))) = num (l.drop (4 + (num l).toNat)) then ((l.take (4 + (num l).toNat)).drop 4, num l + 8, 0) else ([], 0, 4)
def shape (l : List Int) : Int × Int :=
  if l.length < 8 then (0, 3) else if num l > 16777216 then (0, 5) else if num l > (l.length : Int) - 8 then (0, 3) else (num l, 0)
theorem shape_f {l : List Int} (h : Bytes l) (hl : l.length ≤ 140737488355328) : crc_shape.f l = some (shape l) := by
  unfold crc_shape.f shape
  by_cases h8 : l.length < 8
  · rw [if_pos (by omega), if_pos h8]
  · have hn := num_range h
    rw [if_neg (by omega), if_neg h8, number_f h (by omega), Option.bind_some, wid (by omega) (by omega), wid (x := (l.length : Int) - 4) (by omega) (by omega), wid (x := (l.length : Int) - 4 - 4) (by omega) (by omega)]
    by_cases h1 : num l > 16777216
    · rw [if_pos h1, if_pos h1]
    · rw [if_neg h1, if_neg h1]
      by_cases h2 : num l > (l.length : Int) - 8
      · rw [if_pos (by omega), if_pos h2]
      · rw [if_neg (by omega), if_neg h2]
theorem first_f {l : List Int} (h : Bytes l) (hl : l.length < 140737488355328) : crc_First.f l = some (first l) := by
  unfold crc_First.f
  rw [shape_f h (by omega), Option.bind_some]
  unfold shape first
  by_cases h8 : l.length < 8
  · rw [if_pos h8, if_pos h8]
    rfl
  · have hn := num_range h
    rw [if_neg h8, if_neg h8]
    by_cases h1 : num l > 16777216
    · rw [if_pos h1, if_pos h1]
      rfl
    · rw [if_neg h1, if_neg h1]
      by_cases h2 : num l > (l.length : Int) - 8
      · rw [if_pos h2, if_pos h2]
        rfl
      · rw [if_neg h2, if_neg h2]
        simp only []
        obtain ⟨m, hm⟩ := Int.eq_ofNat_of_zero_le hn.1
        rw [hm] at h1 h2 ⊢
        rw [if_pos trivial, wid (x := 4 + (m : Int)) (by omega) (by omega), if_pos (by omega), if_pos (by omega), Sum_f, Option.bind_some, show (4 + (m : Int)).toNat = 4 + m from by omega, number_f (h.drop _) (by rw [List.length_drop]; omega), Option.bind_some, Int.toNat_natCast]
        by_cases e : u32 (sum 0#32 (l.take (4 + m))) = num (l.drop (4 + m))
        · rw [if_pos e, if_pos e, if_pos (by omega)]
          unfold slices_Clone_byte_byte.f
          rw [if_pos (by rw [List.length_drop, List.length_take]; omega), Option.bind_some, wid (by omega) (by omega)]
          rw [show 4 + (m : Int) + 4 = (m : Int) + 8 from by omega]
        · rw [if_neg e, if_neg e]
theorem frame_first {l : List Int} (h : Bytes l) (m : Nat) (hm : num l = m) (h1 : m ≤ 16777216) (h2 : m + 8 ≤ l.length) :
    decide (frame ((l.take (4 + m)).drop 4) = l.take (m + 8)) = decide (u32 (sum 0#32 (l.take (4 + m))) = num (l.drop (4 + m))) := by
  have hp : ((l.take (4 + m)).drop 4).length = m := by
    rw [List.length_drop, List.length_take]
    omega
  have h4 := four_num h (by omega)
  have hb : head ((l.take (4 + m)).drop 4) ++ (l.take (4 + m)).drop 4 = l.take (4 + m) := by
    unfold head
    rw [hp, ← hm, h4]
    have : l.take 4 = (l.take (4 + m)).take 4 := by
      rw [List.take_take]
      congr 1
      omega
    rw [this, List.take_append_drop]
  have ht : l.take (m + 8) = l.take (4 + m) ++ (l.drop (4 + m)).take 4 := by
    rw [← List.take_add]
    congr 1
    omega
  have hd := four_num (h.drop (4 + m)) (by rw [List.length_drop]; omega)
  have hr := num_range (h.drop (4 + m))
  have hs := N_lt (sum 0#32 (l.take (4 + m)))
  unfold frame
  rw [hb, ht, ← hd]
  by_cases e : u32 (sum 0#32 (l.take (4 + m))) = num (l.drop (4 + m))
  · rw [decide_eq_true e, e]
    simp
  · rw [decide_eq_false e]
    apply decide_eq_false
    intro z
    have z2 := List.append_cancel_left z
    have z3 := congrArg num z2
    rw [num_four hs.1 hs.2, num_four hr.1 hr.2] at z3
    exact e z3
theorem frame_bytes {l : List Int} (h : Bytes l) : Bytes (frame l) := by
  unfold frame head
  exact ((four_bytes _).append h).append (four_bytes _)
theorem refFirst_f {l : List Int} (h : Bytes l) (hl : l.length < 140737488355328) (k : Nat) (hk : 10 * l.length + 50 ≤ k) : dragnetref01_First.f k l = some (first l) := by
  unfold dragnetref01_First.f first
  by_cases h8 : l.length < 8
  · rw [if_pos (by omega), if_pos h8]
  · have hn := num_range h
    rw [if_neg (by omega), if_neg h8, length_f h (by omega), Option.bind_some, wid (x := (l.length : Int) - 8) (by omega) (by omega)]
    by_cases h1 : num l > 16777216
    · rw [if_pos h1, if_pos h1]
    · rw [if_neg h1, if_neg h1]
      by_cases h2 : num l > (l.length : Int) - 8
      · rw [if_pos h2, if_pos h2]
      · rw [if_neg h2, if_neg h2]
        obtain ⟨m, hm⟩ := Int.eq_ofNat_of_zero_le hn.1
        rw [hm] at h1 h2 ⊢
        have hp : ((l.take (4 + m)).drop 4).length = m := by
          rw [List.length_drop, List.length_take]
          omega
        rw [wid (x := 4 + (m : Int)) (by omega) (by omega), if_pos (by omega), if_pos (by omega), show (4 + (m : Int)).toNat = 4 + m from by omega, copy_f _ (by rw [hp]; omega), Option.bind_some, refFrame_f _ (by rw [hp]; omega) k (by rw [hp]; omega), Option.bind_some]
        rw [wid (x := (m : Int) + 8) (by omega) (by omega), if_pos (by omega), if_pos (by omega), show ((m : Int) + 8).toNat = m + 8 from by omega, same_f (frame_bytes ((h.take _).drop _)) (h.take _), Option.bind_some, frame_first h m hm (by omega) (by omega), Int.toNat_natCast]
        by_cases e : u32 (sum 0#32 (l.take (4 + m))) = num (l.drop (4 + m))
        · rw [if_pos (decide_eq_true e), if_pos e]
        · rw [if_neg (by rw [decide_eq_false e]; simp), if_neg e]
/-- What bytes are that are to be one frame. -/
def unwrap (l : List Int) : List Int × Int :=
  if 8 ≤ l.length ∧ num l < (l.length : Int) - 8 ∧ num l ≤ 16777216 then ([], 2) else ((first l).1, (first l).2.2)
theorem unwrap_f {l : List Int} (h : Bytes l) (hl : l.length < 140737488355328) : crc_Unwrap.f l = some (unwrap l) := by
  unfold crc_Unwrap.f
  rw [shape_f h (by omega), Option.bind_some, first_f h hl, Option.bind_some]
  unfold shape unwrap
  by_cases h8 : l.length < 8
  · rw [if_pos h8, if_neg (show ¬ ((0 : Int), (3 : Int)).2 = 0 by decide), if_neg (by omega)]
  · have hn := num_range h
    rw [if_neg h8]
    by_cases h1 : num l > 16777216
    · rw [if_pos h1, if_neg (show ¬ ((0 : Int), (5 : Int)).2 = 0 by decide), if_neg (by omega)]
    · rw [if_neg h1]
      by_cases h2 : num l > (l.length : Int) - 8
      · rw [if_pos h2, if_neg (show ¬ ((0 : Int), (3 : Int)).2 = 0 by decide), if_neg (by omega)]
      · rw [if_neg h2]
        simp only []
        rw [if_pos trivial, wid (x := 4 + num l) (by omega) (by omega), wid (by omega) (by omega)]
        by_cases h3 : num l < (l.length : Int) - 8
        · rw [if_pos (by omega), if_pos (by omega)]
        · rw [if_neg (by omega), if_neg (by omega)]
theorem refUnwrap_f {l : List Int} (h : Bytes l) (hl : l.length < 140737488355328) (k : Nat) (hk : 10 * l.length + 50 ≤ k) : dragnetref01_Unwrap.f k l = some (unwrap l) := by
  unfold dragnetref01_Unwrap.f
  rw [refFirst_f h hl k hk, Option.bind_some]
  unfold unwrap
  by_cases h8 : l.length < 8
  · rw [if_neg (by omega), if_neg (by omega)]
  · have hn := num_range h
    rw [if_pos (by omega), length_f h (by omega), Option.bind_some, wid (x := (l.length : Int) - 8) (by omega) (by omega)]
    by_cases h3 : num l < (l.length : Int) - 8
    · rw [if_pos h3]
      by_cases h1 : num l ≤ 16777216
      · rw [if_pos h1, if_pos (by omega)]
      · rw [if_neg h1, if_neg (by omega)]
    · rw [if_neg h3, if_neg (by omega)]
theorem unwraps_l0 (x0 : List Int) (n : Nat) : ∀ (e : Nat) (x4 : List Int) (i : Nat), i + n = x4.length → x4.length ≤ 140737488355328 → dragnetlaw01_CrcUnwraps.l0 (n + 1 + e) x0 x0 x4 true i = some true := by
  induction n with
  | zero =>
    intro e x4 i hi _
    rw [show 0 + 1 + e = e + 1 from by omega]
    simp only [dragnetlaw01_CrcUnwraps.l0]
    rw [if_neg (by omega), same_refl]
    rfl
  | succ n ih =>
    intro e x4 i hi hl
    rw [show n + 1 + 1 + e = (n + 1 + e) + 1 from by omega]
    simp only [dragnetlaw01_CrcUnwraps.l0]
    rw [if_pos (by omega), if_pos (by omega), wrap_one (n := x4.length) (by omega) (by omega) hl, show ((i : Int) + 1) = ((i + 1 : Nat) : Int) from by omega]
    exact ih e _ (i + 1) (by rw [List.length_set]; omega) (by rw [List.length_set]; exact hl)
theorem first_length (l : List Int) : (first l).1.length ≤ l.length := by
  unfold first
  split
  · simp
  · split
    · simp
    · split
      · simp
      · split
        · simp only [List.length_drop, List.length_take]
          omega
        · simp
theorem CrcUnwraps_row (l0 : List Int) (y0 : l0.length * 1 ≤ 140737488351232) (w0 : ∀ x ∈ l0, (Lit.int .u8 x).wf = true) : ∃ k, dragnetlaw01_CrcUnwraps.f k l0 = some true := by
  have hb := bytes_of_wf w0
  refine ⟨11 * l0.length + 60, ?_⟩
  unfold dragnetlaw01_CrcUnwraps.f dragnetlaw01_alive.f
  rw [Option.bind_some, if_pos rfl, copy_f l0 (by omega), Option.bind_some, first_f hb (by omega), Option.bind_some, refFirst_f hb (by omega) _ (by omega), Option.bind_some, unwrap_f hb (by omega), Option.bind_some, refUnwrap_f hb (by omega) _ (by omega), Option.bind_some, same_refl, Option.bind_some, if_pos rfl, if_pos rfl, if_pos rfl, same_refl, Option.bind_some, if_pos rfl]
  rw [show 11 * l0.length + 60 = (11 * l0.length + 59) + 1 from by omega]
  simp only [dragnetlaw01_CrcUnwraps.j0, BEq.rfl]
  have hf := first_length l0
  have := unwraps_l0 l0 (first l0).1.length (11 * l0.length + 58 - (first l0).1.length) (first l0).1 0 (by omega) (by omega)
  rw [show (first l0).1.length + 1 + (11 * l0.length + 58 - (first l0).1.length) = 11 * l0.length + 59 from by omega] at this
  exact this
end Go.Proofs.YtoliinokdbppoaaDoor.Crc
