/- Walks: each Go function told here comes to what the plain function beside it says, wherever that one answers. -/
import Derived.Test.YtdcifmonhaklcaaDoorTaAx0
import Derived.Test.YtdcifmonhaklcaaDoorTaAx2
namespace Go.Proofs.YtdcifmonhaklcaaDoor.A
open Go.RowKit YtdcifmonhaklcaaDoorW.PrintWords YtdcifmonhaklcaaDoorW.PrintLast YtdcifmonhaklcaaDoorW.PrintMore
attribute [local go_sem] max2_int min2_int max_two min_two
set_option linter.unusedVariables false
set_option linter.unusedSimpArgs false
def leN : Nat → Int → List Int
 | 0, _ => []
 | k + 1, v => v % 256 :: leN k (v / 256)
def leV : List Int → Int
 | [] => 0
 | x :: r => x + 256 * leV r
def szN (v : Int) : Nat := (Lib.bitLen v.toNat + 7) / 8
def putB (v : Int) : List Int := if v ≤ 247 then [v] else (247 + (szN v : Int)) :: leN (szN v) v
def takeN : List Int → Int × Int × Int
 | [] => (0, 0, 3)
 | b :: r => if b ≤ 247 then (b, 1, 0) else if (r.length : Int) < b - 247 then (0, 0, 3)
  else if leV (r.take (b - 247).toNat) ≤ 247 ∨ (szN (leV (r.take (b - 247).toNat)) : Int) < b - 247 then (0, 0, 2) else (leV (r.take (b - 247).toNat), b - 246, 0)
theorem takeN_cons (b : Int) (r : List Int) : takeN (b :: r) = if b ≤ 247 then (b, 1, 0) else if (r.length : Int) < b - 247 then (0, 0, 3)
  else if leV (r.take (b - 247).toNat) ≤ 247 ∨ (szN (leV (r.take (b - 247).toNat)) : Int) < b - 247 then (0, 0, 2) else (leV (r.take (b - 247).toNat), b - 246, 0) := rfl
theorem leN_length : ∀ k v, (leN k v).length = k
 | 0, _ => rfl
 | k + 1, v => by
  unfold leN
  rw [List.length_cons, leN_length k]
theorem leN_bytes : ∀ (k : Nat) (v : Int), ∀ x ∈ leN k v, 0 ≤ x ∧ x < 256
 | 0, _ => fun x hx => by simp [leN] at hx
 | k + 1, v => fun x hx => by
  unfold leN at hx
  rcases List.mem_cons.1 hx with rfl | hx
  ·omega
  ·exact leN_bytes k _ x hx
theorem leV_leN : ∀ (k : Nat) (v : Int), 0 ≤ v → v < 256 ^ k → leV (leN k v) = v
 | 0, v, h0, h1 => by
  simp at h1
  unfold leN leV
  omega
 | k + 1, v, h0, h1 => by
  unfold leN leV
  rw [leV_leN k _ (by omega) (by rw [Int.pow_succ] at h1; omega)]
  omega
theorem leV_range : ∀ (l : List Int), (∀ x ∈ l, 0 ≤ x ∧ x < 256) → 0 ≤ leV l ∧ leV l < 256 ^ l.length
 | [], _ => by simp [leV]
 | x :: r, h => by
  have h1 := leV_range r (fun y hy => h y (List.mem_cons_of_mem _ hy))
  have h2 := h x List.mem_cons_self
  unfold leV
  rw [List.length_cons, Int.pow_succ]
  omega
theorem leV_append : ∀ (l m : List Int), leV (l ++ m) = leV l + 256 ^ l.length * leV m
 | [], m => by simp [leV]
 | x :: r, m => by
  rw [List.cons_append, leV, leV, leV_append r m, List.length_cons, Int.pow_succ, Int.mul_add, Int.mul_comm (256 ^ r.length) 256, Int.mul_assoc]
  omega
theorem szN_le {v : Int} {k : Nat} (hk : k ≤ 8) (h0 : 0 ≤ v) (h : v < 256 ^ k) : szN v ≤ k := by
 have h1 : v.toNat < 2 ^ (8 * k) := by
  have h3 : v.toNat < 256 ^ k := (Int.toNat_lt h0).2 (by rw [Int.natCast_pow]; exact h)
  rwa [Nat.pow_mul]
 have h4 := Lib.bitLen_le v.toNat (8 * k) (by omega) h1
 unfold szN
 omega
theorem szN_low {v : Int} (h0 : 0 < v) (h : v < 18446744073709551616) : v < 256 ^ szN v ∧ 1 ≤ szN v ∧ szN v ≤ 8 := by
  have h1 : v.toNat < 2 ^ 64 := by omega
  obtain ⟨b1, b2, b3⟩ := Lib.bitLenAux_bounds 64 v.toNat h1 (by omega)
  have h8 : szN v ≤ 8 := szN_le (Nat.le_refl _) (by omega) (by have : (256 : Int) ^ 8 = 18446744073709551616 := by decide
                                                               omega)
  have e : Lib.bitLen v.toNat = Lib.bitLenAux 64 v.toNat := rfl
  have h5 : Lib.bitLen v.toNat ≤ 8 * szN v := by unfold szN; omega
  have h6 : v.toNat < 2 ^ (8 * szN v) := Nat.lt_of_lt_of_le b3 (Nat.pow_le_pow_right (by decide) (by rw [← e]; exact h5))
  refine ⟨?_, ?_, h8⟩
  · rw [Nat.pow_mul] at h6
    have h7 := (Int.toNat_lt (Int.le_of_lt h0)).1 (show v.toNat < 256 ^ szN v from h6)
    rw [Int.natCast_pow] at h7
    exact h7
  · unfold szN
    rw [e]
    omega
theorem take_put {v : Int} (h0 : 0 ≤ v) (h : v < 18446744073709551616) (r : List Int) : takeN (putB v ++ r) = (v, ((putB v).length : Int), 0) := by
 unfold putB
 by_cases hv : v ≤ 247
 ·rw [if_pos hv]
  show takeN (v :: r) = _
  rw [takeN_cons, if_pos hv]
  rfl
 ·obtain ⟨s1, s2, s3⟩ := szN_low (by omega : 0 < v) h
  have hl := leN_length (szN v) v
  rw [if_neg hv, List.cons_append]
  rw [takeN_cons]
  have e1 : (247 + (szN v : Int)) - 247 = (szN v : Int) := by omega
  rw [if_neg (by omega), e1, if_neg (by rw [List.length_append, hl]; omega), Int.toNat_natCast, show (leN (szN v) v ++ r).take (szN v) = leN (szN v) v from by rw [List.take_append_of_le_length (by omega), List.take_of_length_le (by omega)], leV_leN _ _ h0 s1, if_neg (by omega), List.length_cons, hl]
  congr 2
  omega
theorem putB_length {v : Int} (h0 : 0 ≤ v) (h : v < 18446744073709551616) : 1 ≤ (putB v).length ∧ (putB v).length ≤ 9 := by
 unfold putB
 by_cases hv : v ≤ 247
 ·rw [if_pos hv]
  exact ⟨Nat.le_refl 1, (by decide : 1 ≤ 9)⟩
 ·obtain ⟨s1, s2, s3⟩ := szN_low (by omega : 0 < v) h
  rw [if_neg hv, List.length_cons, leN_length]
  omega
theorem size_f {v : Int} (h0 : 0 ≤ v) (h : v < 18446744073709551616) : num_size.f v = some (szN v : Int) := by
 unfold num_size.f bits_Len64.f
 rw [if_pos ⟨h0, by omega⟩, Option.bind_some]
 have h1 := Lib.bitLen_le v.toNat 64 (Nat.le_refl _) (by omega)
 unfold szN
 have e1 : wrap64 ((Lib.bitLen v.toNat : Int) + 7) = (Lib.bitLen v.toNat : Int) + 7 := by unfold wrap64; omega
 rw [e1, Int.tdiv_eq_ediv_of_nonneg (by omega)]
 congr 1
 unfold wrap64
 omega
theorem put_l0 (s : Nat) (hs : s ≤ 8) (n : Nat) : ∀ (e j : Nat) (v : Int) (acc : List Int), j + n = s → acc.length + n < 140737488355328 → num_Put.l0 (n + 1 + e) v acc s j = some (acc ++ leN n v) := by
 induction n with
 | zero =>
  intro e j v acc hj _
  rw [show 0 + 1 + e = e + 1 by omega, num_Put.l0, if_neg (by omega), leN, List.append_nil]
 | succ n ih =>
  intro e j v acc hj hl
  have hw : wrap64 ((j : Int) + 1) = ((j + 1 : Nat) : Int) := by unfold wrap64; omega
  rw [show n + 1 + 1 + e = (n + 1 + e) + 1 by omega, num_Put.l0, if_pos (by omega), if_pos (by omega), hw, ih e (j + 1) _ _ (by omega) (by rw [List.length_append]; simp; omega), leN, List.append_assoc]
  rfl
theorem put_f {v : Int} (h0 : 0 ≤ v) (h : v < 18446744073709551616) (l : List Int) (hl : l.length < 140737488355000) {k : Nat} (hk : 10 ≤ k) : num_Put.f k l v = some (l ++ putB v) := by
 unfold num_Put.f slices_Clone_byte_byte.f slices_Grow_byte_byte.f putB
 rw [if_pos (by omega), Option.bind_some, if_pos ⟨by decide, by omega⟩, Option.bind_some]
 by_cases hv : v ≤ 247
 ·rw [if_pos hv, if_pos hv, if_pos (by omega)]
  congr 3
  omega
 ·obtain ⟨s1, s2, s3⟩ := szN_low (by omega : 0 < v) h
  obtain ⟨e, rfl⟩ : ∃ e, k = szN v + 1 + e := ⟨k - szN v - 1, by omega⟩
  have hw : wrap64 (247 + (szN v : Int)) % 256 = 247 + (szN v : Int) := by unfold wrap64; omega
  rw [if_neg hv, if_neg hv, size_f h0 h, Option.bind_some, if_pos (by omega), hw]
  have := put_l0 (szN v) s3 (szN v) e 0 v (l ++ [247 + (szN v : Int)]) (by omega) (by rw [List.length_append]; simp; omega)
  rw [show ((0 : Nat) : Int) = 0 from rfl] at this
  rw [this, List.append_assoc]
  rfl
def refB (x : S63) : List Int := putB x.f0 ++ putB x.f1 ++ putB x.f2 ++ putB x.f3
def flatB : List S63 → List Int
 | [] => []
 | x :: r => refB x ++ flatB r
theorem flatB_append : ∀ l m : List S63, flatB (l ++ m) = flatB l ++ flatB m
 | [], _ => rfl
 | x :: r, m => by rw [List.cons_append, flatB, flatB, flatB_append r m, List.append_assoc]
def accB (l : List S63) (i : Nat) : List Int := putB (l.length : Int) ++ flatB (l.take i)
def fldC (x : S63) : Nat → Int
 | 0 => x.f0
 | 1 => x.f1
 | 2 => x.f2
 | _ => x.f3
def preB (x : S63) : Nat → List Int
 | 0 => []
 | j + 1 => preB x j ++ putB (fldC x j)
theorem preB_all (x : S63) : preB x 4 = refB x := by
 show (([] ++ putB x.f0) ++ putB x.f1) ++ putB x.f2 ++ putB x.f3 = _
 rw [List.nil_append]
 rfl
def bytesC (l : List S63) (next seq : Int) : List Int := accB l l.length ++ putB next ++ putB seq
theorem take63 (l : List S63) (i : Nat) (h : i < l.length) : l.take (i + 1) = l.take i ++ [rd_T63 l (i : Int)] := by
 unfold rd_T63
 rw [Int.toNat_natCast, List.getD_eq_getElem?_getD, List.getElem?_eq_getElem h, List.take_succ_eq_append_getElem h]
 rfl
theorem accB_succ (l : List S63) (i : Nat) (h : i < l.length) : accB l (i + 1) = accB l i ++ refB (rd_T63 l (i : Int)) := by
 unfold accB
 rw [take63 l i h, flatB_append, flatB, flatB, List.append_nil, List.append_assoc]
def RngC (x : S63) : Prop := ∀ j, 0 ≤ fldC x j ∧ fldC x j < 18446744073709551616
theorem ok_rng {l : List S63} {next seq : Int} (h : FormedC l next seq) {i : Nat} (hi : i < l.length) : RngC (rd_T63 l (i : Int)) := by
 have h1 := h.2.2.2.2.2 i hi
 have h2 := endC_ge (i := i) (fun j hj => h.2.2.2.2.2 j (by omega))
 have := h.2.2.1
 have := h.2.2.2.2.1
 unfold okC at h1
 intro j
 match j with
 | 0 => exact ⟨by show 0 ≤ (rd_T63 l (i : Int)).f0; omega, by show (rd_T63 l (i : Int)).f0 < _; omega⟩
 | 1 => exact ⟨by show 0 ≤ (rd_T63 l (i : Int)).f1; omega, by show (rd_T63 l (i : Int)).f1 < _; omega⟩
 | 2 => exact ⟨by show 0 ≤ (rd_T63 l (i : Int)).f2; omega, by show (rd_T63 l (i : Int)).f2 < _; omega⟩
 | n + 3 => exact ⟨by show 0 ≤ (rd_T63 l (i : Int)).f3; omega, by show (rd_T63 l (i : Int)).f3 < _; omega⟩
theorem preB_length {x : S63} (h : RngC x) : ∀ j, (preB x j).length ≤ 9 * j
 | 0 => Nat.le_refl _
 | j + 1 => by
  have h1 := preB_length h j
  have h2 := (putB_length (h j).1 (h j).2).2
  unfold preB
  rw [List.length_append]
  omega
theorem accB_length {l : List S63} {next seq : Int} (h : FormedC l next seq) : ∀ i, i ≤ l.length → (accB l i).length ≤ 9 + 36 * i
 | 0, _ => by
  have h1 := (putB_length (show (0 : Int) ≤ (l.length : Int) by omega) (by have := h.1; omega)).2
  unfold accB
  rw [List.take_zero, flatB, List.append_nil]
  exact h1
 | i + 1, hi => by
  have h1 := accB_length h i (by omega)
  have h2 := preB_length (ok_rng h (show i < l.length by omega)) 4
  rw [accB_succ l i (by omega), List.length_append, ← preB_all]
  omega
theorem wrapU64 (n : Int) : IntKind.u64.wrap n = n % 18446744073709551616 := by simp [IntKind.wrap, IntKind.bits, IntKind.signed]
theorem ix0 (a b c d : Int) (W : World) : (Instr.index 79 (.agg #[.int .i64 a, .int .i64 b, .int .i64 c, .int .i64 d]) (.int .i64 0)).run Tryd.prog W = .ok (.int .i64 a) W := by kernel_rfl
theorem ix1 (a b c d : Int) (W : World) : (Instr.index 79 (.agg #[.int .i64 a, .int .i64 b, .int .i64 c, .int .i64 d]) (.int .i64 1)).run Tryd.prog W = .ok (.int .i64 b) W := by kernel_rfl
theorem ix2 (a b c d : Int) (W : World) : (Instr.index 79 (.agg #[.int .i64 a, .int .i64 b, .int .i64 c, .int .i64 d]) (.int .i64 2)).run Tryd.prog W = .ok (.int .i64 c) W := by kernel_rfl
theorem ix3 (a b c d : Int) (W : World) : (Instr.index 79 (.agg #[.int .i64 a, .int .i64 b, .int .i64 c, .int .i64 d]) (.int .i64 3)).run Tryd.prog W = .ok (.int .i64 d) W := by kernel_rfl
theorem num_put_nil (k : Nat) (v : Int) (r : List Int) (w : World) (h : num_Put.f k [] v = some r) :
  Calls Tryd.prog 38 #[.slice none 0 0, .int .u64 v] w fun e w' => ∃ v0_ : Value, e = .returned (v0_) ∧ Kd.R (Kd.int .u8) 5 w' w.heap.size (fun _ => True) v0_ r ∧ Below w.heap.size w w' :=
 num_Put.calls k none 0 [] v r w (Kd.C_nil _ _) (Nat.le_refl _) h
def manifest_Put.f (l0_0 : List S63) (a0_1 : Int) (a0_2 : Int) : Option (List Int × Int) := if l0_0.length < 140737488355328 then (if FormedC l0_0 a0_1 a0_2 then crc_Wrap.f (bytesC l0_0 a0_1 a0_2) else some ([], 1)) else none
set_option maxHeartbeats 8000000 in
set_option maxRecDepth 100000 in
theorem manifest_Put.calls (A0_0 : Option Addr) (c0_0 : Nat) (l0_0 : List (S63)) (a0_1 : Int) (a0_2 : Int) (r1 : List Int) (r2 : Int) (w : World) (hr0_0 : Kd.C k63 w A0_0 l0_0.length l0_0) (hc0_0 : l0_0.length ≤ c0_0) (hG : GT w) (h : manifest_Put.f l0_0 a0_1 a0_2 = some (r1, r2)) :
  Calls Tryd.prog 15 #[.agg #[.slice A0_0 l0_0.length c0_0, .int .i64 a0_1, .int .i64 a0_2]] w fun e w' => ∃ v0_ : Value, e = .returned (.tuple #[v0_, .int .i64 r2]) ∧ Kd.R (Kd.int .u8) 5 w' w.heap.size (fun _ => True) v0_ r1 ∧ Below w.heap.size w w' := by
 unfold manifest_Put.f at h
 by_cases hl : l0_0.length < 140737488355328
 case neg => rw [if_neg hl] at h; cases h
 rw [if_pos hl] at h
 have HR := Aside0.mk hr0_0
 have HC := Aside0.mk hc0_0
 have HG := Aside0.mk hG
 have HB := Aside0.mk (Below.refl w.heap.size w)
 have HL := Aside0.mk hl
 clear hr0_0 hc0_0 hl hG
 have hu27 := Tryd.underlying27
 have hu63 := Tryd.underlying63
 have hu25 := Tryd.underlying25
 have hu79 := Tryd.underlying79
 by_cases hf : FormedC l0_0 a0_1 a0_2
 ·have HF := Aside0.mk (show manifest_Formed.f l0_0 a0_1 a0_2 = some true by unfold manifest_Formed.f; rw [if_pos HL.out, decide_eq_true hf])
  rw [if_pos hf] at h
  have HW := Aside0.mk h
  have HFO := Aside0.mk hf
  clear hf h
  have hcn : (l0_0.length : Int) % 18446744073709551616 = (l0_0.length : Int) := by have := HFO.out.1; omega
  have HP0 := Aside0.mk (show num_Put.f 10 [] (l0_0.length : Int) = some (putB (l0_0.length : Int)) from put_f (by omega) (by have := HFO.out.1; omega) [] (by decide) (Nat.le_refl _))
  have HACC := Aside0.mk (show accB l0_0 0 = putB (l0_0.length : Int) by unfold accB; rw [List.take_zero, flatB, List.append_nil])
  go_enter Tryd.func15, Tryd.ntmps15
  go_upto_region 4 with (first
   | ((with_reducible refine gate_dst (N := 1) rfl ?_); refine box_event ?hg (N := 1) ?hd (cs := #[.slice A0_0 l0_0.length c0_0, .int .i64 a0_1, .int .i64 a0_2]) (t := 27) ?hr ?_; (case hd => rfl); (case hg => rfl); (case hr => first | (go_simp; done) | (go_simp; rfl)); intro g1 hg1 w1 hbox hb; have HB_ := Aside0.mk (below_step HB.out hb); have CB1 := Aside0.mk hbox; clear hb hbox hg1 HB; have HB := HB_; clear HB_; have v10 : w1.cell? ⟨g1, 0, none⟩ = some (.slice A0_0 l0_0.length c0_0) := (blk_cell CB1.out 0).trans rfl; have v11 : w1.cell? ⟨g1, 1, none⟩ = some (.int .i64 a0_1) := (blk_cell CB1.out 1).trans rfl; have v12 : w1.cell? ⟨g1, 2, none⟩ = some (.int .i64 a0_2) := (blk_cell CB1.out 2).trans rfl)
   | (go_at_call 21; (with_reducible refine (manifest_Formed.calls A0_0 c0_0 l0_0 a0_1 a0_2 true _ (Kd.C_below HR.out HB.out) HC.out HF.out).mono ?_); rintro e w2 ⟨rfl, hb⟩; have HB_ := Aside0.mk (below_step HB.out hb); have CB1_ := Aside0.mk (blk_below CB1.out hb); clear HB CB1 hb v10 v11 v12; have HB := HB_; have CB1 := CB1_; clear HB_ CB1_; have v10 : w2.cell? ⟨g1, 0, none⟩ = some (.slice A0_0 l0_0.length c0_0) := (blk_cell CB1.out 0).trans rfl; have v11 : w2.cell? ⟨g1, 1, none⟩ = some (.int .i64 a0_1) := (blk_cell CB1.out 1).trans rfl; have v12 : w2.cell? ⟨g1, 2, none⟩ = some (.int .i64 a0_2) := (blk_cell CB1.out 2).trans rfl)
   | (go_at_call 38; (with_reducible refine (num_put_nil 10 (l0_0.length : Int) (putB (l0_0.length : Int)) _ HP0.out).mono ?_); rintro e w3 ⟨v3, rfl, hR, hb⟩; obtain ⟨A4, c4, rfl⟩ := Kd.R_slice hR; have HA := Aside0.mk (Kd.R_reads' hR); clear hR; have HB_ := Aside0.mk (below_step HB.out hb); have CB1_ := Aside0.mk (blk_below CB1.out hb); clear HB CB1 hb v10 v11 v12; have HB := HB_; have CB1 := CB1_; clear HB_ CB1_; have v10 : w3.cell? ⟨g1, 0, none⟩ = some (.slice A0_0 l0_0.length c0_0) := (blk_cell CB1.out 0).trans rfl; have v11 : w3.cell? ⟨g1, 1, none⟩ = some (.int .i64 a0_1) := (blk_cell CB1.out 1).trans rfl; have v12 : w3.cell? ⟨g1, 2, none⟩ = some (.int .i64 a0_2) := (blk_cell CB1.out 2).trans rfl))
  rw [← HACC.out] at HA ⊢
  go_wp2
  go_loopw [4, 20] (fun v4 v20 w' => ∃ (i : Nat) (A4 : Option Addr) (c4 : Nat), v4 = .slice A4 (accB l0_0 i).length c4 ∧ v20 = .int .i64 i ∧ i ≤ l0_0.length ∧ Aside0 ((accB l0_0 i).length ≤ c4 ∧ Kd.C (Kd.int .u8) w' A4 (accB l0_0 i).length (accB l0_0 i)) ∧ Aside0 (w'.heap[g1]? = some (.cells #[.slice A0_0 l0_0.length c0_0, .int .i64 a0_1, .int .i64 a0_2] 27 (0, 0))) ∧ Aside0 (Below w.heap.size w w')) (fun _ v20 _ => l0_0.length - (intOf v20).toNat)
  case atStart => exact ⟨0, A4, c4, rfl, rfl, Nat.zero_le _, ⟨HA.out.2⟩, CB1, HB⟩
  case round =>
   clear HA CB1 HB v10 v11 v12 HACC
   obtain ⟨i, A4, c4, rfl, rfl, hil, HA, CB1, HB⟩ := hrel
   by_cases cs : i < l0_0.length
   ·have csd := decide_eq_true (show (i : Int) < (l0_0.length : Int) by omega)
    obtain ⟨ad, rfl, hx0, hx1, hx2, hx3⟩ := at_T63 HR.out (i : Int) (by omega) (by omega)
    obtain ⟨x, hx⟩ : ∃ x, x = rd_T63 l0_0 (i : Int) := ⟨_, rfl⟩
    have HX := Aside0.mk hx
    have HRX := Aside0.mk (ok_rng HFO.out cs)
    have HLA := Aside0.mk (accB_length HFO.out i hil)
    have HL64 := Aside0.mk HFO.out.1
    rw [← hx] at hx0 hx1 hx2 hx3 HRX
    replace hx0 := (HB.out.cell (World.block_lt_of_cell? w _ hx0)).trans hx0
    replace hx1 := (HB.out.cell (World.block_lt_of_cell? w _ hx1)).trans hx1
    replace hx2 := (HB.out.cell (World.block_lt_of_cell? w _ hx2)).trans hx2
    replace hx3 := (HB.out.cell (World.block_lt_of_cell? w _ hx3)).trans hx3
    rw [Int.toNat_natCast] at hx0 hx1 hx2 hx3
    clear hx
    have q0 := eq_true (show (0 : Int) ≤ (i : Int) by omega)
    have q1 := eq_true (show (i : Int) < (l0_0.length : Int) by omega)
    have hwr : IntKind.i64.wrap ((i : Int) + 1) = ((i + 1 : Nat) : Int) := by rw [IntKind.wrap_i64]; have := HL.out; omega
    go_upto_region 7 with (first
     | fail)
    have BX := Aside0.mk (blk_new wr (.cells #[.int .i64 x.f0, .int .i64 x.f1, .int .i64 x.f2, .int .i64 x.f3] 63 (0, 0)))
    have CB1_ := Aside0.mk (blk_alloc CB1.out (.cells #[.int .i64 x.f0, .int .i64 x.f1, .int .i64 x.f2, .int .i64 x.f3] 63 (0, 0)))
    have hbn : Below wr.heap.size wr (wr.alloc (.cells #[.int .i64 x.f0, .int .i64 x.f1, .int .i64 x.f2, .int .i64 x.f3] 63 (0, 0))) := below_alloc (Below.refl _ _) _
    have HB_ := Aside0.mk (below_step HB.out hbn)
    have HA_ := Aside0.mk (show (accB l0_0 i).length ≤ c4 ∧ Kd.C (Kd.int .u8) (wr.alloc (.cells #[.int .i64 x.f0, .int .i64 x.f1, .int .i64 x.f2, .int .i64 x.f3] 63 (0, 0))) A4 (accB l0_0 i).length (accB l0_0 i) from ⟨HA.out.1, Kd.C_below HA.out.2 hbn⟩)
    clear CB1 HB HA hx0 hx1 hx2 hx3 hbn
    generalize wr.alloc (.cells #[.int .i64 x.f0, .int .i64 x.f1, .int .i64 x.f2, .int .i64 x.f3] 63 (0, 0)) = W2 at *
    generalize wr.heap.size = g6 at *
    have HB := HB_
    have CB1 := CB1_
    have HA := HA_
    clear HB_ CB1_ HA_
    have y0 : W2.cell? ⟨g6, 0, none⟩ = some (.int .i64 x.f0) := (blk_cell BX.out 0).trans rfl
    have y1 : W2.cell? ⟨g6, 1, none⟩ = some (.int .i64 x.f1) := (blk_cell BX.out 1).trans rfl
    have y2 : W2.cell? ⟨g6, 2, none⟩ = some (.int .i64 x.f2) := (blk_cell BX.out 2).trans rfl
    have y3 : W2.cell? ⟨g6, 3, none⟩ = some (.int .i64 x.f3) := (blk_cell BX.out 3).trans rfl
    have HE0 := Aside0.mk (show accB l0_0 i ++ preB x 0 = accB l0_0 i by unfold preB; rw [List.append_nil])
    go_wp2
    clear y0 y1 y2 y3 BX
    go_loopw [4, 33] (fun v4 v33 w' => ∃ (j : Nat) (A4 : Option Addr) (c4 : Nat) (acc : List Int), v4 = .slice A4 acc.length c4 ∧ v33 = .int .i64 j ∧ j ≤ 4 ∧ Aside0 (acc = accB l0_0 i ++ preB x j) ∧ Aside0 (acc.length ≤ c4 ∧ Kd.C (Kd.int .u8) w' A4 acc.length acc) ∧ Aside0 (w'.heap[g1]? = some (.cells #[.slice (some ad) l0_0.length c0_0, .int .i64 a0_1, .int .i64 a0_2] 27 (0, 0))) ∧ Aside0 (Below w.heap.size w w')) (fun _ v33 _ => 4 - (intOf v33).toNat)
    case atStart => exact ⟨0, A4, c4, accB l0_0 i, rfl, rfl, Nat.zero_le _, ⟨HE0.out.symm⟩, HA, CB1, HB⟩
    case round =>
     clear HA CB1 HB HE0
     obtain ⟨j, A4, c4, acc, rfl, rfl, hj, HQ, HA, CB1, HB⟩ := hrel
     rcases (show j = 0 ∨ j = 1 ∨ j = 2 ∨ j = 3 ∨ j = 4 by omega) with rfl | rfl | rfl | rfl | rfl
     ·have hix := ix0 x.f0 x.f1 x.f2 x.f3
      have hmod : x.f0 % 18446744073709551616 = x.f0 := by have := (show 0 ≤ x.f0 ∧ x.f0 < 18446744073709551616 from HRX.out 0); omega
      have HPJ := Aside0.mk (show num_Put.f 10 acc x.f0 = some (acc ++ putB x.f0) from put_f (HRX.out 0).1 (HRX.out 0).2 _ (by have := preB_length HRX.out 0; have := HLA.out; have := HL64.out; rw [HQ.out, List.length_append]; omega) (Nat.le_refl _))
      go_wp2_with (first
       | (go_at_call 38; (with_reducible refine (num_Put.calls 10 A4 c4 acc x.f0 (acc ++ putB x.f0) _ HA.out.2 HA.out.1 HPJ.out).mono ?_); rintro e w5 ⟨v5, rfl, hR, hb⟩; obtain ⟨A5, c5, rfl⟩ := Kd.R_slice hR; have HA5 := Aside0.mk (Kd.R_reads' hR); clear hR HA; have HB_ := Aside0.mk (below_step HB.out hb); have CB1_ := Aside0.mk (blk_below CB1.out hb); clear HB CB1 hb; have HB := HB_; have CB1 := CB1_; clear HB_ CB1_))
      go_roundw
      ·exact ⟨1, A5, c5, acc ++ putB x.f0, by rw [List.length_append], rfl, by decide, ⟨by rw [HQ.out]; exact List.append_assoc _ _ _⟩, ⟨HA5.out.2⟩, CB1, HB⟩
      ·decide
     ·have hix := ix1 x.f0 x.f1 x.f2 x.f3
      have hmod : x.f1 % 18446744073709551616 = x.f1 := by have := (show 0 ≤ x.f1 ∧ x.f1 < 18446744073709551616 from HRX.out 1); omega
      have HPJ := Aside0.mk (show num_Put.f 10 acc x.f1 = some (acc ++ putB x.f1) from put_f (HRX.out 1).1 (HRX.out 1).2 _ (by have := preB_length HRX.out 1; have := HLA.out; have := HL64.out; rw [HQ.out, List.length_append]; omega) (Nat.le_refl _))
      go_wp2_with (first
       | (go_at_call 38; (with_reducible refine (num_Put.calls 10 A4 c4 acc x.f1 (acc ++ putB x.f1) _ HA.out.2 HA.out.1 HPJ.out).mono ?_); rintro e w5 ⟨v5, rfl, hR, hb⟩; obtain ⟨A5, c5, rfl⟩ := Kd.R_slice hR; have HA5 := Aside0.mk (Kd.R_reads' hR); clear hR HA; have HB_ := Aside0.mk (below_step HB.out hb); have CB1_ := Aside0.mk (blk_below CB1.out hb); clear HB CB1 hb; have HB := HB_; have CB1 := CB1_; clear HB_ CB1_))
      go_roundw
      ·exact ⟨2, A5, c5, acc ++ putB x.f1, by rw [List.length_append], rfl, by decide, ⟨by rw [HQ.out]; exact List.append_assoc _ _ _⟩, ⟨HA5.out.2⟩, CB1, HB⟩
      ·decide
     ·have hix := ix2 x.f0 x.f1 x.f2 x.f3
      have hmod : x.f2 % 18446744073709551616 = x.f2 := by have := (show 0 ≤ x.f2 ∧ x.f2 < 18446744073709551616 from HRX.out 2); omega
      have HPJ := Aside0.mk (show num_Put.f 10 acc x.f2 = some (acc ++ putB x.f2) from put_f (HRX.out 2).1 (HRX.out 2).2 _ (by have := preB_length HRX.out 2; have := HLA.out; have := HL64.out; rw [HQ.out, List.length_append]; omega) (Nat.le_refl _))
      go_wp2_with (first
       | (go_at_call 38; (with_reducible refine (num_Put.calls 10 A4 c4 acc x.f2 (acc ++ putB x.f2) _ HA.out.2 HA.out.1 HPJ.out).mono ?_); rintro e w5 ⟨v5, rfl, hR, hb⟩; obtain ⟨A5, c5, rfl⟩ := Kd.R_slice hR; have HA5 := Aside0.mk (Kd.R_reads' hR); clear hR HA; have HB_ := Aside0.mk (below_step HB.out hb); have CB1_ := Aside0.mk (blk_below CB1.out hb); clear HB CB1 hb; have HB := HB_; have CB1 := CB1_; clear HB_ CB1_))
      go_roundw
      ·exact ⟨3, A5, c5, acc ++ putB x.f2, by rw [List.length_append], rfl, by decide, ⟨by rw [HQ.out]; exact List.append_assoc _ _ _⟩, ⟨HA5.out.2⟩, CB1, HB⟩
      ·decide
     ·have hix := ix3 x.f0 x.f1 x.f2 x.f3
      have hmod : x.f3 % 18446744073709551616 = x.f3 := by have := (show 0 ≤ x.f3 ∧ x.f3 < 18446744073709551616 from HRX.out 3); omega
      have HPJ := Aside0.mk (show num_Put.f 10 acc x.f3 = some (acc ++ putB x.f3) from put_f (HRX.out 3).1 (HRX.out 3).2 _ (by have := preB_length HRX.out 3; have := HLA.out; have := HL64.out; rw [HQ.out, List.length_append]; omega) (Nat.le_refl _))
      go_wp2_with (first
       | (go_at_call 38; (with_reducible refine (num_Put.calls 10 A4 c4 acc x.f3 (acc ++ putB x.f3) _ HA.out.2 HA.out.1 HPJ.out).mono ?_); rintro e w5 ⟨v5, rfl, hR, hb⟩; obtain ⟨A5, c5, rfl⟩ := Kd.R_slice hR; have HA5 := Aside0.mk (Kd.R_reads' hR); clear hR HA; have HB_ := Aside0.mk (below_step HB.out hb); have CB1_ := Aside0.mk (blk_below CB1.out hb); clear HB CB1 hb; have HB := HB_; have CB1 := CB1_; clear HB_ CB1_))
      go_roundw
      ·exact ⟨4, A5, c5, acc ++ putB x.f3, by rw [List.length_append], rfl, by decide, ⟨by rw [HQ.out]; exact List.append_assoc _ _ _⟩, ⟨HA5.out.2⟩, CB1, HB⟩
      ·decide
     ·go_wp2
      go_roundw
      ·have hq : accB l0_0 (i + 1) = acc := by rw [accB_succ l0_0 i cs, ← HX.out, ← preB_all]; exact HQ.out.symm
       exact ⟨i + 1, A4, c4, by rw [hq], rfl, cs, ⟨by rw [hq]; exact HA.out⟩, CB1, HB⟩
      ·show l0_0.length - (((i + 1 : Nat) : Int)).toNat < l0_0.length - (i : Int).toNat
       omega
   ·obtain rfl : i = l0_0.length := by omega
    have csd : decide ((l0_0.length : Int) < (l0_0.length : Int)) = false := decide_eq_false (Int.lt_irrefl _)
    have HLA := Aside0.mk (accB_length HFO.out l0_0.length (Nat.le_refl _))
    have hm1 : IntKind.u64.wrap a0_1 = a0_1 := by rw [wrapU64]; have := HFO.out.2.1; have := HFO.out.2.2.1; omega
    have hm2 : IntKind.u64.wrap a0_2 = a0_2 := by rw [wrapU64]; have := HFO.out.2.2.2.1; have := HFO.out.2.2.2.2.1; omega
    have HP1 := Aside0.mk (show num_Put.f 10 (accB l0_0 l0_0.length) a0_1 = some (accB l0_0 l0_0.length ++ putB a0_1) from put_f HFO.out.2.1 (by have := HFO.out.2.2.1; omega) _ (by have := HLA.out; have := HFO.out.1; omega) (Nat.le_refl _))
    have HP2 := Aside0.mk (show num_Put.f 10 (accB l0_0 l0_0.length ++ putB a0_1) a0_2 = some (bytesC l0_0 a0_1 a0_2) from put_f HFO.out.2.2.2.1 (by have := HFO.out.2.2.2.2.1; omega) _ (by have := HLA.out; have := HFO.out.1; have := (putB_length HFO.out.2.1 (by have := HFO.out.2.2.1; omega)).2; rw [List.length_append]; omega) (Nat.le_refl _))
    have v10 : wr.cell? ⟨g1, 0, none⟩ = some (.slice A0_0 l0_0.length c0_0) := (blk_cell CB1.out 0).trans rfl
    have v11 : wr.cell? ⟨g1, 1, none⟩ = some (.int .i64 a0_1) := (blk_cell CB1.out 1).trans rfl
    have v12 : wr.cell? ⟨g1, 2, none⟩ = some (.int .i64 a0_2) := (blk_cell CB1.out 2).trans rfl
    go_upto_region 13 with (first
     | fail)
    have HB_ : Aside0 (Below w.heap.size w wr.drew) := ⟨below_drew1 HB.out⟩
    have HA_ := Aside0.mk (show (accB l0_0 l0_0.length).length ≤ c4 ∧ Kd.C (Kd.int .u8) wr.drew A4 (accB l0_0 l0_0.length).length (accB l0_0 l0_0.length) from ⟨HA.out.1, Kd.C_drew HA.out.2⟩)
    have v11_ : wr.drew.cell? ⟨g1, 1, none⟩ = some (.int .i64 a0_1) := v11
    have v12_ : wr.drew.cell? ⟨g1, 2, none⟩ = some (.int .i64 a0_2) := v12
    clear HB HA v10 v11 v12 CB1
    have HB := HB_
    have HA := HA_
    have v11 := v11_
    have v12 := v12_
    clear HB_ HA_ v11_ v12_
    refine start_ (n := 14) (S := fun w' => w'.cell? ⟨g1, 1, none⟩ = some (.int .i64 a0_1) ∧ w'.cell? ⟨g1, 2, none⟩ = some (.int .i64 a0_2)) (ds := []) #[false, false, false, false, false, false, false, false, false, false, false, false, false, false] (by kernel_rfl) rfl rfl ⟨v11, v12⟩ (fun hHeld => ?_)
    generalize wr.drew = W3 at *
    refine pure_ (i := 0) (N := some 42) (v := ?_) (a' := ?_) #[true, false, false, false, false, false, false, false, false, false, false, false, false, false] rfl rfl (by kernel_rfl) (fun _ _ _ h => h) (Or.inl ⟨by rfl, ?_⟩) ?_ ?_
    rotate_left
    ·intro w'
     go_simp
     with_reducible rfl
    rotate_left
    ·simp only [Act.put, List.setIfInBounds_toArray, List.set_cons_zero, List.set_cons_succ, i64_w, i32_w]
     rfl
    refine pure_ (i := 1) (N := some 43) (v := ?_) (a' := ?_) #[true, true, false, false, false, false, false, false, false, false, false, false, false, false] rfl rfl (by kernel_rfl) (fun _ _ _ h => h) (Or.inl ⟨by rfl, ?_⟩) ?_ ?_
    rotate_left
    ·intro w'
     go_simp
     with_reducible rfl
    rotate_left
    ·simp only [Act.put, List.setIfInBounds_toArray, List.set_cons_zero, List.set_cons_succ, i64_w, i32_w]
     rfl
    refine pure_ (i := 5) (N := some 47) (v := ?_) (a' := ?_) #[true, true, false, false, false, true, false, false, false, false, false, false, false, false] rfl rfl (by kernel_rfl) (fun _ _ _ h => h) (Or.inl ⟨by rfl, ?_⟩) ?_ ?_
    rotate_left
    ·intro w'
     go_simp
     with_reducible rfl
    rotate_left
    ·simp only [Act.put, List.setIfInBounds_toArray, List.set_cons_zero, List.set_cons_succ, i64_w, i32_w]
     rfl
    refine take_ (i := 2) (N := some 44) (v := ?_) (a' := ?_) #[true, true, true, false, false, true, false, false, false, false, false, false, false, false] rfl rfl (by kernel_rfl) (fun _ _ _ h => h) (Or.inl ⟨by rfl, ?_⟩) hHeld ?_ ?_
    rotate_left
    ·rintro w' ⟨s0, s1⟩
     go_simp
     with_reducible rfl
    rotate_left
    ·simp only [Act.put, List.setIfInBounds_toArray, List.set_cons_zero, List.set_cons_succ, i64_w, i32_w]
     rfl
    refine pure_ (i := 3) (N := some 45) (v := ?_) (a' := ?_) #[true, true, true, true, false, true, false, false, false, false, false, false, false, false] rfl rfl (by kernel_rfl) (fun _ _ _ h => h) (Or.inl ⟨by rfl, ?_⟩) ?_ ?_
    rotate_left
    ·intro w'
     go_simp
     with_reducible rfl
    rotate_left
    ·simp only [Act.put, List.setIfInBounds_toArray, List.set_cons_zero, List.set_cons_succ, i64_w, i32_w]
     rfl
    refine take_ (i := 6) (N := some 48) (v := ?_) (a' := ?_) #[true, true, true, true, false, true, true, false, false, false, false, false, false, false] rfl rfl (by kernel_rfl) (fun _ _ _ h => h) (Or.inl ⟨by rfl, ?_⟩) hHeld ?_ ?_
    rotate_left
    ·rintro w' ⟨s0, s1⟩
     go_simp
     with_reducible rfl
    rotate_left
    ·simp only [Act.put, List.setIfInBounds_toArray, List.set_cons_zero, List.set_cons_succ, i64_w, i32_w]
     rfl
    refine pure_ (i := 7) (N := some 49) (v := ?_) (a' := ?_) #[true, true, true, true, false, true, true, true, false, false, false, false, false, false] rfl rfl (by kernel_rfl) (fun _ _ _ h => h) (Or.inl ⟨by rfl, ?_⟩) ?_ ?_
    rotate_left
    ·intro w'
     go_simp
     with_reducible rfl
    rotate_left
    ·simp only [Act.put, List.setIfInBounds_toArray, List.set_cons_zero, List.set_cons_succ, i64_w, i32_w]
     rfl
    refine one_ (i := 4) (N := some 46) #[true, true, true, true, true, true, true, true, false, false, false, false, false, false] rfl rfl (by kernel_rfl) (by decide) (fun K hK => ?_)
    refine goes_ Tryd.func38 (by kernel_rfl) rfl #[.slice A4 (accB l0_0 l0_0.length).length c4, .int .u64 a0_1] (by rfl) rfl rfl (by simp only [List.map_toArray, List.map_cons, List.map_nil]; rfl) ?_
    with_reducible refine (num_Put.calls 10 A4 c4 (accB l0_0 l0_0.length) a0_1 (accB l0_0 l0_0.length ++ putB a0_1) _ HA.out.2 HA.out.1 HP1.out).mono ?_
    rintro e w5 ⟨v5, rfl, hR, hb⟩
    refine ⟨_, rfl, ?_⟩
    obtain ⟨A5, c5, rfl⟩ := Kd.R_slice hR
    have HA5 := Aside0.mk (Kd.R_reads' hR)
    have HB5 := Aside0.mk hb
    clear hb hR
    refine hK.out _ _ ⟨(pw_cell_below HB5.out v11), (pw_cell_below HB5.out v12)⟩ (fun hHeld => ?_)
    clear hK K
    refine norm_ (a' := ?_) ?_ ?_
    rotate_left
    ·show Act.put _ (some 46) _ = _
     simp only [Act.put, List.setIfInBounds_toArray, List.set_cons_zero, List.set_cons_succ, i64_w, i32_w]
     rfl
    refine one_ (i := 8) (N := some 50) #[true, true, true, true, true, true, true, true, true, false, false, false, false, false] rfl rfl (by kernel_rfl) (by decide) (fun K hK => ?_)
    refine goes_ Tryd.func38 (by kernel_rfl) rfl #[.slice A5 (accB l0_0 l0_0.length ++ putB a0_1).length c5, .int .u64 a0_2] (by rfl) rfl rfl (by simp only [List.map_toArray, List.map_cons, List.map_nil]; rfl) ?_
    with_reducible refine (num_Put.calls 10 A5 c5 (accB l0_0 l0_0.length ++ putB a0_1) a0_2 (bytesC l0_0 a0_1 a0_2) _ HA5.out.2.2 HA5.out.2.1 HP2.out).mono ?_
    rintro e w6 ⟨v6, rfl, hR, hb⟩
    refine ⟨_, rfl, ?_⟩
    obtain ⟨A6, c6, rfl⟩ := Kd.R_slice hR
    have HA6 := Aside0.mk (Kd.R_reads' hR)
    have HB6 := Aside0.mk hb
    clear hb hR
    refine hK.out _ _ ⟨(pw_cell_below HB6.out (pw_cell_below HB5.out v11)), (pw_cell_below HB6.out (pw_cell_below HB5.out v12))⟩ (fun hHeld => ?_)
    clear hK K
    refine norm_ (a' := ?_) ?_ ?_
    rotate_left
    ·show Act.put _ (some 50) _ = _
     simp only [Act.put, List.setIfInBounds_toArray, List.set_cons_zero, List.set_cons_succ, i64_w, i32_w]
     rfl
    refine one_ (i := 9) (N := some 51) #[true, true, true, true, true, true, true, true, true, true, false, false, false, false] rfl rfl (by kernel_rfl) (by decide) (fun K hK => ?_)
    refine goes_ Tryd.func39 (by kernel_rfl) rfl #[.slice A6 (bytesC l0_0 a0_1 a0_2).length c6] (by rfl) rfl rfl (by simp only [List.map_toArray, List.map_cons, List.map_nil]; rfl) ?_
    with_reducible refine (crc_Wrap.calls A6 c6 (bytesC l0_0 a0_1 a0_2) r1 r2 _ HA6.out.2.2 HA6.out.2.1 (GT.below HG.out (below_step (below_step HB.out HB5.out) HB6.out)) HW.out).mono ?_
    rintro e w7 ⟨v7, rfl, hR, hb⟩
    refine ⟨_, rfl, ?_⟩
    have HR7 := Aside0.mk hR
    have HB7 := Aside0.mk hb
    clear hb hR
    refine hK.out _ _ ⟨(pw_cell_below HB7.out (pw_cell_below HB6.out (pw_cell_below HB5.out v11))), (pw_cell_below HB7.out (pw_cell_below HB6.out (pw_cell_below HB5.out v12)))⟩ (fun hHeld => ?_)
    clear hK K
    refine norm_ (a' := ?_) ?_ ?_
    rotate_left
    ·show Act.put _ (some 51) _ = _
     simp only [Act.put, List.setIfInBounds_toArray, List.set_cons_zero, List.set_cons_succ, i64_w, i32_w]
     rfl
    refine pure_ (i := 10) (N := some 52) (v := ?_) (a' := ?_) #[true, true, true, true, true, true, true, true, true, true, true, false, false, false] rfl rfl (by kernel_rfl) (fun _ _ _ h => h) (Or.inl ⟨by rfl, ?_⟩) ?_ ?_
    rotate_left
    ·intro w'
     go_simp
     with_reducible rfl
    rotate_left
    ·simp only [Act.put, List.setIfInBounds_toArray, List.set_cons_zero, List.set_cons_succ, i64_w, i32_w]
     rfl
    refine pure_ (i := 11) (N := some 53) (v := ?_) (a' := ?_) #[true, true, true, true, true, true, true, true, true, true, true, true, false, false] rfl rfl (by kernel_rfl) (fun _ _ _ h => h) (Or.inl ⟨by rfl, ?_⟩) ?_ ?_
    rotate_left
    ·intro w'
     go_simp
     with_reducible rfl
    rotate_left
    ·simp only [Act.put, List.setIfInBounds_toArray, List.set_cons_zero, List.set_cons_succ, i64_w, i32_w]
     rfl
    refine pure_ (i := 12) (N := some 2) (v := ?_) (a' := ?_) #[true, true, true, true, true, true, true, true, true, true, true, true, true, false] rfl rfl (by kernel_rfl) (fun _ _ _ h => h) (Or.inl ⟨by rfl, ?_⟩) ?_ ?_
    rotate_left
    ·intro w'
     go_simp
     with_reducible rfl
    rotate_left
    ·simp only [Act.put, List.setIfInBounds_toArray, List.set_cons_zero, List.set_cons_succ, i64_w, i32_w]
     rfl
    refine pure_ (i := 13) (N := some 3) (v := ?_) (a' := ?_) #[true, true, true, true, true, true, true, true, true, true, true, true, true, true] rfl rfl (by kernel_rfl) (fun _ _ _ h => h) (Or.inl ⟨by rfl, ?_⟩) ?_ ?_
    rotate_left
    ·intro w'
     go_simp
     with_reducible rfl
    rotate_left
    ·simp only [Act.put, List.setIfInBounds_toArray, List.set_cons_zero, List.set_cons_succ, i64_w, i32_w]
     rfl
    refine done_ (by kernel_rfl) ?_
    go_wp2
    go_ret2
    exact ⟨_, rfl, Kd.R_lower HR7.out (below_size (below_step (below_step HB.out HB5.out) HB6.out)), below_step (below_step (below_step HB.out HB5.out) HB6.out) HB7.out⟩
 ·have HF := Aside0.mk (show manifest_Formed.f l0_0 a0_1 a0_2 = some false by unfold manifest_Formed.f; rw [if_pos HL.out, decide_eq_false hf])
  rw [if_neg hf] at h
  simp only [Option.some.injEq, Prod.mk.injEq] at h
  obtain ⟨rfl, rfl⟩ := h
  clear hf
  go_enter Tryd.func15, Tryd.ntmps15
  go_wp2_with (first
   | ((with_reducible refine gate_dst (N := 1) rfl ?_); refine box_event ?hg (N := 1) ?hd (cs := #[.slice A0_0 l0_0.length c0_0, .int .i64 a0_1, .int .i64 a0_2]) (t := 27) ?hr ?_; (case hd => rfl); (case hg => rfl); (case hr => first | (go_simp; done) | (go_simp; rfl)); intro g1 hg1 w1 hbox hb; have HB_ := Aside0.mk (below_step HB.out hb); have CB1 := Aside0.mk hbox; clear hb hbox hg1 HB; have HB := HB_; clear HB_; have v10 : w1.cell? ⟨g1, 0, none⟩ = some (.slice A0_0 l0_0.length c0_0) := (blk_cell CB1.out 0).trans rfl; have v11 : w1.cell? ⟨g1, 1, none⟩ = some (.int .i64 a0_1) := (blk_cell CB1.out 1).trans rfl; have v12 : w1.cell? ⟨g1, 2, none⟩ = some (.int .i64 a0_2) := (blk_cell CB1.out 2).trans rfl)
   | (go_at_call 21; (with_reducible refine (manifest_Formed.calls A0_0 c0_0 l0_0 a0_1 a0_2 false _ (Kd.C_below HR.out HB.out) HC.out HF.out).mono ?_); rintro e w2 ⟨rfl, hb⟩; have HB_ := Aside0.mk (below_step HB.out hb); have CB1_ := Aside0.mk (blk_below CB1.out hb); clear HB CB1 hb v10 v11 v12; have HB := HB_; have CB1 := CB1_; clear HB_ CB1_; have v10 : w2.cell? ⟨g1, 0, none⟩ = some (.slice A0_0 l0_0.length c0_0) := (blk_cell CB1.out 0).trans rfl; have v11 : w2.cell? ⟨g1, 1, none⟩ = some (.int .i64 a0_1) := (blk_cell CB1.out 1).trans rfl; have v12 : w2.cell? ⟨g1, 2, none⟩ = some (.int .i64 a0_2) := (blk_cell CB1.out 2).trans rfl))
  go_ret2
  exact ⟨_, rfl, Kd.R_nil _ _ _ _ _, HB.out⟩
def crc_number.f (l0 : List Int) : Option (Int) := if 0 < (l0.length : Int) then (if 1 < (l0.length : Int) then (if 2 < (l0.length : Int) then (if 3 < (l0.length : Int) then (some (Go.bits .or .u32 (Go.bits .or .u32 (Go.bits .or .u32 ((rd l0 0) % 4294967296) ((((rd l0 1) % 4294967296) * 256) % 4294967296)) ((((rd l0 2) % 4294967296) * 65536) % 4294967296)) ((((rd l0 3) % 4294967296) * 16777216) % 4294967296))) else (none)) else (none)) else (none)) else (none)
set_option maxHeartbeats 8000000 in
set_option maxRecDepth 100000 in
theorem crc_number.calls (A0 : Option Addr) (c0 : Nat) (l0 : List Int) (r : Int) (w : World) (hr0 : Kd.C (Kd.int .u8) w A0 l0.length l0) (hc0 : l0.length ≤ c0) (h : crc_number.f l0 = some r) :
  Calls Tryd.prog 78 #[.slice A0 l0.length c0] w fun e w' => e = .returned (.int .u32 r) ∧ Drawn0 w w' := by
 have HR0 := Aside0.mk hr0
 have HC0 := Aside0.mk hc0
 clear hr0 hc0
 have H : (if 0 < (l0.length : Int) then (if 1 < (l0.length : Int) then (if 2 < (l0.length : Int) then (if 3 < (l0.length : Int) then (some (Go.bits .or .u32 (Go.bits .or .u32 (Go.bits .or .u32 ((rd l0 0) % 4294967296) ((((rd l0 1) % 4294967296) * 256) % 4294967296)) ((((rd l0 2) % 4294967296) * 65536) % 4294967296)) ((((rd l0 3) % 4294967296) * 16777216) % 4294967296))) else (none)) else (none)) else (none)) else (none)) = some r := h
 clear h
 by_cases c2 : 0 < (l0.length : Int)
 ·rw [if_pos c2] at H
  have c2b0 : decide (0 < (l0.length : Int)) = true := decide_eq_true c2
  have c2b1 : decide (0 < l0.length) = true := decide_eq_true (by omega)
  clear c2
  by_cases c3 : 1 < (l0.length : Int)
  ·rw [if_pos c3] at H
   have c3b0 : decide (1 < (l0.length : Int)) = true := decide_eq_true c3
   have c3b1 : decide (1 < l0.length) = true := decide_eq_true (by omega)
   clear c3
   by_cases c4 : 2 < (l0.length : Int)
   ·rw [if_pos c4] at H
    have c4b0 : decide (2 < (l0.length : Int)) = true := decide_eq_true c4
    have c4b1 : decide (2 < l0.length) = true := decide_eq_true (by omega)
    clear c4
    by_cases c5 : 3 < (l0.length : Int)
    ·rw [if_pos c5] at H
     have c5b0 : decide (3 < (l0.length : Int)) = true := decide_eq_true c5
     have c5b1 : decide (3 < l0.length) = true := decide_eq_true (by omega)
     clear c5
     obtain rfl := Option.some.inj H
     have p138 : 0 ≤ (0 : Int) := (by omega)
     have q138 : 0 < (l0.length : Int) := of_decide_eq_true (by first | (with_reducible assumption) | assumption)
     obtain ⟨ad138, e138, hx138_0⟩ := Kd.at_int HR0.out 0 p138 q138
     cases e138
     have qi138 : (0 < l0.length) = True := eq_true (by omega)
     (try rw [show ((0 : Int)).toNat = 0 from rfl] at hx138_0)
     (try rw [Addr.add_zero'] at hx138_0)
     replace p138 := eq_true p138
     replace q138 := eq_true q138
     have p139 : 0 ≤ (1 : Int) := (by omega)
     have q139 : 1 < (l0.length : Int) := of_decide_eq_true (by first | (with_reducible assumption) | assumption)
     obtain ⟨ad139, e139, hx139_0⟩ := Kd.at_int HR0.out 1 p139 q139
     obtain rfl : ad138 = ad139 := (by injection e139)
     (try simp only [show (1 : Int).toNat = 1 from rfl, Nat.reduceMul, Nat.reduceEqDiff, Go.Addr.add, ↓reduceIte] at hx139_0)
     have qi139 : (1 < l0.length) = True := eq_true (by omega)
     (try rw [show ((1 : Int)).toNat = 1 from rfl] at hx139_0)
     replace p139 := eq_true p139
     replace q139 := eq_true q139
     have p140 : 0 ≤ (2 : Int) := (by omega)
     have q140 : 2 < (l0.length : Int) := of_decide_eq_true (by first | (with_reducible assumption) | assumption)
     obtain ⟨ad140, e140, hx140_0⟩ := Kd.at_int HR0.out 2 p140 q140
     obtain rfl : ad138 = ad140 := (by injection e140)
     (try simp only [show (2 : Int).toNat = 2 from rfl, Nat.reduceMul, Nat.reduceEqDiff, Go.Addr.add, ↓reduceIte] at hx140_0)
     have qi140 : (2 < l0.length) = True := eq_true (by omega)
     (try rw [show ((2 : Int)).toNat = 2 from rfl] at hx140_0)
     replace p140 := eq_true p140
     replace q140 := eq_true q140
     have p141 : 0 ≤ (3 : Int) := (by omega)
     have q141 : 3 < (l0.length : Int) := of_decide_eq_true (by first | (with_reducible assumption) | assumption)
     obtain ⟨ad141, e141, hx141_0⟩ := Kd.at_int HR0.out 3 p141 q141
     obtain rfl : ad138 = ad141 := (by injection e141)
     (try simp only [show (3 : Int).toNat = 3 from rfl, Nat.reduceMul, Nat.reduceEqDiff, Go.Addr.add, ↓reduceIte] at hx141_0)
     have qi141 : (3 < l0.length) = True := eq_true (by omega)
     (try rw [show ((3 : Int)).toNat = 3 from rfl] at hx141_0)
     replace p141 := eq_true p141
     replace q141 := eq_true q141
     go_enter Tryd.func78, Tryd.ntmps78
     go_wp2
     repeat (go_quiet (fail); try go_wp2)
     go_ret
     exact ⟨by first | rfl | (simp; done) | (simp [*]; done), by repeat (first | exact Drawn0.refl _ | apply Drawn0.step)⟩
    ·rw [if_neg c5] at H
     exact absurd H (by simp)
   ·rw [if_neg c4] at H
    exact absurd H (by simp)
  ·rw [if_neg c3] at H
   exact absurd H (by simp)
 ·rw [if_neg c2] at H
  exact absurd H (by simp)
def crc_shape.f (l0 : List Int) : Option (Int × Int) := if (l0.length : Int) < 8 then (some (0, 3)) else ((crc_number.f l0).bind fun t142 => (if (wrap64 (t142)) > 16777216 then (some (0, 5)) else (if (wrap64 (t142)) > (wrap64 ((wrap64 ((l0.length : Int) - 4)) - 4)) then (some (0, 3)) else (some (wrap64 (t142), 0)))))
set_option maxHeartbeats 8000000 in
set_option maxRecDepth 100000 in
theorem crc_shape.calls (A0 : Option Addr) (c0 : Nat) (l0 : List Int) (r1 : Int) (r2 : Int) (w : World) (hr0 : Kd.C (Kd.int .u8) w A0 l0.length l0) (hc0 : l0.length ≤ c0) (h : crc_shape.f l0 = some (r1, r2)) :
  Calls Tryd.prog 56 #[.slice A0 l0.length c0] w fun e w' => e = .returned (.tuple #[.int .i64 r1, .int .i64 r2]) ∧ Drawn0 w w' := by
 have HR0 := Aside0.mk hr0
 have HC0 := Aside0.mk hc0
 clear hr0 hc0
 have H : (if (l0.length : Int) < 8 then (some (0, 3)) else ((crc_number.f l0).bind fun t142 => (if (wrap64 (t142)) > 16777216 then (some (0, 5)) else (if (wrap64 (t142)) > (wrap64 ((wrap64 ((l0.length : Int) - 4)) - 4)) then (some (0, 3)) else (some (wrap64 (t142), 0)))))) = some (r1, r2) := h
 clear h
 by_cases c2 : (l0.length : Int) < 8
 ·rw [if_pos c2] at H
  have c2b0 : decide ((l0.length : Int) < 8) = true := decide_eq_true c2
  have c2b1 : decide (l0.length < 8) = true := decide_eq_true (by omega)
  clear c2
  simp only [Option.some.injEq, Prod.mk.injEq] at H
  obtain ⟨rfl, rfl⟩ := H
  go_enter Tryd.func56, Tryd.ntmps56
  go_wp2
  go_ret2
  exact ⟨by first | rfl | (simp; done) | (simp [*]; done), by repeat (first | exact Drawn0.refl _ | apply Drawn0.step)⟩
 ·rw [if_neg c2] at H
  have c2b0 : decide ((l0.length : Int) < 8) = false := decide_eq_false c2
  have c2b1 : decide (l0.length < 8) = false := decide_eq_false (by omega)
  clear c2
  replace H := Option.bind_eq_some_iff.mp H
  obtain ⟨t142, A30, H⟩ := H
  replace H : (if (wrap64 (t142)) > 16777216 then (some (0, 5)) else (if (wrap64 (t142)) > (wrap64 ((wrap64 ((l0.length : Int) - 4)) - 4)) then (some (0, 3)) else (some (wrap64 (t142), 0)))) = some (r1, r2) := H
  have A3 := Aside0.mk A30
  clear A30
  by_cases c4 : (wrap64 (t142)) > 16777216
  ·rw [if_pos c4] at H
   have c4b0 : decide (16777216 < (wrap64 (t142))) = true := decide_eq_true c4
   clear c4
   simp only [Option.some.injEq, Prod.mk.injEq] at H
   obtain ⟨rfl, rfl⟩ := H
   go_enter Tryd.func56, Tryd.ntmps56
   go_wp2_with (first | ((with_reducible refine gate_callee (f := 78) rfl ?_); refine goesL_ (some 9) rfl rfl Tryd.func78 (by kernel_rfl) rfl #[.slice A0 l0.length c0] rfl (by (try simp only [List.map_toArray, List.map_cons, List.map_nil]); first | done | rfl | (simp only [List.length_drop, List.length_take]; rfl)) ?_; (with_reducible refine (crc_number.calls _ _ l0 t142 _ ?side1 ?side2 A3.out).mono ?_); (case side1 => repeat (first | exact HR0.out | (with_reducible refine Kd.C_alloc ?_ _) | (with_reducible refine Kd.C_drewN ?_ _) | (with_reducible refine Kd.C_drew ?_))); (case side2 => exact HC0.out); rintro e w' ⟨rfl, ⟨nd, rfl⟩⟩; refine ⟨_, rfl, ?_⟩))
   go_ret2
   exact ⟨by first | rfl | (simp; done) | (simp [*]; done), by repeat (first | exact Drawn0.refl _ | apply Drawn0.step)⟩
  ·rw [if_neg c4] at H
   have c4b0 : decide (16777216 < (wrap64 (t142))) = false := decide_eq_false c4
   clear c4
   by_cases c5 : (wrap64 (t142)) > (wrap64 ((wrap64 ((l0.length : Int) - 4)) - 4))
   ·rw [if_pos c5] at H
    have c5b0 : decide ((wrap64 ((wrap64 ((l0.length : Int) - 4)) - 4)) < (wrap64 (t142))) = true := decide_eq_true c5
    clear c5
    simp only [Option.some.injEq, Prod.mk.injEq] at H
    obtain ⟨rfl, rfl⟩ := H
    go_enter Tryd.func56, Tryd.ntmps56
    go_wp2_with (first | ((with_reducible refine gate_callee (f := 78) rfl ?_); refine goesL_ (some 9) rfl rfl Tryd.func78 (by kernel_rfl) rfl #[.slice A0 l0.length c0] rfl (by (try simp only [List.map_toArray, List.map_cons, List.map_nil]); first | done | rfl | (simp only [List.length_drop, List.length_take]; rfl)) ?_; (with_reducible refine (crc_number.calls _ _ l0 t142 _ ?side1 ?side2 A3.out).mono ?_); (case side1 => repeat (first | exact HR0.out | (with_reducible refine Kd.C_alloc ?_ _) | (with_reducible refine Kd.C_drewN ?_ _) | (with_reducible refine Kd.C_drew ?_))); (case side2 => exact HC0.out); rintro e w' ⟨rfl, ⟨nd, rfl⟩⟩; refine ⟨_, rfl, ?_⟩))
    go_ret2
    exact ⟨by first | rfl | (simp; done) | (simp [*]; done), by repeat (first | exact Drawn0.refl _ | apply Drawn0.step)⟩
   ·rw [if_neg c5] at H
    have c5b0 : decide ((wrap64 ((wrap64 ((l0.length : Int) - 4)) - 4)) < (wrap64 (t142))) = false := decide_eq_false c5
    clear c5
    simp only [Option.some.injEq, Prod.mk.injEq] at H
    obtain ⟨rfl, rfl⟩ := H
    go_enter Tryd.func56, Tryd.ntmps56
    go_wp2_with (first | ((with_reducible refine gate_callee (f := 78) rfl ?_); refine goesL_ (some 9) rfl rfl Tryd.func78 (by kernel_rfl) rfl #[.slice A0 l0.length c0] rfl (by (try simp only [List.map_toArray, List.map_cons, List.map_nil]); first | done | rfl | (simp only [List.length_drop, List.length_take]; rfl)) ?_; (with_reducible refine (crc_number.calls _ _ l0 t142 _ ?side1 ?side2 A3.out).mono ?_); (case side1 => repeat (first | exact HR0.out | (with_reducible refine Kd.C_alloc ?_ _) | (with_reducible refine Kd.C_drewN ?_ _) | (with_reducible refine Kd.C_drew ?_))); (case side2 => exact HC0.out); rintro e w' ⟨rfl, ⟨nd, rfl⟩⟩; refine ⟨_, rfl, ?_⟩))
    go_ret2
    exact ⟨by first | rfl | (simp; done) | (simp [*]; done), by repeat (first | exact Drawn0.refl _ | apply Drawn0.step)⟩
end Go.Proofs.YtdcifmonhaklcaaDoor.A
