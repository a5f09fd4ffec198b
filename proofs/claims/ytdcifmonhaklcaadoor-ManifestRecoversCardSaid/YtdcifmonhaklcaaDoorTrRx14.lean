/- Walks: each Go function told here comes to what the plain function beside it says, wherever that one answers. -/
import Derived.Test.YtdcifmonhaklcaaDoorTrRx0
import Derived.Test.YtdcifmonhaklcaaDoorTrRx2
import Derived.Test.YtdcifmonhaklcaaDoorTrRx3
import Derived.Test.YtdcifmonhaklcaaDoorTrRx4
import Derived.Test.YtdcifmonhaklcaaDoorTrRx5
import Derived.Test.YtdcifmonhaklcaaDoorTrRx12
import Derived.Test.YtdcifmonhaklcaaDoorTrRx13
namespace Go.Proofs.YtdcifmonhaklcaaDoor.R
open Go.RowKit YtdcifmonhaklcaaDoorW.PrintWords YtdcifmonhaklcaaDoorW.PrintLast YtdcifmonhaklcaaDoorW.PrintMore
attribute [local go_sem] min2_int min_two
attribute [local go_sem] geq_str
set_option linter.unusedVariables false
set_option linter.unusedSimpArgs false
theorem rbytes_l0 (n : Nat) : ∀ (e : Nat) (v : Int) (acc : List Int), 0 ≤ v → v < 256 ^ n → (0 < v → 256 ^ (n - 1) ≤ v) → (v = 0 → n = 0) → v < 18446744073709551616 → acc.length + n < 140737488355328 → ∀ b : Int, 247 ≤ b → b + (n : Int) < 256 → dragnetref02_Bytes.l0 (n + 1 + e) v (b :: acc) = some ((b + (n : Int)) :: (acc ++ leN n v)) := by
 induction n with
 | zero =>
  intro e v acc h0 h1 _ _ _ _ b hb hb2
  have : v = 0 := by simp at h1; omega
  subst this
  rw [show 0 + 1 + e = e + 1 by omega, dragnetref02_Bytes.l0, if_neg (by omega), leN, List.append_nil]
  simp
 | succ n ih =>
  intro e v acc h0 h1 h2 h3 h4 hl b hb hb2
  have hv : 0 < v := by
   rcases Int.lt_or_eq_of_le h0 with h | h
   ·exact h
   ·exact absurd (h3 h.symm) (by omega)
  have hq : IntKind.u64.wrap (Int.tdiv v 256) = v / 256 := by rw [wrapU64, Int.tdiv_eq_ediv_of_nonneg h0]; omega
  have hm : Int.tmod v 256 % 256 = v % 256 := by rw [Int.tmod_eq_emod_of_nonneg h0]; omega
  rw [show n + 1 + 1 + e = (n + 1 + e) + 1 by omega, dragnetref02_Bytes.l0, if_pos hv, if_pos (by rw [List.length_cons]; omega), Option.bind_some, if_pos (by simp; omega), hq, hm]
  have hset : ((b :: acc) ++ [v % 256]).set (0 : Int).toNat ((rd ((b :: acc) ++ [v % 256]) 0 + 1) % 256) = (b + 1) :: (acc ++ [v % 256]) := by
   have : rd ((b :: acc) ++ [v % 256]) 0 = b := rfl
   rw [this, show (b + 1) % 256 = b + 1 by omega]
   rfl
  rw [hset]
  have hp := h2 hv
  have hlow : 0 < v / 256 → 256 ^ (n - 1) ≤ v / 256 := by
   intro h5
   rcases n with _ | n
   ·simp at h1
    omega
   ·have : (256 : Int) ^ (n + 1 + 1 - 1) = 256 ^ (n + 1 - 1) * 256 := Int.pow_succ ..
    rw [this] at hp
    omega
  rw [ih e (v / 256) (acc ++ [v % 256]) (by omega) (by rw [Int.pow_succ] at h1; omega) hlow (fun h5 => by
   rcases n with _ | n
   ·rfl
   ·have h6 : (256 : Int) ^ (n + 1 + 1 - 1) = 256 ^ n * 256 := Int.pow_succ ..
    rw [h6] at hp
    have : 0 < (256 : Int) ^ n := Int.pow_pos (by decide)
    omega) (by omega) (by rw [List.length_append, List.length_singleton]; omega) (b + 1) (by omega) (by omega), leN, List.append_assoc]
  congr 2
  omega
theorem szN_high {v : Int} (h0 : 0 < v) (h : v < 18446744073709551616) : 256 ^ (szN v - 1) ≤ v := by
 have h1 : v.toNat < 2 ^ 64 := by omega
 obtain ⟨b1, b2, b3⟩ := Lib.bitLenAux_bounds 64 v.toNat h1 (by omega)
 have e : Lib.bitLen v.toNat = Lib.bitLenAux 64 v.toNat := rfl
 have h2 : 2 ^ (8 * (szN v - 1)) ≤ v.toNat := Nat.le_trans (Nat.pow_le_pow_right (by decide) (by unfold szN; rw [e]; omega)) b2
 rw [Nat.pow_mul] at h2
 have h3 : ((256 ^ (szN v - 1) : Nat) : Int) ≤ (v.toNat : Int) := Int.ofNat_le.2 h2
 rw [Int.toNat_of_nonneg (by omega), Int.natCast_pow] at h3
 exact h3
theorem rbytes_f {v : Int} (h0 : 0 ≤ v) (h : v < 18446744073709551616) {k : Nat} (hk : 10 ≤ k) : dragnetref02_Bytes.f k v = some (putB v) := by
 unfold dragnetref02_Bytes.f putB
 by_cases hv : v ≤ 247
 ·rw [if_pos hv, if_pos hv]
  congr 2
  omega
 ·obtain ⟨s1, s2, s3⟩ := szN_low (by omega : 0 < v) h
  obtain ⟨e, rfl⟩ : ∃ e, k = szN v + 1 + e := ⟨k - szN v - 1, by omega⟩
  rw [if_neg hv, if_neg hv, rbytes_l0 (szN v) e v [] h0 s1 (fun hp => szN_high hp h) (fun h5 => by omega) h (by simp; omega) 247 (by decide) (by omega), List.nil_append]
theorem putB_len {v : Int} (hv : 247 < v) : (putB v).length = 1 + szN v := by
 unfold putB
 rw [if_neg (by omega), List.length_cons, leN_length]
 omega
theorem rtake_l0 (b : Int) (r : List Int) (hr : ByteL r) (kk : Nat) (hkk : kk ≤ 8) (hlen : kk ≤ r.length) (hll : r.length < 140737488355000) (n : Nat) : ∀ (e : Nat) (V : Int), n ≤ kk → 0 ≤ V → V * 256 ^ n + leV (r.take n) < 18446744073709551616 →
  dragnetref02_Take.l0 (n + 1 + (10 + e)) (b :: r) kk V n = if ((putB (V * 256 ^ n + leV (r.take n))).length : Int) = 1 + (kk : Int) then some (V * 256 ^ n + leV (r.take n), 1 + (kk : Int), 0) else some (0, 0, 2) := by
 induction n with
 | zero =>
  intro e V hn hV h1
  have hw : wrap64 (1 + (kk : Int)) = 1 + (kk : Int) := by unfold wrap64; omega
  have hz : V * 256 ^ 0 + leV (r.take 0) = V := by simp [leV]
  rw [hz] at h1 ⊢
  rw [show 0 + 1 + (10 + e) = (10 + e) + 1 by omega, dragnetref02_Take.l0, if_neg (by omega), rbytes_f hV h1 (by omega), Option.bind_some, hw]
 | succ n ih =>
  intro e V hn hV h1
  have h2 := rdB hr (n : Int)
  have ht := takeI r n (by omega)
  have hlt : (r.take n).length = n := by rw [List.length_take]; omega
  have hsum : V * 256 ^ (n + 1) + leV (r.take (n + 1)) = (V * 256 + rd r (n : Int)) * 256 ^ n + leV (r.take n) := by
   rw [ht, leV_append, hlt, Int.pow_succ, Int.add_mul, Int.mul_assoc V, Int.mul_comm 256 (256 ^ n)]
   show _ + (_ + 256 ^ n * (rd r (n : Int) + 256 * 0)) = _
   rw [Int.mul_comm (rd r (n : Int))]
   simp
   omega
  rw [hsum] at h1 ⊢
  have hp : (1 : Int) ≤ 256 ^ n := by
   have : 0 < (256 : Int) ^ n := Int.pow_pos (by decide)
   omega
  have hlv := (leV_range (r.take n) (fun x hx => hr x (List.mem_of_mem_take hx))).1
  have hb : V * 256 + rd r (n : Int) < 18446744073709551616 := by
   have : (V * 256 + rd r (n : Int)) * 1 ≤ (V * 256 + rd r (n : Int)) * 256 ^ n := Int.mul_le_mul_of_nonneg_left hp (by omega)
   omega
  have w1 : IntKind.u64.wrap (V * 256) = V * 256 := by rw [wrapU64]; omega
  have hx : rd (b :: r) ((n + 1 : Nat) : Int) = rd r (n : Int) := by
   unfold rd
   rw [Int.toNat_natCast, Int.toNat_natCast]
   rfl
  have w2 : IntKind.u64.wrap (rd r (n : Int)) = rd r (n : Int) := by rw [wrapU64]; omega
  have w3 : IntKind.u64.wrap (V * 256 + rd r (n : Int)) = V * 256 + rd r (n : Int) := by rw [wrapU64]; omega
  have w4 : wrap64 (((n + 1 : Nat) : Int) - 1) = (n : Int) := by unfold wrap64; omega
  rw [show n + 1 + 1 + (10 + e) = (n + 1 + (10 + e)) + 1 by omega, dragnetref02_Take.l0, if_pos (by omega), if_pos (by omega), if_pos (by rw [List.length_cons]; omega), w1, hx, w2, w3, w4, ih e _ (by omega) (by omega) h1]
theorem rtake_f {l : List Int} (hb : ByteL l) (hl : l.length < 140737488355000) {k : Nat} (hk : 30 ≤ k) : dragnetref02_Take.f k l = some (takeN l) := by
 unfold dragnetref02_Take.f
 cases l with
 | nil => rw [if_pos (by rfl)]; rfl
 | cons b r =>
  have h1 := hb b List.mem_cons_self
  have hr : ByteL r := fun x hx => hb x (List.mem_cons_of_mem _ hx)
  rw [List.length_cons] at hl
  rw [if_neg (by rw [List.length_cons]; omega), if_pos (by rw [List.length_cons]; omega), rd_zero, takeN_cons]
  have w0 : IntKind.u64.wrap b = b := by rw [wrapU64]; omega
  by_cases c1 : b ≤ 247
  ·rw [if_pos c1, if_pos c1, w0]
  ·have w1 : wrap64 (((b :: r).length : Int) - 1) = (r.length : Int) := by rw [List.length_cons]; unfold wrap64; omega
   have w2 : wrap64 (wrap64 b - 247) = b - 247 := by unfold wrap64; omega
   rw [if_neg c1, if_neg c1, w1, w2]
   by_cases c2 : (r.length : Int) < b - 247
   ·rw [if_pos c2, if_pos c2]
   ·obtain ⟨kk, hkk⟩ : ∃ kk : Nat, b - 247 = (kk : Int) := ⟨(b - 247).toNat, by omega⟩
    rw [if_neg c2, if_neg c2, hkk, Int.toNat_natCast]
    have hml : (r.take kk).length = kk := by rw [List.length_take]; omega
    have hlv := leV_range (r.take kk) (fun x hx => hr x (List.mem_of_mem_take hx))
    rw [hml] at hlv
    have hlt : leV (r.take kk) < 18446744073709551616 := by
     have h3 : (256 : Int) ^ kk ≤ 256 ^ 8 := by
      have := Nat.pow_le_pow_right (show 0 < 256 by decide) (show kk ≤ 8 by omega)
      have e1 : (256 : Int) ^ kk = ((256 ^ kk : Nat) : Int) := by simp
      have e2 : (256 : Int) ^ 8 = ((256 ^ 8 : Nat) : Int) := by simp
      rw [e1, e2]
      exact Int.ofNat_le.2 this
     have h4 : (256 : Int) ^ 8 = 18446744073709551616 := by decide
     omega
    obtain ⟨e, rfl⟩ : ∃ e, k = kk + 1 + (10 + e) := ⟨k - kk - 11, by omega⟩
    have := rtake_l0 b r hr kk (by omega) (by omega) (by omega) kk e 0 (Nat.le_refl _) (Int.le_refl _) (by rw [Int.zero_mul, Int.zero_add]; exact hlt)
    rw [Int.zero_mul, Int.zero_add] at this
    rw [this]
    by_cases c3 : leV (r.take kk) ≤ 247
    ·rw [if_neg (by unfold putB; rw [if_pos c3]; simp; omega), if_pos (.inl c3)]
    ·rw [putB_len (by omega)]
     have hsz := szN_le (show kk ≤ 8 by omega) hlv.1 hlv.2
     by_cases c4 : (szN (leV (r.take kk)) : Int) < (kk : Int)
     ·rw [if_neg (by omega), if_pos (.inr c4)]
     ·rw [if_pos (by omega), if_neg (fun h => h.elim c3 c4)]
      congr 3
      omega
def stepR (p : List Int) (a : Nat) (bad : Bool) (most : Int) : Int × Nat × Bool := if bad = true then (0, a, true) else if (takeN (p.drop a)).2.2 ≠ 0 ∨ most < (takeN (p.drop a)).1 then (0, a + (takeN (p.drop a)).2.1.toNat, true) else ((takeN (p.drop a)).1, a + (takeN (p.drop a)).2.1.toNat, false)
theorem take_n {l : List Int} (hb : ByteL l) : 0 ≤ (takeN l).2.1 ∧ (takeN l).2.1 ≤ l.length ∧ 0 ≤ (takeN l).1 := by
 by_cases h : (takeN l).2.2 = 0
 ·have := take_ok hb h
  omega
 ·cases l with
  | nil => exact ⟨by decide, by decide, by decide⟩
  | cons b r =>
   rw [takeN_cons] at h ⊢
   by_cases c1 : b ≤ 247
   ·rw [if_pos c1] at h
    exact absurd rfl h
   ·rw [if_neg c1] at h ⊢
    by_cases c2 : (r.length : Int) < b - 247
    ·rw [if_pos c2]
     exact ⟨by decide, by show (0 : Int) ≤ _; omega, by decide⟩
    ·rw [if_neg c2] at h ⊢
     by_cases c3 : leV (r.take (b - 247).toNat) ≤ 247 ∨ (szN (leV (r.take (b - 247).toNat)) : Int) < b - 247
     ·rw [if_pos c3]
      exact ⟨by decide, by show (0 : Int) ≤ _; omega, by decide⟩
     ·rw [if_neg c3] at h
      exact absurd rfl h
theorem stepR_at {p : List Int} (hb : ByteL p) {a : Nat} (ha : a ≤ p.length) (bad : Bool) (most : Int) : (stepR p a bad most).2.1 ≤ p.length ∧ a ≤ (stepR p a bad most).2.1 := by
 have h := take_n (l := p.drop a) (fun x hx => hb x (List.mem_of_mem_drop hx))
 rw [List.length_drop] at h
 unfold stepR
 by_cases c1 : bad = true
 ·rw [if_pos c1]
  exact ⟨ha, Nat.le_refl _⟩
 ·rw [if_neg c1]
  by_cases c2 : (takeN (p.drop a)).2.2 ≠ 0 ∨ most < (takeN (p.drop a)).1
  ·rw [if_pos c2]
   exact ⟨by show a + _ ≤ _; omega, by show a ≤ a + _; omega⟩
  ·rw [if_neg c2]
   exact ⟨by show a + _ ≤ _; omega, by show a ≤ a + _; omega⟩
theorem stepR_val {p : List Int} (hb : ByteL p) (a : Nat) (bad : Bool) (most : Int) (hm : 0 ≤ most ∧ most ≤ 1099511627776) : 0 ≤ (stepR p a bad most).1 ∧ (stepR p a bad most).1 ≤ most := by
 have h := take_n (l := p.drop a) (fun x hx => hb x (List.mem_of_mem_drop hx))
 unfold stepR
 by_cases c1 : bad = true
 ·rw [if_pos c1]
  exact ⟨Int.le_refl _, hm.1⟩
 ·rw [if_neg c1]
  by_cases c2 : (takeN (p.drop a)).2.2 ≠ 0 ∨ most < (takeN (p.drop a)).1
  ·rw [if_pos c2]
   exact ⟨Int.le_refl _, hm.1⟩
  ·rw [if_neg c2]
   exact ⟨h.2.2, by have := fun h => c2 (.inr h); show (takeN (p.drop a)).1 ≤ most; omega⟩
set_option maxHeartbeats 8000000 in
set_option maxRecDepth 100000 in
theorem reader_number.calls (wp w : World) (g : Nat) (A : Option Addr) (c : Nat) (p : List Int) (a : Nat) (bad : Bool) (most : Int) (hm : 0 ≤ most ∧ most ≤ 1099511627776) (hB : Below wp.heap.size wp w) (hg : wp.heap.size ≤ g) (hcell : w.heap[g]? = some (.cells #[.slice A p.length c, .int .i64 (a : Int), .bool bad] 75 (0, 0))) (hC : Kd.C (Kd.int .u8) wp A p.length p) (hc : p.length ≤ c) (hb : ByteL p) (hl : p.length ≤ 16777216) (ha : a ≤ p.length) :
  Calls Tryd.prog 61 #[.pointer (some ⟨g, 0, none⟩), .int .u64 most] w fun e w' => e = .returned (.int .u64 (stepR p a bad most).1) ∧ w'.heap[g]? = some (.cells #[.slice A p.length c, .int .i64 ((stepR p a bad most).2.1 : Int), .bool (stepR p a bad most).2.2] 75 (0, 0)) ∧ Below wp.heap.size wp w' ∧ Kept w w' (fun k => k = g) := by
 have HB := Aside0.mk hB
 have CB := Aside0.mk hcell
 have HK := Aside0.mk (Kept.refl w (fun k => k = g))
 have HG := Aside0.mk hg
 have hdb : ByteL (p.drop a) := fun x hx => hb x (List.mem_of_mem_drop hx)
 have HT := Aside0.mk (show dragnetref02_Take.f 30 (p.drop a) = some ((takeN (p.drop a)).1, (takeN (p.drop a)).2.1, (takeN (p.drop a)).2.2) from rtake_f hdb (by rw [List.length_drop]; omega) (Nat.le_refl _))
 have HTN := Aside0.mk (take_n hdb)
 obtain ⟨i0, hi, hz⟩ := Option.map_eq_some_iff.1 info5
 simp only [Prod.mk.injEq] at hz
 obtain ⟨A', hcut, hrd, hlen⟩ := print_drop_of (P := Tryd.prog) (Value.int .u8) 0 22 5 .i64 Tryd.underlying22 hi hz.2.1 A c p (a : Int) (by omega) (by omega) hc
 rw [Int.toNat_natCast] at hcut hrd hlen
 have HRD : Aside0 (Kd.C (Kd.int .u8) wp A' (p.drop a).length (p.drop a)) := ⟨Kd.C_of_reads (h1 := fun _ => rfl) (hrd wp (Kd.reads_of_C (h1 := fun _ => rfl) hC))⟩
 have HLE := Aside0.mk hlen
 have HAL := Aside0.mk (show a ≤ p.length ∧ p.length ≤ 16777216 ∧ (p.drop a).length = p.length - a from ⟨ha, hl, List.length_drop⟩)
 have HMO := Aside0.mk hm
 clear hm hB hg hcell hC hc hb hl ha hdb hi hz hrd hlen
 have hu75 := Tryd.underlying75
 have hu22 := Tryd.underlying22
 have hst : stepR p a bad most = if bad = true then (0, a, true) else if (takeN (p.drop a)).2.2 ≠ 0 ∨ most < (takeN (p.drop a)).1 then (0, a + (takeN (p.drop a)).2.1.toNat, true) else ((takeN (p.drop a)).1, a + (takeN (p.drop a)).2.1.toNat, false) := rfl
 obtain ⟨v, hv⟩ : ∃ v, v = (takeN (p.drop a)).1 := ⟨_, rfl⟩
 obtain ⟨n, hn⟩ : ∃ n : Nat, (takeN (p.drop a)).2.1 = (n : Int) := ⟨(takeN (p.drop a)).2.1.toNat, by have := HTN.out; omega⟩
 obtain ⟨er, he⟩ : ∃ er, er = (takeN (p.drop a)).2.2 := ⟨_, rfl⟩
 obtain ⟨q, hq⟩ : ∃ q, q = p.drop a := ⟨_, rfl⟩
 rw [← hv, ← he, hn, Int.toNat_natCast] at hst
 rw [← hv, ← he, hn] at HT
 rw [← hv, hn] at HTN
 rw [← hq] at HT HTN HRD HLE HAL hcut
 clear hv hn he hq
 cases bad with
 | true =>
  rw [if_pos rfl] at hst
  rw [hst]
  clear hst
  have v0 : w.cell? ⟨g, 0, none⟩ = some (.slice A p.length c) := (blk_cell CB.out 0).trans rfl
  have v1 : w.cell? ⟨g, 1, none⟩ = some (.int .i64 (a : Int)) := (blk_cell CB.out 1).trans rfl
  have v2 : w.cell? ⟨g, 2, none⟩ = some (.bool true) := (blk_cell CB.out 2).trans rfl
  have f1 := blk_frozen CB.out 1
  have f2 := blk_frozen CB.out 2
  go_enter Tryd.func61, Tryd.ntmps61
  go_wp2
  go_ret
  exact ⟨rfl, CB.out, HB.out, HK.out⟩
 | false =>
  rw [if_neg Bool.false_ne_true] at hst
  by_cases ce : er = 0
  ·by_cases cv : most < v
   ·have ceb : (er == 0) = true := beq_iff_eq.mpr ce
    have cen : (er != 0) = false := bne_eq_false_iff_eq.mpr ce
    have cvb : decide (most < v) = true := decide_eq_true cv
    rw [if_pos (.inr cv)] at hst
    rw [hst]
    clear hst
    have v0 : w.cell? ⟨g, 0, none⟩ = some (.slice A p.length c) := (blk_cell CB.out 0).trans rfl
    have v1 : w.cell? ⟨g, 1, none⟩ = some (.int .i64 (a : Int)) := (blk_cell CB.out 1).trans rfl
    have v2 : w.cell? ⟨g, 2, none⟩ = some (.bool false) := (blk_cell CB.out 2).trans rfl
    have f1 := blk_frozen CB.out 1
    have f2 := blk_frozen CB.out 2
    go_enter Tryd.func61, Tryd.ntmps61
    go_upto_region 3 with (first
     | fail)
    have HB_ : Aside0 (Below wp.heap.size wp w.drew) := ⟨below_drew1 HB.out⟩
    have CB_ := Aside0.mk (blk_drew CB.out)
    have HK_ : Aside0 (Kept w w.drew (fun k => k = g)) := ⟨HK.out⟩
    have v0_ : w.drew.cell? ⟨g, 0, none⟩ = some (.slice A p.length c) := v0
    have v1_ : w.drew.cell? ⟨g, 1, none⟩ = some (.int .i64 (a : Int)) := v1
    clear HB CB HK v0 v1 v2 f1 f2
    have HB := HB_
    have CB := CB_
    have HK := HK_
    have v0 := v0_
    have v1 := v1_
    clear HB_ CB_ HK_ v0_ v1_
    refine start_ (n := 17) (S := fun w' => w'.cell? ⟨g, 0, none⟩ = some (.slice A p.length c) ∧ w'.cell? ⟨g, 1, none⟩ = some (.int .i64 (a : Int))) (ds := []) #[false, false, false, false, false, false, false, false, false, false, false, false, false, false, false, false, false] (by kernel_rfl) rfl rfl ⟨v0, v1⟩ (fun hHeld => ?_)
    generalize w.drew = W at *
    refine pure_ (i := 0) (N := some 13) (v := ?_) (a' := ?_) #[true, false, false, false, false, false, false, false, false, false, false, false, false, false, false, false, false] rfl rfl (by kernel_rfl) (fun _ _ _ h => h) (Or.inl ⟨by rfl, ?_⟩) ?_ ?_
    rotate_left
    ·intro w'
     go_simp
     with_reducible rfl
    rotate_left
    ·go_simp
     rfl
    refine pure_ (i := 1) (N := some 14) (v := ?_) (a' := ?_) #[true, true, false, false, false, false, false, false, false, false, false, false, false, false, false, false, false] rfl rfl (by kernel_rfl) (fun _ _ _ h => h) (Or.inl ⟨by rfl, ?_⟩) ?_ ?_
    rotate_left
    ·intro w'
     go_simp
     with_reducible rfl
    rotate_left
    ·go_simp
     rfl
    refine pure_ (i := 2) (N := some 15) (v := ?_) (a' := ?_) #[true, true, true, false, false, false, false, false, false, false, false, false, false, false, false, false, false] rfl rfl (by kernel_rfl) (fun _ _ _ h => h) (Or.inl ⟨by rfl, ?_⟩) ?_ ?_
    rotate_left
    ·intro w'
     go_simp
     with_reducible rfl
    rotate_left
    ·go_simp
     rfl
    refine pure_ (i := 4) (N := some 17) (v := ?_) (a' := ?_) #[true, true, true, false, true, false, false, false, false, false, false, false, false, false, false, false, false] rfl rfl (by kernel_rfl) (fun _ _ _ h => h) (Or.inl ⟨by rfl, ?_⟩) ?_ ?_
    rotate_left
    ·intro w'
     go_simp
     with_reducible rfl
    rotate_left
    ·go_simp
     rfl
    refine pure_ (i := 5) (N := some 18) (v := ?_) (a' := ?_) #[true, true, true, false, true, true, false, false, false, false, false, false, false, false, false, false, false] rfl rfl (by kernel_rfl) (fun _ _ _ h => h) (Or.inl ⟨by rfl, ?_⟩) ?_ ?_
    rotate_left
    ·intro w'
     go_simp
     with_reducible rfl
    rotate_left
    ·go_simp
     rfl
    refine pure_ (i := 6) (N := some 19) (v := ?_) (a' := ?_) #[true, true, true, false, true, true, true, false, false, false, false, false, false, false, false, false, false] rfl rfl (by kernel_rfl) (fun _ _ _ h => h) (Or.inl ⟨by rfl, ?_⟩) ?_ ?_
    rotate_left
    ·intro w'
     go_simp
     with_reducible rfl
    rotate_left
    ·go_simp
     rfl
    refine take_ (i := 3) (N := some 16) (v := ?_) (a' := ?_) #[true, true, true, true, true, true, true, false, false, false, false, false, false, false, false, false, false] rfl rfl (by kernel_rfl) (fun _ _ _ h => h) (Or.inl ⟨by rfl, ?_⟩) hHeld ?_ ?_
    rotate_left
    ·rintro w' ⟨s0, s1⟩
     go_simp
     with_reducible rfl
    rotate_left
    ·go_simp
     rfl
    refine take_ (i := 7) (N := some 20) (v := ?_) (a' := ?_) #[true, true, true, true, true, true, true, true, false, false, false, false, false, false, false, false, false] rfl rfl (by kernel_rfl) (fun _ _ _ h => h) (Or.inl ⟨by rfl, ?_⟩) hHeld ?_ ?_
    rotate_left
    ·rintro w' ⟨s0, s1⟩
     go_simp
     with_reducible rfl
    rotate_left
    ·go_simp
     rfl
    refine pure_ (i := 8) (N := some 21) (v := ?_) (a' := ?_) #[true, true, true, true, true, true, true, true, true, false, false, false, false, false, false, false, false] rfl rfl (by kernel_rfl) (fun _ _ _ h => h) (Or.inl ⟨by rfl, ?_⟩) ?_ ?_
    rotate_left
    ·intro w'
     go_simp
     with_reducible rfl
    rotate_left
    ·go_simp
     rfl
    refine one_ (i := 9) (N := some 22) #[true, true, true, true, true, true, true, true, true, true, false, false, false, false, false, false, false] rfl rfl (by kernel_rfl) (by decide) (fun K hK => ?_)
    refine goes_ Tryd.func79 (by kernel_rfl) rfl #[.slice A' q.length (c - a)] (by rfl) rfl rfl (by simp only [List.map_toArray, List.map_cons, List.map_nil]; rfl) ?_
    with_reducible refine (dragnetref02_Take.calls 30 A' (c - a) q v (n : Int) er _ (Kd.C_below HRD.out HB.out) HLE.out HT.out).mono ?_
    rintro e_ w1 ⟨rfl, hb⟩
    refine ⟨_, rfl, ?_⟩
    have HB1 := Aside0.mk hb
    clear hb
    refine hK.out _ _ ⟨(pw_cell_below HB1.out v0), (pw_cell_below HB1.out v1)⟩ (fun hHeld => ?_)
    clear hK K
    refine norm_ (a' := ?_) ?_ ?_
    rotate_left
    ·show Act.put _ (some 22) _ = _
     go_simp
     rfl
    refine pure_ (i := 10) (N := some 12) (v := ?_) (a' := ?_) #[true, true, true, true, true, true, true, true, true, true, true, false, false, false, false, false, false] rfl rfl (by kernel_rfl) (fun _ _ _ h => h) (Or.inl ⟨by rfl, ?_⟩) ?_ ?_
    rotate_left
    ·intro w'
     go_simp
     with_reducible rfl
    rotate_left
    ·go_simp
     rfl
    refine pure_ (i := 11) (N := some 23) (v := ?_) (a' := ?_) #[true, true, true, true, true, true, true, true, true, true, true, true, false, false, false, false, false] rfl rfl (by kernel_rfl) (fun _ _ _ h => h) (Or.inl ⟨by rfl, ?_⟩) ?_ ?_
    rotate_left
    ·intro w'
     go_simp
     with_reducible rfl
    rotate_left
    ·go_simp
     rfl
    refine pure_ (i := 12) (N := some 24) (v := ?_) (a' := ?_) #[true, true, true, true, true, true, true, true, true, true, true, true, true, false, false, false, false] rfl rfl (by kernel_rfl) (fun _ _ _ h => h) (Or.inl ⟨by rfl, ?_⟩) ?_ ?_
    rotate_left
    ·intro w'
     go_simp
     with_reducible rfl
    rotate_left
    ·go_simp
     rfl
    refine pure_ (i := 13) (N := some 25) (v := ?_) (a' := ?_) #[true, true, true, true, true, true, true, true, true, true, true, true, true, true, false, false, false] rfl rfl (by kernel_rfl) (fun _ _ _ h => h) (Or.inl ⟨by rfl, ?_⟩) ?_ ?_
    rotate_left
    ·intro w'
     go_simp
     with_reducible rfl
    rotate_left
    ·go_simp
     rfl
    refine pure_ (i := 14) (N := some 5) (v := ?_) (a' := ?_) #[true, true, true, true, true, true, true, true, true, true, true, true, true, true, true, false, false] rfl rfl (by kernel_rfl) (fun _ _ _ h => h) (Or.inl ⟨by rfl, ?_⟩) ?_ ?_
    rotate_left
    ·intro w'
     go_simp
     with_reducible rfl
    rotate_left
    ·go_simp
     rfl
    refine pure_ (i := 15) (N := some 6) (v := ?_) (a' := ?_) #[true, true, true, true, true, true, true, true, true, true, true, true, true, true, true, true, false] rfl rfl (by kernel_rfl) (fun _ _ _ h => h) (Or.inl ⟨by rfl, ?_⟩) ?_ ?_
    rotate_left
    ·intro w'
     go_simp
     with_reducible rfl
    rotate_left
    ·go_simp
     rfl
    refine pure_ (i := 16) (N := some 7) (v := ?_) (a' := ?_) #[true, true, true, true, true, true, true, true, true, true, true, true, true, true, true, true, true] rfl rfl (by kernel_rfl) (fun _ _ _ h => h) (Or.inl ⟨by rfl, ?_⟩) ?_ ?_
    rotate_left
    ·intro w'
     go_simp
     with_reducible rfl
    rotate_left
    ·go_simp
     rfl
    refine done_ (by kernel_rfl) ?_
    have HB_ := Aside0.mk (below_step HB.out HB1.out)
    have CB_ := Aside0.mk (blk_below CB.out HB1.out)
    have HK_ := Aside0.mk (Kept.below HK.out HB1.out)
    clear HB CB HK HB1 v0 v1 hHeld
    have HB := HB_
    have CB := CB_
    have HK := HK_
    clear HB_ CB_ HK_
    have v0 : w1.cell? ⟨g, 0, none⟩ = some (.slice A p.length c) := (blk_cell CB.out 0).trans rfl
    have v1 : w1.cell? ⟨g, 1, none⟩ = some (.int .i64 (a : Int)) := (blk_cell CB.out 1).trans rfl
    have v2 : w1.cell? ⟨g, 2, none⟩ = some (.bool false) := (blk_cell CB.out 2).trans rfl
    have f1 := blk_frozen CB.out 1
    have f2 := blk_frozen CB.out 2
    have had : wrap64 ((a : Int) + (n : Int)) = ((a : Int) + (n : Int)) := by have := HTN.out; have := HAL.out; unfold wrap64; omega
    go_upto_region 5 with (first
     | fail)
    have HB_ := Aside0.mk (below_set (j := 1) (v := .int .i64 ((a : Int) + (n : Int))) HB.out HG.out)
    have CB_ := Aside0.mk (blk_put (cs' := #[.slice A p.length c, .int .i64 ((a : Int) + (n : Int)), .bool false]) CB.out 1 (.int .i64 ((a : Int) + (n : Int))) rfl)
    have HK_ := Aside0.mk (Kept.setCell (p := ⟨g, 1, none⟩) HK.out (.inl rfl) (.int .i64 ((a : Int) + (n : Int))))
    clear HB CB HK v0 v1 v2 f1 f2
    generalize w1.setCell ⟨g, 1, none⟩ (.int .i64 ((a : Int) + (n : Int))) = W1 at *
    have HB := HB_
    have CB := CB_
    have HK := HK_
    clear HB_ CB_ HK_
    have v0 : W1.cell? ⟨g, 0, none⟩ = some (.slice A p.length c) := (blk_cell CB.out 0).trans rfl
    have v1 : W1.cell? ⟨g, 1, none⟩ = some (.int .i64 ((a : Int) + (n : Int))) := (blk_cell CB.out 1).trans rfl
    have v2 : W1.cell? ⟨g, 2, none⟩ = some (.bool false) := (blk_cell CB.out 2).trans rfl
    have f1 := blk_frozen CB.out 1
    have f2 := blk_frozen CB.out 2
    go_upto_region 6 with (first
     | fail)
    have HB_ := Aside0.mk (below_set (j := 2) (v := .bool true) HB.out HG.out)
    have CB_ := Aside0.mk (blk_put (cs' := #[.slice A p.length c, .int .i64 ((a : Int) + (n : Int)), .bool true]) CB.out 2 (.bool true) rfl)
    have HK_ := Aside0.mk (Kept.setCell (p := ⟨g, 2, none⟩) HK.out (.inl rfl) (.bool true))
    clear HB CB HK v0 v1 v2 f1 f2
    generalize W1.setCell ⟨g, 2, none⟩ (.bool true) = W2 at *
    have HB := HB_
    have CB := CB_
    have HK := HK_
    clear HB_ CB_ HK_
    have v0 : W2.cell? ⟨g, 0, none⟩ = some (.slice A p.length c) := (blk_cell CB.out 0).trans rfl
    have v1 : W2.cell? ⟨g, 1, none⟩ = some (.int .i64 ((a : Int) + (n : Int))) := (blk_cell CB.out 1).trans rfl
    have v2 : W2.cell? ⟨g, 2, none⟩ = some (.bool true) := (blk_cell CB.out 2).trans rfl
    have f1 := blk_frozen CB.out 1
    have f2 := blk_frozen CB.out 2
    go_wp2
    go_ret
    exact ⟨rfl, CB.out, HB.out, HK.out⟩
   ·have ceb : (er == 0) = true := beq_iff_eq.mpr ce
    have cen : (er != 0) = false := bne_eq_false_iff_eq.mpr ce
    have cvb : decide (most < v) = false := decide_eq_false cv
    rw [if_neg (fun h => h.elim (fun h => h ce) cv)] at hst
    rw [hst]
    clear hst
    have v0 : w.cell? ⟨g, 0, none⟩ = some (.slice A p.length c) := (blk_cell CB.out 0).trans rfl
    have v1 : w.cell? ⟨g, 1, none⟩ = some (.int .i64 (a : Int)) := (blk_cell CB.out 1).trans rfl
    have v2 : w.cell? ⟨g, 2, none⟩ = some (.bool false) := (blk_cell CB.out 2).trans rfl
    have f1 := blk_frozen CB.out 1
    have f2 := blk_frozen CB.out 2
    go_enter Tryd.func61, Tryd.ntmps61
    go_upto_region 3 with (first
     | fail)
    have HB_ : Aside0 (Below wp.heap.size wp w.drew) := ⟨below_drew1 HB.out⟩
    have CB_ := Aside0.mk (blk_drew CB.out)
    have HK_ : Aside0 (Kept w w.drew (fun k => k = g)) := ⟨HK.out⟩
    have v0_ : w.drew.cell? ⟨g, 0, none⟩ = some (.slice A p.length c) := v0
    have v1_ : w.drew.cell? ⟨g, 1, none⟩ = some (.int .i64 (a : Int)) := v1
    clear HB CB HK v0 v1 v2 f1 f2
    have HB := HB_
    have CB := CB_
    have HK := HK_
    have v0 := v0_
    have v1 := v1_
    clear HB_ CB_ HK_ v0_ v1_
    refine start_ (n := 17) (S := fun w' => w'.cell? ⟨g, 0, none⟩ = some (.slice A p.length c) ∧ w'.cell? ⟨g, 1, none⟩ = some (.int .i64 (a : Int))) (ds := []) #[false, false, false, false, false, false, false, false, false, false, false, false, false, false, false, false, false] (by kernel_rfl) rfl rfl ⟨v0, v1⟩ (fun hHeld => ?_)
    generalize w.drew = W at *
    refine pure_ (i := 0) (N := some 13) (v := ?_) (a' := ?_) #[true, false, false, false, false, false, false, false, false, false, false, false, false, false, false, false, false] rfl rfl (by kernel_rfl) (fun _ _ _ h => h) (Or.inl ⟨by rfl, ?_⟩) ?_ ?_
    rotate_left
    ·intro w'
     go_simp
     with_reducible rfl
    rotate_left
    ·go_simp
     rfl
    refine pure_ (i := 1) (N := some 14) (v := ?_) (a' := ?_) #[true, true, false, false, false, false, false, false, false, false, false, false, false, false, false, false, false] rfl rfl (by kernel_rfl) (fun _ _ _ h => h) (Or.inl ⟨by rfl, ?_⟩) ?_ ?_
    rotate_left
    ·intro w'
     go_simp
     with_reducible rfl
    rotate_left
    ·go_simp
     rfl
    refine pure_ (i := 2) (N := some 15) (v := ?_) (a' := ?_) #[true, true, true, false, false, false, false, false, false, false, false, false, false, false, false, false, false] rfl rfl (by kernel_rfl) (fun _ _ _ h => h) (Or.inl ⟨by rfl, ?_⟩) ?_ ?_
    rotate_left
    ·intro w'
     go_simp
     with_reducible rfl
    rotate_left
    ·go_simp
     rfl
    refine pure_ (i := 4) (N := some 17) (v := ?_) (a' := ?_) #[true, true, true, false, true, false, false, false, false, false, false, false, false, false, false, false, false] rfl rfl (by kernel_rfl) (fun _ _ _ h => h) (Or.inl ⟨by rfl, ?_⟩) ?_ ?_
    rotate_left
    ·intro w'
     go_simp
     with_reducible rfl
    rotate_left
    ·go_simp
     rfl
    refine pure_ (i := 5) (N := some 18) (v := ?_) (a' := ?_) #[true, true, true, false, true, true, false, false, false, false, false, false, false, false, false, false, false] rfl rfl (by kernel_rfl) (fun _ _ _ h => h) (Or.inl ⟨by rfl, ?_⟩) ?_ ?_
    rotate_left
    ·intro w'
     go_simp
     with_reducible rfl
    rotate_left
    ·go_simp
     rfl
    refine pure_ (i := 6) (N := some 19) (v := ?_) (a' := ?_) #[true, true, true, false, true, true, true, false, false, false, false, false, false, false, false, false, false] rfl rfl (by kernel_rfl) (fun _ _ _ h => h) (Or.inl ⟨by rfl, ?_⟩) ?_ ?_
    rotate_left
    ·intro w'
     go_simp
     with_reducible rfl
    rotate_left
    ·go_simp
     rfl
    refine take_ (i := 3) (N := some 16) (v := ?_) (a' := ?_) #[true, true, true, true, true, true, true, false, false, false, false, false, false, false, false, false, false] rfl rfl (by kernel_rfl) (fun _ _ _ h => h) (Or.inl ⟨by rfl, ?_⟩) hHeld ?_ ?_
    rotate_left
    ·rintro w' ⟨s0, s1⟩
     go_simp
     with_reducible rfl
    rotate_left
    ·go_simp
     rfl
    refine take_ (i := 7) (N := some 20) (v := ?_) (a' := ?_) #[true, true, true, true, true, true, true, true, false, false, false, false, false, false, false, false, false] rfl rfl (by kernel_rfl) (fun _ _ _ h => h) (Or.inl ⟨by rfl, ?_⟩) hHeld ?_ ?_
    rotate_left
    ·rintro w' ⟨s0, s1⟩
     go_simp
     with_reducible rfl
    rotate_left
    ·go_simp
     rfl
    refine pure_ (i := 8) (N := some 21) (v := ?_) (a' := ?_) #[true, true, true, true, true, true, true, true, true, false, false, false, false, false, false, false, false] rfl rfl (by kernel_rfl) (fun _ _ _ h => h) (Or.inl ⟨by rfl, ?_⟩) ?_ ?_
    rotate_left
    ·intro w'
     go_simp
     with_reducible rfl
    rotate_left
    ·go_simp
     rfl
    refine one_ (i := 9) (N := some 22) #[true, true, true, true, true, true, true, true, true, true, false, false, false, false, false, false, false] rfl rfl (by kernel_rfl) (by decide) (fun K hK => ?_)
    refine goes_ Tryd.func79 (by kernel_rfl) rfl #[.slice A' q.length (c - a)] (by rfl) rfl rfl (by simp only [List.map_toArray, List.map_cons, List.map_nil]; rfl) ?_
    with_reducible refine (dragnetref02_Take.calls 30 A' (c - a) q v (n : Int) er _ (Kd.C_below HRD.out HB.out) HLE.out HT.out).mono ?_
    rintro e_ w1 ⟨rfl, hb⟩
    refine ⟨_, rfl, ?_⟩
    have HB1 := Aside0.mk hb
    clear hb
    refine hK.out _ _ ⟨(pw_cell_below HB1.out v0), (pw_cell_below HB1.out v1)⟩ (fun hHeld => ?_)
    clear hK K
    refine norm_ (a' := ?_) ?_ ?_
    rotate_left
    ·show Act.put _ (some 22) _ = _
     go_simp
     rfl
    refine pure_ (i := 10) (N := some 12) (v := ?_) (a' := ?_) #[true, true, true, true, true, true, true, true, true, true, true, false, false, false, false, false, false] rfl rfl (by kernel_rfl) (fun _ _ _ h => h) (Or.inl ⟨by rfl, ?_⟩) ?_ ?_
    rotate_left
    ·intro w'
     go_simp
     with_reducible rfl
    rotate_left
    ·go_simp
     rfl
    refine pure_ (i := 11) (N := some 23) (v := ?_) (a' := ?_) #[true, true, true, true, true, true, true, true, true, true, true, true, false, false, false, false, false] rfl rfl (by kernel_rfl) (fun _ _ _ h => h) (Or.inl ⟨by rfl, ?_⟩) ?_ ?_
    rotate_left
    ·intro w'
     go_simp
     with_reducible rfl
    rotate_left
    ·go_simp
     rfl
    refine pure_ (i := 12) (N := some 24) (v := ?_) (a' := ?_) #[true, true, true, true, true, true, true, true, true, true, true, true, true, false, false, false, false] rfl rfl (by kernel_rfl) (fun _ _ _ h => h) (Or.inl ⟨by rfl, ?_⟩) ?_ ?_
    rotate_left
    ·intro w'
     go_simp
     with_reducible rfl
    rotate_left
    ·go_simp
     rfl
    refine pure_ (i := 13) (N := some 25) (v := ?_) (a' := ?_) #[true, true, true, true, true, true, true, true, true, true, true, true, true, true, false, false, false] rfl rfl (by kernel_rfl) (fun _ _ _ h => h) (Or.inl ⟨by rfl, ?_⟩) ?_ ?_
    rotate_left
    ·intro w'
     go_simp
     with_reducible rfl
    rotate_left
    ·go_simp
     rfl
    refine pure_ (i := 14) (N := some 5) (v := ?_) (a' := ?_) #[true, true, true, true, true, true, true, true, true, true, true, true, true, true, true, false, false] rfl rfl (by kernel_rfl) (fun _ _ _ h => h) (Or.inl ⟨by rfl, ?_⟩) ?_ ?_
    rotate_left
    ·intro w'
     go_simp
     with_reducible rfl
    rotate_left
    ·go_simp
     rfl
    refine pure_ (i := 15) (N := some 6) (v := ?_) (a' := ?_) #[true, true, true, true, true, true, true, true, true, true, true, true, true, true, true, true, false] rfl rfl (by kernel_rfl) (fun _ _ _ h => h) (Or.inl ⟨by rfl, ?_⟩) ?_ ?_
    rotate_left
    ·intro w'
     go_simp
     with_reducible rfl
    rotate_left
    ·go_simp
     rfl
    refine pure_ (i := 16) (N := some 7) (v := ?_) (a' := ?_) #[true, true, true, true, true, true, true, true, true, true, true, true, true, true, true, true, true] rfl rfl (by kernel_rfl) (fun _ _ _ h => h) (Or.inl ⟨by rfl, ?_⟩) ?_ ?_
    rotate_left
    ·intro w'
     go_simp
     with_reducible rfl
    rotate_left
    ·go_simp
     rfl
    refine done_ (by kernel_rfl) ?_
    have HB_ := Aside0.mk (below_step HB.out HB1.out)
    have CB_ := Aside0.mk (blk_below CB.out HB1.out)
    have HK_ := Aside0.mk (Kept.below HK.out HB1.out)
    clear HB CB HK HB1 v0 v1 hHeld
    have HB := HB_
    have CB := CB_
    have HK := HK_
    clear HB_ CB_ HK_
    have v0 : w1.cell? ⟨g, 0, none⟩ = some (.slice A p.length c) := (blk_cell CB.out 0).trans rfl
    have v1 : w1.cell? ⟨g, 1, none⟩ = some (.int .i64 (a : Int)) := (blk_cell CB.out 1).trans rfl
    have v2 : w1.cell? ⟨g, 2, none⟩ = some (.bool false) := (blk_cell CB.out 2).trans rfl
    have f1 := blk_frozen CB.out 1
    have f2 := blk_frozen CB.out 2
    have had : wrap64 ((a : Int) + (n : Int)) = ((a : Int) + (n : Int)) := by have := HTN.out; have := HAL.out; unfold wrap64; omega
    go_upto_region 5 with (first
     | fail)
    have HB_ := Aside0.mk (below_set (j := 1) (v := .int .i64 ((a : Int) + (n : Int))) HB.out HG.out)
    have CB_ := Aside0.mk (blk_put (cs' := #[.slice A p.length c, .int .i64 ((a : Int) + (n : Int)), .bool false]) CB.out 1 (.int .i64 ((a : Int) + (n : Int))) rfl)
    have HK_ := Aside0.mk (Kept.setCell (p := ⟨g, 1, none⟩) HK.out (.inl rfl) (.int .i64 ((a : Int) + (n : Int))))
    clear HB CB HK v0 v1 v2 f1 f2
    generalize w1.setCell ⟨g, 1, none⟩ (.int .i64 ((a : Int) + (n : Int))) = W1 at *
    have HB := HB_
    have CB := CB_
    have HK := HK_
    clear HB_ CB_ HK_
    have v0 : W1.cell? ⟨g, 0, none⟩ = some (.slice A p.length c) := (blk_cell CB.out 0).trans rfl
    have v1 : W1.cell? ⟨g, 1, none⟩ = some (.int .i64 ((a : Int) + (n : Int))) := (blk_cell CB.out 1).trans rfl
    have v2 : W1.cell? ⟨g, 2, none⟩ = some (.bool false) := (blk_cell CB.out 2).trans rfl
    have f1 := blk_frozen CB.out 1
    have f2 := blk_frozen CB.out 2
    go_upto_region 6 with (first
     | fail)
    have HB_ := Aside0.mk (below_set (j := 2) (v := .bool false) HB.out HG.out)
    have CB_ := Aside0.mk (blk_put (cs' := #[.slice A p.length c, .int .i64 ((a : Int) + (n : Int)), .bool false]) CB.out 2 (.bool false) rfl)
    have HK_ := Aside0.mk (Kept.setCell (p := ⟨g, 2, none⟩) HK.out (.inl rfl) (.bool false))
    clear HB CB HK v0 v1 v2 f1 f2
    generalize W1.setCell ⟨g, 2, none⟩ (.bool false) = W2 at *
    have HB := HB_
    have CB := CB_
    have HK := HK_
    clear HB_ CB_ HK_
    have v0 : W2.cell? ⟨g, 0, none⟩ = some (.slice A p.length c) := (blk_cell CB.out 0).trans rfl
    have v1 : W2.cell? ⟨g, 1, none⟩ = some (.int .i64 ((a : Int) + (n : Int))) := (blk_cell CB.out 1).trans rfl
    have v2 : W2.cell? ⟨g, 2, none⟩ = some (.bool false) := (blk_cell CB.out 2).trans rfl
    have f1 := blk_frozen CB.out 1
    have f2 := blk_frozen CB.out 2
    go_wp2
    go_ret
    exact ⟨rfl, CB.out, HB.out, HK.out⟩
  ·have ceb : (er == 0) = false := beq_eq_false_iff_ne.mpr ce
   have cen : (er != 0) = true := bne_iff_ne.mpr ce
   rw [if_pos (.inl ce)] at hst
   rw [hst]
   clear hst
   have v0 : w.cell? ⟨g, 0, none⟩ = some (.slice A p.length c) := (blk_cell CB.out 0).trans rfl
   have v1 : w.cell? ⟨g, 1, none⟩ = some (.int .i64 (a : Int)) := (blk_cell CB.out 1).trans rfl
   have v2 : w.cell? ⟨g, 2, none⟩ = some (.bool false) := (blk_cell CB.out 2).trans rfl
   have f1 := blk_frozen CB.out 1
   have f2 := blk_frozen CB.out 2
   go_enter Tryd.func61, Tryd.ntmps61
   go_upto_region 3 with (first
    | fail)
   have HB_ : Aside0 (Below wp.heap.size wp w.drew) := ⟨below_drew1 HB.out⟩
   have CB_ := Aside0.mk (blk_drew CB.out)
   have HK_ : Aside0 (Kept w w.drew (fun k => k = g)) := ⟨HK.out⟩
   have v0_ : w.drew.cell? ⟨g, 0, none⟩ = some (.slice A p.length c) := v0
   have v1_ : w.drew.cell? ⟨g, 1, none⟩ = some (.int .i64 (a : Int)) := v1
   clear HB CB HK v0 v1 v2 f1 f2
   have HB := HB_
   have CB := CB_
   have HK := HK_
   have v0 := v0_
   have v1 := v1_
   clear HB_ CB_ HK_ v0_ v1_
   refine start_ (n := 17) (S := fun w' => w'.cell? ⟨g, 0, none⟩ = some (.slice A p.length c) ∧ w'.cell? ⟨g, 1, none⟩ = some (.int .i64 (a : Int))) (ds := []) #[false, false, false, false, false, false, false, false, false, false, false, false, false, false, false, false, false] (by kernel_rfl) rfl rfl ⟨v0, v1⟩ (fun hHeld => ?_)
   generalize w.drew = W at *
   refine pure_ (i := 0) (N := some 13) (v := ?_) (a' := ?_) #[true, false, false, false, false, false, false, false, false, false, false, false, false, false, false, false, false] rfl rfl (by kernel_rfl) (fun _ _ _ h => h) (Or.inl ⟨by rfl, ?_⟩) ?_ ?_
   rotate_left
   ·intro w'
    go_simp
    with_reducible rfl
   rotate_left
   ·go_simp
    rfl
   refine pure_ (i := 1) (N := some 14) (v := ?_) (a' := ?_) #[true, true, false, false, false, false, false, false, false, false, false, false, false, false, false, false, false] rfl rfl (by kernel_rfl) (fun _ _ _ h => h) (Or.inl ⟨by rfl, ?_⟩) ?_ ?_
   rotate_left
   ·intro w'
    go_simp
    with_reducible rfl
   rotate_left
   ·go_simp
    rfl
   refine pure_ (i := 2) (N := some 15) (v := ?_) (a' := ?_) #[true, true, true, false, false, false, false, false, false, false, false, false, false, false, false, false, false] rfl rfl (by kernel_rfl) (fun _ _ _ h => h) (Or.inl ⟨by rfl, ?_⟩) ?_ ?_
   rotate_left
   ·intro w'
    go_simp
    with_reducible rfl
   rotate_left
   ·go_simp
    rfl
   refine pure_ (i := 4) (N := some 17) (v := ?_) (a' := ?_) #[true, true, true, false, true, false, false, false, false, false, false, false, false, false, false, false, false] rfl rfl (by kernel_rfl) (fun _ _ _ h => h) (Or.inl ⟨by rfl, ?_⟩) ?_ ?_
   rotate_left
   ·intro w'
    go_simp
    with_reducible rfl
   rotate_left
   ·go_simp
    rfl
   refine pure_ (i := 5) (N := some 18) (v := ?_) (a' := ?_) #[true, true, true, false, true, true, false, false, false, false, false, false, false, false, false, false, false] rfl rfl (by kernel_rfl) (fun _ _ _ h => h) (Or.inl ⟨by rfl, ?_⟩) ?_ ?_
   rotate_left
   ·intro w'
    go_simp
    with_reducible rfl
   rotate_left
   ·go_simp
    rfl
   refine pure_ (i := 6) (N := some 19) (v := ?_) (a' := ?_) #[true, true, true, false, true, true, true, false, false, false, false, false, false, false, false, false, false] rfl rfl (by kernel_rfl) (fun _ _ _ h => h) (Or.inl ⟨by rfl, ?_⟩) ?_ ?_
   rotate_left
   ·intro w'
    go_simp
    with_reducible rfl
   rotate_left
   ·go_simp
    rfl
   refine take_ (i := 3) (N := some 16) (v := ?_) (a' := ?_) #[true, true, true, true, true, true, true, false, false, false, false, false, false, false, false, false, false] rfl rfl (by kernel_rfl) (fun _ _ _ h => h) (Or.inl ⟨by rfl, ?_⟩) hHeld ?_ ?_
   rotate_left
   ·rintro w' ⟨s0, s1⟩
    go_simp
    with_reducible rfl
   rotate_left
   ·go_simp
    rfl
   refine take_ (i := 7) (N := some 20) (v := ?_) (a' := ?_) #[true, true, true, true, true, true, true, true, false, false, false, false, false, false, false, false, false] rfl rfl (by kernel_rfl) (fun _ _ _ h => h) (Or.inl ⟨by rfl, ?_⟩) hHeld ?_ ?_
   rotate_left
   ·rintro w' ⟨s0, s1⟩
    go_simp
    with_reducible rfl
   rotate_left
   ·go_simp
    rfl
   refine pure_ (i := 8) (N := some 21) (v := ?_) (a' := ?_) #[true, true, true, true, true, true, true, true, true, false, false, false, false, false, false, false, false] rfl rfl (by kernel_rfl) (fun _ _ _ h => h) (Or.inl ⟨by rfl, ?_⟩) ?_ ?_
   rotate_left
   ·intro w'
    go_simp
    with_reducible rfl
   rotate_left
   ·go_simp
    rfl
   refine one_ (i := 9) (N := some 22) #[true, true, true, true, true, true, true, true, true, true, false, false, false, false, false, false, false] rfl rfl (by kernel_rfl) (by decide) (fun K hK => ?_)
   refine goes_ Tryd.func79 (by kernel_rfl) rfl #[.slice A' q.length (c - a)] (by rfl) rfl rfl (by simp only [List.map_toArray, List.map_cons, List.map_nil]; rfl) ?_
   with_reducible refine (dragnetref02_Take.calls 30 A' (c - a) q v (n : Int) er _ (Kd.C_below HRD.out HB.out) HLE.out HT.out).mono ?_
   rintro e_ w1 ⟨rfl, hb⟩
   refine ⟨_, rfl, ?_⟩
   have HB1 := Aside0.mk hb
   clear hb
   refine hK.out _ _ ⟨(pw_cell_below HB1.out v0), (pw_cell_below HB1.out v1)⟩ (fun hHeld => ?_)
   clear hK K
   refine norm_ (a' := ?_) ?_ ?_
   rotate_left
   ·show Act.put _ (some 22) _ = _
    go_simp
    rfl
   refine pure_ (i := 10) (N := some 12) (v := ?_) (a' := ?_) #[true, true, true, true, true, true, true, true, true, true, true, false, false, false, false, false, false] rfl rfl (by kernel_rfl) (fun _ _ _ h => h) (Or.inl ⟨by rfl, ?_⟩) ?_ ?_
   rotate_left
   ·intro w'
    go_simp
    with_reducible rfl
   rotate_left
   ·go_simp
    rfl
   refine pure_ (i := 11) (N := some 23) (v := ?_) (a' := ?_) #[true, true, true, true, true, true, true, true, true, true, true, true, false, false, false, false, false] rfl rfl (by kernel_rfl) (fun _ _ _ h => h) (Or.inl ⟨by rfl, ?_⟩) ?_ ?_
   rotate_left
   ·intro w'
    go_simp
    with_reducible rfl
   rotate_left
   ·go_simp
    rfl
   refine pure_ (i := 12) (N := some 24) (v := ?_) (a' := ?_) #[true, true, true, true, true, true, true, true, true, true, true, true, true, false, false, false, false] rfl rfl (by kernel_rfl) (fun _ _ _ h => h) (Or.inl ⟨by rfl, ?_⟩) ?_ ?_
   rotate_left
   ·intro w'
    go_simp
    with_reducible rfl
   rotate_left
   ·go_simp
    rfl
   refine pure_ (i := 13) (N := some 25) (v := ?_) (a' := ?_) #[true, true, true, true, true, true, true, true, true, true, true, true, true, true, false, false, false] rfl rfl (by kernel_rfl) (fun _ _ _ h => h) (Or.inl ⟨by rfl, ?_⟩) ?_ ?_
   rotate_left
   ·intro w'
    go_simp
    with_reducible rfl
   rotate_left
   ·go_simp
    rfl
   refine pure_ (i := 14) (N := some 5) (v := ?_) (a' := ?_) #[true, true, true, true, true, true, true, true, true, true, true, true, true, true, true, false, false] rfl rfl (by kernel_rfl) (fun _ _ _ h => h) (Or.inl ⟨by rfl, ?_⟩) ?_ ?_
   rotate_left
   ·intro w'
    go_simp
    with_reducible rfl
   rotate_left
   ·go_simp
    rfl
   refine pure_ (i := 15) (N := some 6) (v := ?_) (a' := ?_) #[true, true, true, true, true, true, true, true, true, true, true, true, true, true, true, true, false] rfl rfl (by kernel_rfl) (fun _ _ _ h => h) (Or.inl ⟨by rfl, ?_⟩) ?_ ?_
   rotate_left
   ·intro w'
    go_simp
    with_reducible rfl
   rotate_left
   ·go_simp
    rfl
   refine pure_ (i := 16) (N := some 7) (v := ?_) (a' := ?_) #[true, true, true, true, true, true, true, true, true, true, true, true, true, true, true, true, true] rfl rfl (by kernel_rfl) (fun _ _ _ h => h) (Or.inl ⟨by rfl, ?_⟩) ?_ ?_
   rotate_left
   ·intro w'
    go_simp
    with_reducible rfl
   rotate_left
   ·go_simp
    rfl
   refine done_ (by kernel_rfl) ?_
   have HB_ := Aside0.mk (below_step HB.out HB1.out)
   have CB_ := Aside0.mk (blk_below CB.out HB1.out)
   have HK_ := Aside0.mk (Kept.below HK.out HB1.out)
   clear HB CB HK HB1 v0 v1 hHeld
   have HB := HB_
   have CB := CB_
   have HK := HK_
   clear HB_ CB_ HK_
   have v0 : w1.cell? ⟨g, 0, none⟩ = some (.slice A p.length c) := (blk_cell CB.out 0).trans rfl
   have v1 : w1.cell? ⟨g, 1, none⟩ = some (.int .i64 (a : Int)) := (blk_cell CB.out 1).trans rfl
   have v2 : w1.cell? ⟨g, 2, none⟩ = some (.bool false) := (blk_cell CB.out 2).trans rfl
   have f1 := blk_frozen CB.out 1
   have f2 := blk_frozen CB.out 2
   have had : wrap64 ((a : Int) + (n : Int)) = ((a : Int) + (n : Int)) := by have := HTN.out; have := HAL.out; unfold wrap64; omega
   go_upto_region 5 with (first
    | fail)
   have HB_ := Aside0.mk (below_set (j := 1) (v := .int .i64 ((a : Int) + (n : Int))) HB.out HG.out)
   have CB_ := Aside0.mk (blk_put (cs' := #[.slice A p.length c, .int .i64 ((a : Int) + (n : Int)), .bool false]) CB.out 1 (.int .i64 ((a : Int) + (n : Int))) rfl)
   have HK_ := Aside0.mk (Kept.setCell (p := ⟨g, 1, none⟩) HK.out (.inl rfl) (.int .i64 ((a : Int) + (n : Int))))
   clear HB CB HK v0 v1 v2 f1 f2
   generalize w1.setCell ⟨g, 1, none⟩ (.int .i64 ((a : Int) + (n : Int))) = W1 at *
   have HB := HB_
   have CB := CB_
   have HK := HK_
   clear HB_ CB_ HK_
   have v0 : W1.cell? ⟨g, 0, none⟩ = some (.slice A p.length c) := (blk_cell CB.out 0).trans rfl
   have v1 : W1.cell? ⟨g, 1, none⟩ = some (.int .i64 ((a : Int) + (n : Int))) := (blk_cell CB.out 1).trans rfl
   have v2 : W1.cell? ⟨g, 2, none⟩ = some (.bool false) := (blk_cell CB.out 2).trans rfl
   have f1 := blk_frozen CB.out 1
   have f2 := blk_frozen CB.out 2
   go_upto_region 6 with (first
    | fail)
   have HB_ := Aside0.mk (below_set (j := 2) (v := .bool true) HB.out HG.out)
   have CB_ := Aside0.mk (blk_put (cs' := #[.slice A p.length c, .int .i64 ((a : Int) + (n : Int)), .bool true]) CB.out 2 (.bool true) rfl)
   have HK_ := Aside0.mk (Kept.setCell (p := ⟨g, 2, none⟩) HK.out (.inl rfl) (.bool true))
   clear HB CB HK v0 v1 v2 f1 f2
   generalize W1.setCell ⟨g, 2, none⟩ (.bool true) = W2 at *
   have HB := HB_
   have CB := CB_
   have HK := HK_
   clear HB_ CB_ HK_
   have v0 : W2.cell? ⟨g, 0, none⟩ = some (.slice A p.length c) := (blk_cell CB.out 0).trans rfl
   have v1 : W2.cell? ⟨g, 1, none⟩ = some (.int .i64 ((a : Int) + (n : Int))) := (blk_cell CB.out 1).trans rfl
   have v2 : W2.cell? ⟨g, 2, none⟩ = some (.bool true) := (blk_cell CB.out 2).trans rfl
   have f1 := blk_frozen CB.out 1
   have f2 := blk_frozen CB.out 2
   go_wp2
   go_ret
   exact ⟨rfl, CB.out, HB.out, HK.out⟩
set_option maxHeartbeats 8000000 in
set_option maxRecDepth 100000 in
theorem reader_count.calls (wp w : World) (g : Nat) (A : Option Addr) (c : Nat) (p : List Int) (a : Nat) (bad : Bool) (most : Int) (hm : 0 ≤ most ∧ most ≤ 1099511627776) (hB : Below wp.heap.size wp w) (hg : wp.heap.size ≤ g) (hcell : w.heap[g]? = some (.cells #[.slice A p.length c, .int .i64 (a : Int), .bool bad] 75 (0, 0))) (hC : Kd.C (Kd.int .u8) wp A p.length p) (hc : p.length ≤ c) (hb : ByteL p) (hl : p.length ≤ 16777216) (ha : a ≤ p.length) :
  Calls Tryd.prog 36 #[.pointer (some ⟨g, 0, none⟩), .int .i64 most] w fun e w' => e = .returned (.int .i64 (stepR p a bad most).1) ∧ w'.heap[g]? = some (.cells #[.slice A p.length c, .int .i64 ((stepR p a bad most).2.1 : Int), .bool (stepR p a bad most).2.2] 75 (0, 0)) ∧ Below wp.heap.size wp w' ∧ Kept w w' (fun k => k = g) := by
 have HN := Aside0.mk (reader_number.calls wp w g A c p a bad most hm hB hg hcell hC hc hb hl ha)
 have HV := Aside0.mk (stepR_val hb a bad most hm)
 have HMO := Aside0.mk hm
 have hwm : IntKind.u64.wrap most = most := by rw [wrapU64]; omega
 have hwm2 : most % 18446744073709551616 = most := by omega
 clear hm hB hg hcell hC hc hb hl ha
 obtain ⟨sv, hsv⟩ : ∃ sv, sv = (stepR p a bad most).1 := ⟨_, rfl⟩
 rw [← hsv] at HN HV ⊢
 have hws : wrap64 sv = sv := by have := HV.out; have := HMO.out; unfold wrap64; omega
 clear hsv
 go_enter Tryd.func36, Tryd.ntmps36
 go_wp2_with (go_at_call 61; (with_reducible refine HN.out.mono ?_); rintro e_ w1 ⟨rfl, h1, h2, h3⟩; have H1 := Aside0.mk h1; have H2 := Aside0.mk h2; have H3 := Aside0.mk h3; clear h1 h2 h3)
 go_ret
 exact ⟨by first | rfl | (rw [hws]; rfl), H1.out, H2.out, H3.out⟩
theorem stepR_eq {p : List Int} (hb : ByteL p) {a : Nat} (ha : a ≤ p.length) : (stepT (p.drop a) false).1 = (stepR p a false 1099511627776).1 ∧ (stepT (p.drop a) false).2.2 = (stepR p a false 1099511627776).2.2 ∧ ((stepR p a false 1099511627776).2.2 = false → (stepT (p.drop a) false).2.1 = p.drop (stepR p a false 1099511627776).2.1) := by
 unfold stepT stepR
 rw [if_neg Bool.false_ne_true]
 by_cases h : (takeN (p.drop a)).2.2 ≠ 0 ∨ 1099511627776 < (takeN (p.drop a)).1
 ·rw [if_pos h, if_pos h]
  exact ⟨rfl, rfl, fun h => by cases h⟩
 ·rw [if_neg h, if_neg h]
  exact ⟨rfl, rfl, fun _ => by show (p.drop a).drop _ = p.drop (a + _); rw [List.drop_drop]⟩
def rd4 (p : List Int) (a : Nat) (b : Bool) : Nat → Nat × Bool
 | 0 => (a, b)
 | j + 1 => (stepR p (rd4 p a b j).1 (rd4 p a b j).2 1099511627776).2
def rfl4 (p : List Int) (a : Nat) (b : Bool) (j : Nat) : Int := (stepR p (rd4 p a b j).1 (rd4 p a b j).2 1099511627776).1
def rref4 (p : List Int) (a : Nat) (b : Bool) : S63 := ⟨rfl4 p a b 0, rfl4 p a b 1, rfl4 p a b 2, rfl4 p a b 3⟩
def loopR (p : List Int) : Nat → Nat → Bool → List S63 × Nat × Bool
 | 0, a, b => ([], a, b)
 | n + 1, a, b => if b = true then ([], a, b) else (rref4 p a b :: (loopR p n (rd4 p a b 4).1 (rd4 p a b 4).2).1, (loopR p n (rd4 p a b 4).1 (rd4 p a b 4).2).2)
def takeR (p : List Int) : List S63 × Int × Int × Int :=
 let h := stepR p 0 false 64
 let L := loopR p h.1.toNat h.2.1 h.2.2
 let nx := stepR p L.2.1 L.2.2 1099511627776
 let sq := stepR p nx.2.1 nx.2.2 1099511627776
 if sq.2.2 = true ∨ sq.2.1 ≠ p.length ∨ ¬ FormedC L.1 nx.1 sq.1 then ([], 0, 0, 13) else (L.1, nx.1, sq.1, 0)
theorem stepR_bad (p : List Int) (a : Nat) (m : Int) : stepR p a true m = (0, a, true) := by unfold stepR; rw [if_pos rfl]
theorem stepT_bad (l : List Int) : (stepT l true).2.2 = true := by
 unfold stepT
 by_cases h : (takeN l).2.2 ≠ 0 ∨ 1099511627776 < (takeN l).1
 ·rw [if_pos h]
 ·rw [if_neg h]
theorem rd4_at {p : List Int} (hb : ByteL p) {a : Nat} (ha : a ≤ p.length) (b : Bool) : ∀ j, (rd4 p a b j).1 ≤ p.length
 | 0 => ha
 | j + 1 => (stepR_at hb (rd4_at hb ha b j) (rd4 p a b j).2 1099511627776).1
theorem rd4_bad (p : List Int) (a : Nat) (b : Bool) (j : Nat) (h : (rd4 p a b j).2 = true) : (rd4 p a b (j + 1)).2 = true := by
 show (stepR p (rd4 p a b j).1 (rd4 p a b j).2 1099511627776).2.2 = true
 rw [h, stepR_bad]
theorem take4_bad (l : List Int) (b : Bool) (j : Nat) (h : (take4 l b j).2 = true) : (take4 l b (j + 1)).2 = true := by
 show (stepT (take4 l b j).1 (take4 l b j).2).2.2 = true
 rw [h, stepT_bad]
theorem four_eq {p : List Int} (hb : ByteL p) {a : Nat} (ha : a ≤ p.length) : ∀ j, (take4 (p.drop a) false j).2 = (rd4 p a false j).2 ∧ ((rd4 p a false j).2 = false → (take4 (p.drop a) false j).1 = p.drop (rd4 p a false j).1)
 | 0 => ⟨rfl, fun _ => rfl⟩
 | j + 1 => by
  obtain ⟨h1, h2⟩ := four_eq hb ha j
  cases hbd : (rd4 p a false j).2 with
  | true =>
   have e1 := rd4_bad p a false j hbd
   have e2 := take4_bad (p.drop a) false j (by rw [h1, hbd])
   exact ⟨by rw [e1, e2], fun h => by rw [e1] at h; cases h⟩
  | false =>
   have h3 := stepR_eq hb (rd4_at hb ha false j)
   have e1 : take4 (p.drop a) false (j + 1) = (stepT (p.drop (rd4 p a false j).1) false).2 := by show (stepT (take4 (p.drop a) false j).1 (take4 (p.drop a) false j).2).2 = _; rw [h2 hbd, h1, hbd]
   have e2 : rd4 p a false (j + 1) = (stepR p (rd4 p a false j).1 false 1099511627776).2 := by show (stepR p (rd4 p a false j).1 (rd4 p a false j).2 1099511627776).2 = _; rw [hbd]
   rw [e1, e2]
   exact ⟨h3.2.1, h3.2.2⟩
theorem fld_eq {p : List Int} (hb : ByteL p) {a : Nat} (ha : a ≤ p.length) (j : Nat) (h : (rd4 p a false (j + 1)).2 = false) : fld4 (p.drop a) false j = rfl4 p a false j := by
 obtain ⟨h1, h2⟩ := four_eq hb ha j
 have hbd : (rd4 p a false j).2 = false := by
  cases hc : (rd4 p a false j).2 with
  | true => rw [rd4_bad p a false j hc] at h; cases h
  | false => rfl
 unfold fld4 rfl4
 rw [h2 hbd, h1, hbd]
 exact (stepR_eq hb (rd4_at hb ha false j)).1
theorem rd4_ok (p : List Int) (a : Nat) (b : Bool) (j : Nat) (h : (rd4 p a b (j + 1)).2 = false) : (rd4 p a b j).2 = false := by
 cases hc : (rd4 p a b j).2 with
 | true => rw [rd4_bad p a b j hc] at h; cases h
 | false => rfl
theorem ref_eq {p : List Int} (hb : ByteL p) {a : Nat} (ha : a ≤ p.length) (h : (rd4 p a false 4).2 = false) : ref4 (p.drop a) false = rref4 p a false := by
 have h3 := rd4_ok p a false 3 h
 have h2 := rd4_ok p a false 2 h3
 have h1 := rd4_ok p a false 1 h2
 unfold ref4 rref4
 rw [fld_eq hb ha 0 h1, fld_eq hb ha 1 h2, fld_eq hb ha 2 h3, fld_eq hb ha 3 h]
theorem loopR_bad (p : List Int) (m : Nat) (a : Nat) : loopR p m a true = ([], a, true) := by
 cases m with
 | zero => rfl
 | succ n => unfold loopR; rw [if_pos rfl]
theorem loopR_at {p : List Int} (hb : ByteL p) : ∀ (n a : Nat) (b : Bool), a ≤ p.length → (loopR p n a b).2.1 ≤ p.length
 | 0, _, _, ha => ha
 | n + 1, a, b, ha => by
  unfold loopR
  by_cases h : b = true
  ·rw [if_pos h]
   exact ha
  ·rw [if_neg h]
   exact loopR_at hb n _ _ (rd4_at hb ha b 4)
theorem loop_eq {p : List Int} (hb : ByteL p) : ∀ (n a : Nat), a ≤ p.length → (loopT n (p.drop a) false).2.2 = (loopR p n a false).2.2 ∧ ((loopR p n a false).2.2 = false → (loopT n (p.drop a) false).1 = (loopR p n a false).1 ∧ (loopT n (p.drop a) false).2.1 = p.drop (loopR p n a false).2.1 ∧ (loopT n (p.drop a) false).1.length = n)
 | 0, a, _ => ⟨rfl, fun _ => ⟨rfl, rfl, rfl⟩⟩
 | n + 1, a, ha => by
  obtain ⟨h1, h2⟩ := four_eq hb ha 4
  have e1 : loopT (n + 1) (p.drop a) false = (ref4 (p.drop a) false :: (loopT n (take4 (p.drop a) false 4).1 (take4 (p.drop a) false 4).2).1, (loopT n (take4 (p.drop a) false 4).1 (take4 (p.drop a) false 4).2).2) := rfl
  have e2 : loopR p (n + 1) a false = (rref4 p a false :: (loopR p n (rd4 p a false 4).1 (rd4 p a false 4).2).1, (loopR p n (rd4 p a false 4).1 (rd4 p a false 4).2).2) := rfl
  rw [e1, e2]
  cases hbd : (rd4 p a false 4).2 with
  | true =>
   rw [h1, hbd, loop_bad, loopR_bad]
   exact ⟨rfl, fun h => by cases h⟩
  | false =>
   rw [h1, hbd, h2 hbd]
   obtain ⟨h3, h4⟩ := loop_eq hb n (rd4 p a false 4).1 (rd4_at hb ha false 4)
   refine ⟨h3, fun h => ?_⟩
   obtain ⟨h5, h6, h7⟩ := h4 h
   refine ⟨?_, h6, ?_⟩
   ·show ref4 _ _ :: _ = rref4 _ _ _ :: _
    rw [h5, ref_eq hb ha hbd]
   ·show (_ :: _).length = n + 1
    rw [List.length_cons, h7]
structure RX (wp W : World) (g6 g7 : Nat) (A : Option Addr) (c : Nat) (p : List Int) (a : Nat) (bad : Bool) (v : Value) (nx sq : Int) (acc : List S63) (ok : Nat → Prop) : Prop where
 B : Below wp.heap.size wp W
 c6 : W.heap[g6]? = some (.cells #[.slice A p.length c, .int .i64 (a : Int), .bool bad] 75 (0, 0))
 hC : Kd.C (Kd.int .u8) wp A p.length p
 hc : p.length ≤ c
 hb : ByteL p
 hl : p.length ≤ 16777216
 ha : a ≤ p.length
 c7 : W.heap[g7]? = some (.cells #[v, .int .i64 nx, .int .i64 sq] 27 (0, 0))
 hR : Kd.R k63 63 W wp.heap.size (fun k => (k ≠ g6 ∧ k ≠ g7) ∧ ok k) v acc
 o6 : wp.heap.size ≤ g6
 o7 : g6 < g7
section
variable {wp W W' : World} {g6 g7 g9 : Nat} {A : Option Addr} {c : Nat} {p : List Int} {a : Nat} {bad : Bool} {v : Value} {nx sq : Int} {acc : List S63} {ok : Nat → Prop} {most : Int}
theorem RX.vis (h : RX wp W g6 g7 A c p a bad v nx sq acc ok) : W.cell? ⟨g6, 2, none⟩ = some (.bool bad) ∧ W.cell? ⟨g7, 0, none⟩ = some v ∧ W.cell? ⟨g7, 1, none⟩ = some (.int .i64 nx) ∧ W.cell? ⟨g7, 2, none⟩ = some (.int .i64 sq) ∧ W.frozen? ⟨g7, 0, none⟩ = false ∧ W.frozen? ⟨g7, 1, none⟩ = false ∧ W.frozen? ⟨g7, 2, none⟩ = false :=
 ⟨(blk_cell h.c6 2).trans rfl, (blk_cell h.c7 0).trans rfl, (blk_cell h.c7 1).trans rfl, (blk_cell h.c7 2).trans rfl, blk_frozen h.c7 0, blk_frozen h.c7 1, blk_frozen h.c7 2⟩
theorem RX.take (h : RX wp W g6 g7 A c p a bad v nx sq acc ok) (h6 : W'.heap[g6]? = some (.cells #[.slice A p.length c, .int .i64 ((stepR p a bad most).2.1 : Int), .bool (stepR p a bad most).2.2] 75 (0, 0))) (hB : Below wp.heap.size wp W') (hk : Kept W W' (fun k => k = g6)) :
  RX wp W' g6 g7 A c p (stepR p a bad most).2.1 (stepR p a bad most).2.2 v nx sq acc ok := by
 have o7 := h.o7
 exact ⟨hB, h6, h.hC, h.hc, h.hb, h.hl, (stepR_at h.hb h.ha bad most).1, blk_kept h.c7 hk (fun e => by omega), Kd.R_kept h.hR hk (fun k hk2 e => hk2.1.1 e), h.o6, o7⟩
theorem RX.new (h : RX wp W g6 g7 A c p a bad v nx sq acc ok) (hb : Below W.heap.size W W') (hg : g9 = W.heap.size) : RX wp W' g6 g7 A c p a bad v nx sq acc (fun k => k ≠ g9) :=
 ⟨below_step h.B hb, blk_below h.c6 hb, h.hC, h.hc, h.hb, h.hl, h.ha, blk_below h.c7 hb, Kd.R_below (Kd.R_mono (Kd.R_bound h.hR) (fun k hk => ⟨hk.1.1, by have := hk.2.2.1; omega⟩)) hb, h.o6, h.o7⟩
theorem RX.lt7 (h : RX wp W g6 g7 A c p a bad v nx sq acc ok) : g7 < W.heap.size := blk_lt h.c7
theorem RX.far (h : RX wp W g6 g7 A c p a bad v nx sq acc (fun k => k ≠ g9)) (hg : g7 < g9) (j : Nat) (u : Value) : RX wp (W.setCell ⟨g9, j, none⟩ u) g6 g7 A c p a bad v nx sq acc (fun k => k ≠ g9) := by
 have o6 := h.o6
 have o7 := h.o7
 exact ⟨below_set h.B (by omega), blk_far h.c6 (show g6 ≠ g9 by omega) u, h.hC, h.hc, h.hb, h.hl, h.ha, blk_far h.c7 (show g7 ≠ g9 by omega) u, Kd.R_far h.hR (fun k hk => hk.2) u, o6, o7⟩
theorem RX.any (h : RX wp W g6 g7 A c p a bad v nx sq acc ok) : RX wp W g6 g7 A c p a bad v nx sq acc (fun _ => True) := ⟨h.B, h.c6, h.hC, h.hc, h.hb, h.hl, h.ha, h.c7, Kd.R_mono h.hR (fun k hk => ⟨hk.1, trivial⟩), h.o6, h.o7⟩
theorem RX.put (h : RX wp W g6 g7 A c p a bad v nx sq acc ok) (j : Nat) (u : Value) (nx' sq' : Int) (hs : (#[v, .int .i64 nx, .int .i64 sq] : Array Value).setIfInBounds j u = #[v, .int .i64 nx', .int .i64 sq']) : RX wp (W.setCell ⟨g7, j, none⟩ u) g6 g7 A c p a bad v nx' sq' acc ok := by
 have o6 := h.o6
 have o7 := h.o7
 exact ⟨below_set h.B (by omega), blk_far h.c6 (show g6 ≠ g7 by omega) u, h.hC, h.hc, h.hb, h.hl, h.ha, blk_put h.c7 j u hs, Kd.R_far h.hR (fun k hk => hk.1.2) u, o6, o7⟩
theorem RX.grown (h : RX wp W g6 g7 A c p a bad v nx sq acc ok) (hB : Below wp.heap.size wp W') (hg : W.grownBy W' none) : RX wp W' g6 g7 A c p a bad v nx sq acc ok :=
 ⟨hB, blk_grown h.c6 hg (fun e => by cases e), h.hC, h.hc, h.hb, h.hl, h.ha, blk_grown h.c7 hg (fun e => by cases e), Kd.R_grown h.hR hg (fun k _ e => by cases e), h.o6, h.o7⟩
theorem RX.row (h : RX wp W g6 g7 A c p a bad v nx sq acc ok) {v1 : Value} {acc1 : List S63} (hB : Below wp.heap.size wp W') (hg : W.grownBy W' v.ownBlock) (hR : Kd.R k63 63 W' wp.heap.size (fun k => (k ≠ g6 ∧ k ≠ g7) ∧ True) v1 acc1) : RX wp (W'.setCell ⟨g7, 0, none⟩ v1) g6 g7 A c p a bad v1 nx sq acc1 (fun _ => True) := by
 have o6 := h.o6
 have o7 := h.o7
 have h6 := blk_grown h.c6 hg (fun e => (h.hR.1 g6 e.symm).1.1 rfl)
 have h7 := blk_grown h.c7 hg (fun e => (h.hR.1 g7 e.symm).1.2 rfl)
 exact ⟨below_set hB (by omega), blk_far h6 (show g6 ≠ g7 by omega) v1, h.hC, h.hc, h.hb, h.hl, h.ha, blk_put h7 0 v1 rfl, Kd.R_far hR (fun k hk => hk.1.2) v1, o6, o7⟩
end
set_option maxHeartbeats 8000000 in
set_option maxRecDepth 100000 in
theorem reader_done.calls (w : World) (g : Nat) (A : Option Addr) (c : Nat) (p : List Int) (a : Nat) (bad r : Bool) (hr : r = (!bad && decide (a = p.length))) (hcell : w.heap[g]? = some (.cells #[.slice A p.length c, .int .i64 (a : Int), .bool bad] 75 (0, 0))) :
  Calls Tryd.prog 37 #[.pointer (some ⟨g, 0, none⟩)] w fun e w' => e = .returned (.bool r) ∧ Below w.heap.size w w' := by
 have HB := Aside0.mk (Below.refl w.heap.size w)
 have v0 : w.cell? ⟨g, 0, none⟩ = some (.slice A p.length c) := (blk_cell hcell 0).trans rfl
 have v1 : w.cell? ⟨g, 1, none⟩ = some (.int .i64 (a : Int)) := (blk_cell hcell 1).trans rfl
 have v2 : w.cell? ⟨g, 2, none⟩ = some (.bool bad) := (blk_cell hcell 2).trans rfl
 clear hcell
 have hu75 := Tryd.underlying75
 have hu22 := Tryd.underlying22
 cases bad with
 | true =>
  obtain rfl : r = false := hr
  go_enter Tryd.func37, Tryd.ntmps37
  go_upto_region 1 with (first
   | fail)
  go_quiet (fail)
  have HB7 := Aside0.mk (pw_below_drewN HB.out nq)
  go_wp2
  go_ret
  exact ⟨rfl, HB7.out⟩
 | false =>
  by_cases ha : a = p.length
  ·subst ha
   obtain rfl : r = true := hr.trans (by simp)
   clear hr
   go_enter Tryd.func37, Tryd.ntmps37
   go_upto_region 1 with (first
    | fail)
   go_quiet (fail)
   have HB7 := Aside0.mk (pw_below_drewN HB.out nq)
   go_wp2
   go_ret
   exact ⟨by simp, HB7.out⟩
  ·obtain rfl : r = false := hr.trans (by rw [decide_eq_false ha]; rfl)
   have e2 : ((a : Int) = (p.length : Int)) = False := eq_false (by omega)
   have e3 : (a = p.length) = False := eq_false ha
   clear ha
   clear hr
   go_enter Tryd.func37, Tryd.ntmps37
   go_upto_region 1 with (first
    | fail)
   go_quiet (fail)
   have HB7 := Aside0.mk (pw_below_drewN HB.out nq)
   go_wp2
   go_ret
   exact ⟨by simp [e2, e3], HB7.out⟩
def dragnetref18_Take.f (l0 : List Int) : Option (List S63 × Int × Int × Int) := (dragnetref01_Unwrap.f (10 * l0.length + 60) l0).bind fun q => if q.2 = 0 then (if ByteL q.1 ∧ q.1.length ≤ 16777216 then some (takeR q.1) else none) else some ([], 0, 0, 13)
set_option maxHeartbeats 8000000 in
set_option maxRecDepth 100000 in
theorem dragnetref18_Take.calls (A0 : Option Addr) (c0 : Nat) (l0 : List Int) (r1 : List S63) (r2 : Int) (r3 : Int) (r4 : Int) (w : World) (hr0 : Kd.C (Kd.int .u8) w A0 l0.length l0) (hc0 : l0.length ≤ c0) (hG : GT w) (h : dragnetref18_Take.f l0 = some (r1, r2, r3, r4)) :
  Calls Tryd.prog 12 #[.slice A0 l0.length c0] w fun e w' => ∃ v1_ : Value, e = .returned (.tuple #[.agg #[v1_, .int .i64 r2, .int .i64 r3], .int .i64 r4]) ∧ Kd.R k63 63 w' w.heap.size (fun _ => True) v1_ r1 ∧ Below w.heap.size w w' := by
 unfold dragnetref18_Take.f at h
 obtain ⟨⟨p, e⟩, hu, h⟩ := Option.bind_eq_some_iff.1 h
 have HR := Aside0.mk hr0
 have HC := Aside0.mk hc0
 have HU := Aside0.mk hu
 have HB := Aside0.mk (Below.refl w.heap.size w)
 clear hr0 hc0 hu
 have hu27 := Tryd.underlying27
 have hu63 := Tryd.underlying63
 have hu75 := Tryd.underlying75
 have hu25 := Tryd.underlying25
 by_cases he : e = 0
 ·have he2 : ((p, e) : List Int × Int).2 = 0 := he
  rw [if_pos he2] at h
  subst he
  by_cases hp : ByteL p ∧ p.length ≤ 16777216
  case neg => rw [if_neg hp] at h; cases h
  rw [if_pos hp] at h
  have HPB := Aside0.mk hp
  have HH := Aside0.mk (Option.some.inj h)
  have hsv := stepR_val hp.1 0 false 64 (by decide)
  obtain ⟨m0, hm0⟩ : ∃ m0 : Nat, (stepR p 0 false 64).1 = (m0 : Int) := ⟨(stepR p 0 false 64).1.toNat, by omega⟩
  have HM0 := Aside0.mk hm0
  have HM4 := Aside0.mk (show m0 ≤ 64 by omega)
  clear h he2 hp hsv
  go_enter Tryd.func12, Tryd.ntmps12
  go_upto_region 6 with (first
   | ((with_reducible refine gate_dst (N := 2) rfl ?_); refine box_event ?hg (N := 2) ?hd (cs := #[.slice none 0 0, .int .i64 0, .int .i64 0]) (t := 27) ?hr ?_; (case hd => rfl); (case hg => rfl); (case hr => first | (go_simp; done) | (go_simp; rfl)); intro g2 hg2 w1 hbox hb; have CB2 := Aside0.mk hbox; have G2 := Aside0.mk (show w.heap.size ≤ g2 by rw [hg2]; exact below_size HB.out); have HB_ := Aside0.mk (below_step HB.out hb); clear HB hb hbox hg2; have HB := HB_; clear HB_; have v20 : w1.cell? ⟨g2, 0, none⟩ = some (.slice none 0 0) := (blk_cell CB2.out 0).trans rfl; have v21 : w1.cell? ⟨g2, 1, none⟩ = some (.int .i64 0) := (blk_cell CB2.out 1).trans rfl; have v22 : w1.cell? ⟨g2, 2, none⟩ = some (.int .i64 0) := (blk_cell CB2.out 2).trans rfl; have f20 := blk_frozen CB2.out 0; have f21 := blk_frozen CB2.out 1; have f22 := blk_frozen CB2.out 2)
   | (go_at_call 35; (with_reducible refine (dragnetref01_Unwrap.calls (10 * l0.length + 60) A0 c0 l0 p 0 _ (Kd.C_below HR.out HB.out) HC.out HU.out).mono ?_); rintro e_ w2 ⟨v2, rfl, hR, hb⟩; obtain ⟨Ap, cp, rfl⟩ := Kd.R_slice hR; have HP := Aside0.mk (Kd.R_reads' hR); have HB_ := Aside0.mk (below_step HB.out hb); have CB2_ := Aside0.mk (blk_below CB2.out hb); clear HB CB2 hR hb v20 v21 v22 f20 f21 f22; have HB := HB_; have CB2 := CB2_; clear HB_ CB2_; have v20 : w2.cell? ⟨g2, 0, none⟩ = some (.slice none 0 0) := (blk_cell CB2.out 0).trans rfl; have v21 : w2.cell? ⟨g2, 1, none⟩ = some (.int .i64 0) := (blk_cell CB2.out 1).trans rfl; have v22 : w2.cell? ⟨g2, 2, none⟩ = some (.int .i64 0) := (blk_cell CB2.out 2).trans rfl; have f20 := blk_frozen CB2.out 0; have f21 := blk_frozen CB2.out 1; have f22 := blk_frozen CB2.out 2)
   | ((with_reducible refine gate_dst (N := 20) rfl ?_); refine box_event ?hg (N := 20) ?hd (cs := #[.slice Ap p.length cp, .int .i64 0, .bool false]) (t := 75) ?hr ?_; (case hd => rfl); (case hg => rfl); (case hr => first | (go_simp; done) | (go_simp; rfl)); intro g6 hg6 w3 hbox hb; have CB6 := Aside0.mk hbox; have G6 := Aside0.mk (show w2.heap.size ≤ g6 by rw [hg6]; exact Nat.le_refl _); have HB3 := Aside0.mk hb; clear hb hbox hg6)
   | ((with_reducible refine gate_dst (N := 7) rfl ?_); refine box_event ?hg (N := 7) ?hd (cs := #[.slice none 0 0, .int .i64 0, .int .i64 0]) (t := 27) ?hr ?_; (case hd => rfl); (case hg => rfl); (case hr => first | (go_simp; done) | (go_simp; rfl)); intro g7 hg7 w4 hbox hb; have HX := Aside0.mk (RX.mk (wp := w2) (p := p) (a := 0) (bad := false) (v := .slice none 0 0) (nx := 0) (sq := 0) (acc := []) (ok := fun _ => True) (below_step HB3.out hb) (blk_below CB6.out hb) HP.out.2.2 HP.out.2.1 HPB.out.1 HPB.out.2 (Nat.zero_le _) hbox (Kd.R_nil _ _ _ _ _) G6.out (by rw [hg7]; exact blk_lt CB6.out)); clear HB3 CB6 hb hbox hg7 v20 v21 v22 f20 f21 f22; obtain ⟨v62, v70, v71, v72, f70, f71, f72⟩ := HX.out.vis))
  have HX_ := Aside0.mk (HX.out.put 0 (.slice none 0 0) 0 0 rfl)
  clear HX v62 v70 v71 v72 f70 f71 f72
  generalize w4.setCell ⟨g7, 0, none⟩ (.slice none 0 0) = L1 at *
  have HX := HX_
  clear HX_
  obtain ⟨v62, v70, v71, v72, f70, f71, f72⟩ := HX.out.vis
  have HX_ := Aside0.mk (HX.out.put 1 (.int .i64 0) 0 0 rfl)
  clear HX v62 v70 v71 v72 f70 f71 f72
  generalize L1.setCell ⟨g7, 1, none⟩ (.int .i64 0) = L2 at *
  have HX := HX_
  clear HX_
  obtain ⟨v62, v70, v71, v72, f70, f71, f72⟩ := HX.out.vis
  have HX_ := Aside0.mk (HX.out.put 2 (.int .i64 0) 0 0 rfl)
  clear HX v62 v70 v71 v72 f70 f71 f72
  generalize L2.setCell ⟨g7, 2, none⟩ (.int .i64 0) = L3 at *
  have HX := HX_
  clear HX_
  obtain ⟨v62, v70, v71, v72, f70, f71, f72⟩ := HX.out.vis
  go_wp2_with (first
   | (go_at_call 36; ((with_reducible refine (reader_count.calls w2 _ g6 Ap cp p 0 false 64 (by decide) HX.out.B HX.out.o6 HX.out.c6 HX.out.hC HX.out.hc HX.out.hb HX.out.hl HX.out.ha).mono ?_); rintro e_ w5 ⟨rfl, h6, hB6, hk6⟩; have HX_ := Aside0.mk (HX.out.take h6 hB6 hk6); clear HX h6 hB6 hk6 v62 v70 v71 v72 f70 f71 f72; have HX := HX_; clear HX_; obtain ⟨s, hs_⟩ : ∃ x, x = (stepR p 0 false 64).1 := ⟨_, rfl⟩; obtain ⟨a0, ha_⟩ : ∃ x, x = (stepR p 0 false 64).2.1 := ⟨_, rfl⟩; obtain ⟨b0, hb_⟩ : ∃ x, x = (stepR p 0 false 64).2.2 := ⟨_, rfl⟩; rw [← hs_]; rw [← ha_, ← hb_] at HX; have Ks := Aside0.mk hs_; have Ka0 := Aside0.mk ha_; have Kb0 := Aside0.mk hb_; clear hs_ ha_ hb_; obtain ⟨v62, v70, v71, v72, f70, f71, f72⟩ := HX.out.vis)))
  have HG2L := Aside0.mk (blk_lt CB2.out)
  obtain rfl : s = (m0 : Int) := Ks.out.trans hm0
  clear hm0 G6 Ks
  go_loopw [8] (fun v8 w' => ∃ (m a : Nat) (bad : Bool) (v : Value) (acc : List S63), v8 = .int .i64 m ∧ Aside0 (RX w2 w' g6 g7 Ap cp p a bad v 0 0 acc (fun _ => True)) ∧ Aside0 (loopR p m0 (stepR p 0 false 64).2.1 (stepR p 0 false 64).2.2 = (acc ++ (loopR p m a bad).1, (loopR p m a bad).2)) ∧ Aside0 (acc.length + m ≤ 64)) (fun v8 _ => (intOf v8).toNat)
  case atStart => exact ⟨m0, a0, b0, _, [], rfl, HX, ⟨by rw [← Ka0.out, ← Kb0.out]; rfl⟩, ⟨by rw [List.length_nil]; have := HM4.out; omega⟩⟩
  case round =>
   clear HX v62 v70 v71 v72 f70 f71 f72
   obtain ⟨m, a, bad, v, acc, rfl, HX, HLP, HAC⟩ := hrel
   obtain ⟨v62, v70, v71, v72, f70, f71, f72⟩ := HX.out.vis
   rcases m with _ | n
   ·have HLQ := Aside0.mk (show loopR p m0 (stepR p 0 false 64).2.1 (stepR p 0 false 64).2.2 = (acc, a, bad) by rw [HLP.out]; show (acc ++ [], a, bad) = _; rw [List.append_nil])
    clear HLP
    have CB2_ := Aside0.mk (blk_below CB2.out HX.out.B)
    clear CB2
    have CB2 := CB2_
    clear CB2_
    go_upto_region 15 with (first
     | (go_at_call 36; ((with_reducible refine (reader_count.calls w2 _ g6 Ap cp p a bad 1099511627776 (by decide) HX.out.B HX.out.o6 HX.out.c6 HX.out.hC HX.out.hc HX.out.hb HX.out.hl HX.out.ha).mono ?_); rintro e_ w6 ⟨rfl, h6, hB6, hk6⟩; have HX_ := Aside0.mk (HX.out.take h6 hB6 hk6); have CB2_ := Aside0.mk (blk_kept CB2.out hk6 (fun e => by have := HX.out.o6; have := HG2L.out; omega)); clear CB2; have CB2 := CB2_; clear CB2_; clear HX h6 hB6 hk6 v62 v70 v71 v72 f70 f71 f72; have HX := HX_; clear HX_; obtain ⟨nx, hs_⟩ : ∃ x, x = (stepR p a bad 1099511627776).1 := ⟨_, rfl⟩; obtain ⟨a6, ha_⟩ : ∃ x, x = (stepR p a bad 1099511627776).2.1 := ⟨_, rfl⟩; obtain ⟨b6, hb_⟩ : ∃ x, x = (stepR p a bad 1099511627776).2.2 := ⟨_, rfl⟩; rw [← hs_]; rw [← ha_, ← hb_] at HX; have Knx := Aside0.mk hs_; have Ka6 := Aside0.mk ha_; have Kb6 := Aside0.mk hb_; clear hs_ ha_ hb_; obtain ⟨v62, v70, v71, v72, f70, f71, f72⟩ := HX.out.vis)))
    have CB2_ := Aside0.mk (blk_far (p := ⟨g7, 1, none⟩) CB2.out (show g2 ≠ g7 by have := HX.out.o6; have := HX.out.o7; have := HG2L.out; omega) (.int .i64 nx))
    clear CB2
    have HX_ := Aside0.mk (HX.out.put 1 (.int .i64 nx) nx 0 rfl)
    clear HX v62 v70 v71 v72 f70 f71 f72
    generalize w6.setCell ⟨g7, 1, none⟩ (.int .i64 nx) = W6 at *
    have HX := HX_
    clear HX_
    obtain ⟨v62, v70, v71, v72, f70, f71, f72⟩ := HX.out.vis
    have CB2 := CB2_
    clear CB2_
    go_upto_region 16 with (first
     | (go_at_call 36; ((with_reducible refine (reader_count.calls w2 _ g6 Ap cp p a6 b6 1099511627776 (by decide) HX.out.B HX.out.o6 HX.out.c6 HX.out.hC HX.out.hc HX.out.hb HX.out.hl HX.out.ha).mono ?_); rintro e_ w7 ⟨rfl, h6, hB6, hk6⟩; have HX_ := Aside0.mk (HX.out.take h6 hB6 hk6); have CB2_ := Aside0.mk (blk_kept CB2.out hk6 (fun e => by have := HX.out.o6; have := HG2L.out; omega)); clear CB2; have CB2 := CB2_; clear CB2_; clear HX h6 hB6 hk6 v62 v70 v71 v72 f70 f71 f72; have HX := HX_; clear HX_; obtain ⟨sq, hs_⟩ : ∃ x, x = (stepR p a6 b6 1099511627776).1 := ⟨_, rfl⟩; obtain ⟨a7, ha_⟩ : ∃ x, x = (stepR p a6 b6 1099511627776).2.1 := ⟨_, rfl⟩; obtain ⟨b7, hb_⟩ : ∃ x, x = (stepR p a6 b6 1099511627776).2.2 := ⟨_, rfl⟩; rw [← hs_]; rw [← ha_, ← hb_] at HX; have Ksq := Aside0.mk hs_; have Ka7 := Aside0.mk ha_; have Kb7 := Aside0.mk hb_; clear hs_ ha_ hb_; obtain ⟨v62, v70, v71, v72, f70, f71, f72⟩ := HX.out.vis)))
    have CB2_ := Aside0.mk (blk_far (p := ⟨g7, 2, none⟩) CB2.out (show g2 ≠ g7 by have := HX.out.o6; have := HX.out.o7; have := HG2L.out; omega) (.int .i64 sq))
    clear CB2
    have HX_ := Aside0.mk (HX.out.put 2 (.int .i64 sq) nx sq rfl)
    clear HX v62 v70 v71 v72 f70 f71 f72
    generalize w7.setCell ⟨g7, 2, none⟩ (.int .i64 sq) = W7 at *
    have HX := HX_
    clear HX_
    obtain ⟨v62, v70, v71, v72, f70, f71, f72⟩ := HX.out.vis
    have CB2 := CB2_
    clear CB2_
    have HH2 := Aside0.mk (show (if b7 = true ∨ a7 ≠ p.length ∨ ¬ FormedC acc nx sq then (([], 0, 0, 13) : List S63 × Int × Int × Int) else (acc, nx, sq, 0)) = (r1, r2, r3, r4) by
     have h1 := HH.out
     unfold takeR at h1
     simp only [] at h1
     rw [HM0.out, Int.toNat_natCast, HLQ.out] at h1
     simp only [] at h1
     rw [← Knx.out, ← Ka6.out, ← Kb6.out, ← Ksq.out, ← Ka7.out, ← Kb7.out] at h1
     exact h1)
    obtain ⟨Av, cv, hv⟩ := Kd.R_slice HX.out.hR
    subst hv
    obtain ⟨dn, hdn⟩ : ∃ x, x = (!b7 && decide (a7 = p.length)) := ⟨_, rfl⟩
    have HDN := Aside0.mk hdn
    clear hdn
    have v20 : W7.cell? ⟨g2, 0, none⟩ = some (.slice none 0 0) := (blk_cell CB2.out 0).trans rfl
    have v21 : W7.cell? ⟨g2, 1, none⟩ = some (.int .i64 0) := (blk_cell CB2.out 1).trans rfl
    have v22 : W7.cell? ⟨g2, 2, none⟩ = some (.int .i64 0) := (blk_cell CB2.out 2).trans rfl
    have f20 := blk_frozen CB2.out 0
    have f21 := blk_frozen CB2.out 1
    have f22 := blk_frozen CB2.out 2
    cases dn with
    | false =>
     have hh := HH2.out
     rw [if_pos (by
      have := HDN.out
      cases hb7 : b7 with
      | true => exact .inl rfl
      | false =>
       rw [hb7] at this
       exact .inr (.inl (fun h => by rw [decide_eq_true h] at this; cases this)))] at hh
     simp only [Prod.mk.injEq] at hh
     obtain ⟨rfl, rfl, rfl, rfl⟩ := hh
     go_wp2_with (first
      | (go_at_call 37; (with_reducible refine (reader_done.calls _ g6 Ap cp p a7 b7 false HDN.out HX.out.c6).mono ?_); rintro e_ w8 ⟨rfl, hb⟩; have HX_ := Aside0.mk (HX.out.new hb rfl).any; have CB2_ := Aside0.mk (blk_below CB2.out hb); clear HX CB2 hb v62 v70 v71 v72 f70 f71 f72 v20 v21 v22 f20 f21 f22; have HX := HX_; have CB2 := CB2_; clear HX_ CB2_; obtain ⟨v62, v70, v71, v72, f70, f71, f72⟩ := HX.out.vis; have v20 : w8.cell? ⟨g2, 0, none⟩ = some (.slice none 0 0) := (blk_cell CB2.out 0).trans rfl; have v21 : w8.cell? ⟨g2, 1, none⟩ = some (.int .i64 0) := (blk_cell CB2.out 1).trans rfl; have v22 : w8.cell? ⟨g2, 2, none⟩ = some (.int .i64 0) := (blk_cell CB2.out 2).trans rfl; have f20 := blk_frozen CB2.out 0; have f21 := blk_frozen CB2.out 1; have f22 := blk_frozen CB2.out 2))
     refine bodyPost_ret (results_ct rfl _ _ g2 27 #[.slice none 0 0, .int .i64 0, .int .i64 0] (0, 0) _ rfl (blk_put (cs := #[.slice none 0 0, .int .i64 0, .int .i64 0]) (blk_put (cs := #[.slice none 0 0, .int .i64 0, .int .i64 0]) (blk_put (cs := #[.slice none 0 0, .int .i64 0, .int .i64 0]) CB2.out 0 _ rfl) 1 _ rfl) 2 _ rfl) Tryd.underlying27 rfl (by kernel_rfl)) rfl ?_
     exact ⟨_, rfl, Kd.R_nil _ _ _ _ _, below_set (below_set (below_set (below_step HB.out HX.out.B) G2.out) G2.out) G2.out⟩
    | true =>
     by_cases cf : FormedC acc nx sq
     ·have hh := HH2.out
      have hdn := HDN.out
      rw [if_neg (fun h => by
       rcases h with h | h | h
       ·rw [h] at hdn
        cases hdn
       ·rw [decide_eq_false h, Bool.and_false] at hdn
        cases hdn
       ·exact h cf)] at hh
      clear hdn
      simp only [Prod.mk.injEq] at hh
      obtain ⟨rfl, rfl, rfl, rfl⟩ := hh
      have HF := Aside0.mk (show dragnetref18_Formed.f acc nx sq = some true by unfold dragnetref18_Formed.f; rw [if_pos (by have := HAC.out; omega), decide_eq_true cf])
      clear cf
      go_wp2_with (first
       | (go_at_call 37; (with_reducible refine (reader_done.calls _ g6 Ap cp p a7 b7 true HDN.out HX.out.c6).mono ?_); rintro e_ w8 ⟨rfl, hb⟩; have HX_ := Aside0.mk (HX.out.new hb rfl).any; have CB2_ := Aside0.mk (blk_below CB2.out hb); clear HX CB2 hb v62 v70 v71 v72 f70 f71 f72 v20 v21 v22 f20 f21 f22; have HX := HX_; have CB2 := CB2_; clear HX_ CB2_; obtain ⟨v62, v70, v71, v72, f70, f71, f72⟩ := HX.out.vis; have v20 : w8.cell? ⟨g2, 0, none⟩ = some (.slice none 0 0) := (blk_cell CB2.out 0).trans rfl; have v21 : w8.cell? ⟨g2, 1, none⟩ = some (.int .i64 0) := (blk_cell CB2.out 1).trans rfl; have v22 : w8.cell? ⟨g2, 2, none⟩ = some (.int .i64 0) := (blk_cell CB2.out 2).trans rfl; have f20 := blk_frozen CB2.out 0; have f21 := blk_frozen CB2.out 1; have f22 := blk_frozen CB2.out 2)
       | (go_at_call 16; (with_reducible refine (dragnetref18_Formed.calls Av cv acc nx sq true _ (Kd.R_reads' HX.out.hR).2.2 (Kd.R_reads' HX.out.hR).2.1 HF.out).mono ?_); rintro e_ w9 ⟨rfl, hb⟩; have HX_ := Aside0.mk (HX.out.new hb rfl).any; have CB2_ := Aside0.mk (blk_below CB2.out hb); clear HX CB2 hb v62 v70 v71 v72 f70 f71 f72 v20 v21 v22 f20 f21 f22; have HX := HX_; have CB2 := CB2_; clear HX_ CB2_; obtain ⟨v62, v70, v71, v72, f70, f71, f72⟩ := HX.out.vis; have v20 : w9.cell? ⟨g2, 0, none⟩ = some (.slice none 0 0) := (blk_cell CB2.out 0).trans rfl; have v21 : w9.cell? ⟨g2, 1, none⟩ = some (.int .i64 0) := (blk_cell CB2.out 1).trans rfl; have v22 : w9.cell? ⟨g2, 2, none⟩ = some (.int .i64 0) := (blk_cell CB2.out 2).trans rfl; have f20 := blk_frozen CB2.out 0; have f21 := blk_frozen CB2.out 1; have f22 := blk_frozen CB2.out 2))
      refine bodyPost_ret (results_ct rfl _ _ g2 27 #[.slice Av acc.length cv, .int .i64 nx, .int .i64 sq] (0, 0) _ rfl (blk_put (cs := #[.slice Av acc.length cv, .int .i64 nx, .int .i64 0]) (blk_put (cs := #[.slice Av acc.length cv, .int .i64 0, .int .i64 0]) (blk_put (cs := #[.slice none 0 0, .int .i64 0, .int .i64 0]) CB2.out 0 _ rfl) 1 _ rfl) 2 _ rfl) Tryd.underlying27 rfl (by kernel_rfl)) rfl ?_
      have hRg : Kd.R k63 63 _ w2.heap.size (fun k => k ≠ g2) (.slice Av acc.length cv) acc := Kd.R_mono (Kd.R_bound HX.out.hR) (fun k hk => by have := hk.2.1; have := HG2L.out; omega)
      exact ⟨_, rfl, Kd.R_lower (Kd.R_mono (Kd.R_far (Kd.R_far (Kd.R_far hRg (fun k hk => hk) _) (fun k hk => hk) _) (fun k hk => hk) _) (fun _ _ => trivial)) (below_size HB.out), below_set (below_set (below_set (below_step HB.out HX.out.B) G2.out) G2.out) G2.out⟩
     ·have hh := HH2.out
      rw [if_pos (.inr (.inr cf))] at hh
      simp only [Prod.mk.injEq] at hh
      obtain ⟨rfl, rfl, rfl, rfl⟩ := hh
      have HF := Aside0.mk (show dragnetref18_Formed.f acc nx sq = some false by unfold dragnetref18_Formed.f; rw [if_pos (by have := HAC.out; omega), decide_eq_false cf])
      clear cf
      go_wp2_with (first
       | (go_at_call 37; (with_reducible refine (reader_done.calls _ g6 Ap cp p a7 b7 true HDN.out HX.out.c6).mono ?_); rintro e_ w8 ⟨rfl, hb⟩; have HX_ := Aside0.mk (HX.out.new hb rfl).any; have CB2_ := Aside0.mk (blk_below CB2.out hb); clear HX CB2 hb v62 v70 v71 v72 f70 f71 f72 v20 v21 v22 f20 f21 f22; have HX := HX_; have CB2 := CB2_; clear HX_ CB2_; obtain ⟨v62, v70, v71, v72, f70, f71, f72⟩ := HX.out.vis; have v20 : w8.cell? ⟨g2, 0, none⟩ = some (.slice none 0 0) := (blk_cell CB2.out 0).trans rfl; have v21 : w8.cell? ⟨g2, 1, none⟩ = some (.int .i64 0) := (blk_cell CB2.out 1).trans rfl; have v22 : w8.cell? ⟨g2, 2, none⟩ = some (.int .i64 0) := (blk_cell CB2.out 2).trans rfl; have f20 := blk_frozen CB2.out 0; have f21 := blk_frozen CB2.out 1; have f22 := blk_frozen CB2.out 2)
       | (go_at_call 16; (with_reducible refine (dragnetref18_Formed.calls Av cv acc nx sq false _ (Kd.R_reads' HX.out.hR).2.2 (Kd.R_reads' HX.out.hR).2.1 HF.out).mono ?_); rintro e_ w9 ⟨rfl, hb⟩; have HX_ := Aside0.mk (HX.out.new hb rfl).any; have CB2_ := Aside0.mk (blk_below CB2.out hb); clear HX CB2 hb v62 v70 v71 v72 f70 f71 f72 v20 v21 v22 f20 f21 f22; have HX := HX_; have CB2 := CB2_; clear HX_ CB2_; obtain ⟨v62, v70, v71, v72, f70, f71, f72⟩ := HX.out.vis; have v20 : w9.cell? ⟨g2, 0, none⟩ = some (.slice none 0 0) := (blk_cell CB2.out 0).trans rfl; have v21 : w9.cell? ⟨g2, 1, none⟩ = some (.int .i64 0) := (blk_cell CB2.out 1).trans rfl; have v22 : w9.cell? ⟨g2, 2, none⟩ = some (.int .i64 0) := (blk_cell CB2.out 2).trans rfl; have f20 := blk_frozen CB2.out 0; have f21 := blk_frozen CB2.out 1; have f22 := blk_frozen CB2.out 2))
      refine bodyPost_ret (results_ct rfl _ _ g2 27 #[.slice none 0 0, .int .i64 0, .int .i64 0] (0, 0) _ rfl (blk_put (cs := #[.slice none 0 0, .int .i64 0, .int .i64 0]) (blk_put (cs := #[.slice none 0 0, .int .i64 0, .int .i64 0]) (blk_put (cs := #[.slice none 0 0, .int .i64 0, .int .i64 0]) CB2.out 0 _ rfl) 1 _ rfl) 2 _ rfl) Tryd.underlying27 rfl (by kernel_rfl)) rfl ?_
      exact ⟨_, rfl, Kd.R_nil _ _ _ _ _, below_set (below_set (below_set (below_step HB.out HX.out.B) G2.out) G2.out) G2.out⟩
   ·cases bad with
    | true =>
     have hpos : decide ((0 : Int) < ((n + 1 : Nat) : Int)) = true := decide_eq_true (by omega)
     have HLQ := Aside0.mk (show loopR p m0 (stepR p 0 false 64).2.1 (stepR p 0 false 64).2.2 = (acc, a, true) by rw [HLP.out, loopR_bad]; show (acc ++ [], a, true) = _; rw [List.append_nil])
     clear HLP
     have CB2_ := Aside0.mk (blk_below CB2.out HX.out.B)
     clear CB2
     have CB2 := CB2_
     clear CB2_
     go_upto_region 15 with (first
      | (go_at_call 36; ((with_reducible refine (reader_count.calls w2 _ g6 Ap cp p a true 1099511627776 (by decide) HX.out.B HX.out.o6 HX.out.c6 HX.out.hC HX.out.hc HX.out.hb HX.out.hl HX.out.ha).mono ?_); rintro e_ w6 ⟨rfl, h6, hB6, hk6⟩; have HX_ := Aside0.mk (HX.out.take h6 hB6 hk6); have CB2_ := Aside0.mk (blk_kept CB2.out hk6 (fun e => by have := HX.out.o6; have := HG2L.out; omega)); clear CB2; have CB2 := CB2_; clear CB2_; clear HX h6 hB6 hk6 v62 v70 v71 v72 f70 f71 f72; have HX := HX_; clear HX_; obtain ⟨nx, hs_⟩ : ∃ x, x = (stepR p a true 1099511627776).1 := ⟨_, rfl⟩; obtain ⟨a6, ha_⟩ : ∃ x, x = (stepR p a true 1099511627776).2.1 := ⟨_, rfl⟩; obtain ⟨b6, hb_⟩ : ∃ x, x = (stepR p a true 1099511627776).2.2 := ⟨_, rfl⟩; rw [← hs_]; rw [← ha_, ← hb_] at HX; have Knx := Aside0.mk hs_; have Ka6 := Aside0.mk ha_; have Kb6 := Aside0.mk hb_; clear hs_ ha_ hb_; obtain ⟨v62, v70, v71, v72, f70, f71, f72⟩ := HX.out.vis)))
     have CB2_ := Aside0.mk (blk_far (p := ⟨g7, 1, none⟩) CB2.out (show g2 ≠ g7 by have := HX.out.o6; have := HX.out.o7; have := HG2L.out; omega) (.int .i64 nx))
     clear CB2
     have HX_ := Aside0.mk (HX.out.put 1 (.int .i64 nx) nx 0 rfl)
     clear HX v62 v70 v71 v72 f70 f71 f72
     generalize w6.setCell ⟨g7, 1, none⟩ (.int .i64 nx) = W6 at *
     have HX := HX_
     clear HX_
     obtain ⟨v62, v70, v71, v72, f70, f71, f72⟩ := HX.out.vis
     have CB2 := CB2_
     clear CB2_
     go_upto_region 16 with (first
      | (go_at_call 36; ((with_reducible refine (reader_count.calls w2 _ g6 Ap cp p a6 b6 1099511627776 (by decide) HX.out.B HX.out.o6 HX.out.c6 HX.out.hC HX.out.hc HX.out.hb HX.out.hl HX.out.ha).mono ?_); rintro e_ w7 ⟨rfl, h6, hB6, hk6⟩; have HX_ := Aside0.mk (HX.out.take h6 hB6 hk6); have CB2_ := Aside0.mk (blk_kept CB2.out hk6 (fun e => by have := HX.out.o6; have := HG2L.out; omega)); clear CB2; have CB2 := CB2_; clear CB2_; clear HX h6 hB6 hk6 v62 v70 v71 v72 f70 f71 f72; have HX := HX_; clear HX_; obtain ⟨sq, hs_⟩ : ∃ x, x = (stepR p a6 b6 1099511627776).1 := ⟨_, rfl⟩; obtain ⟨a7, ha_⟩ : ∃ x, x = (stepR p a6 b6 1099511627776).2.1 := ⟨_, rfl⟩; obtain ⟨b7, hb_⟩ : ∃ x, x = (stepR p a6 b6 1099511627776).2.2 := ⟨_, rfl⟩; rw [← hs_]; rw [← ha_, ← hb_] at HX; have Ksq := Aside0.mk hs_; have Ka7 := Aside0.mk ha_; have Kb7 := Aside0.mk hb_; clear hs_ ha_ hb_; obtain ⟨v62, v70, v71, v72, f70, f71, f72⟩ := HX.out.vis)))
     have CB2_ := Aside0.mk (blk_far (p := ⟨g7, 2, none⟩) CB2.out (show g2 ≠ g7 by have := HX.out.o6; have := HX.out.o7; have := HG2L.out; omega) (.int .i64 sq))
     clear CB2
     have HX_ := Aside0.mk (HX.out.put 2 (.int .i64 sq) nx sq rfl)
     clear HX v62 v70 v71 v72 f70 f71 f72
     generalize w7.setCell ⟨g7, 2, none⟩ (.int .i64 sq) = W7 at *
     have HX := HX_
     clear HX_
     obtain ⟨v62, v70, v71, v72, f70, f71, f72⟩ := HX.out.vis
     have CB2 := CB2_
     clear CB2_
     have HH2 := Aside0.mk (show (if b7 = true ∨ a7 ≠ p.length ∨ ¬ FormedC acc nx sq then (([], 0, 0, 13) : List S63 × Int × Int × Int) else (acc, nx, sq, 0)) = (r1, r2, r3, r4) by
      have h1 := HH.out
      unfold takeR at h1
      simp only [] at h1
      rw [HM0.out, Int.toNat_natCast, HLQ.out] at h1
      simp only [] at h1
      rw [← Knx.out, ← Ka6.out, ← Kb6.out, ← Ksq.out, ← Ka7.out, ← Kb7.out] at h1
      exact h1)
     obtain ⟨Av, cv, hv⟩ := Kd.R_slice HX.out.hR
     subst hv
     obtain ⟨dn, hdn⟩ : ∃ x, x = (!b7 && decide (a7 = p.length)) := ⟨_, rfl⟩
     have HDN := Aside0.mk hdn
     clear hdn
     have v20 : W7.cell? ⟨g2, 0, none⟩ = some (.slice none 0 0) := (blk_cell CB2.out 0).trans rfl
     have v21 : W7.cell? ⟨g2, 1, none⟩ = some (.int .i64 0) := (blk_cell CB2.out 1).trans rfl
     have v22 : W7.cell? ⟨g2, 2, none⟩ = some (.int .i64 0) := (blk_cell CB2.out 2).trans rfl
     have f20 := blk_frozen CB2.out 0
     have f21 := blk_frozen CB2.out 1
     have f22 := blk_frozen CB2.out 2
     cases dn with
     | false =>
      have hh := HH2.out
      rw [if_pos (by
       have := HDN.out
       cases hb7 : b7 with
       | true => exact .inl rfl
       | false =>
        rw [hb7] at this
        exact .inr (.inl (fun h => by rw [decide_eq_true h] at this; cases this)))] at hh
      simp only [Prod.mk.injEq] at hh
      obtain ⟨rfl, rfl, rfl, rfl⟩ := hh
      go_wp2_with (first
       | (go_at_call 37; (with_reducible refine (reader_done.calls _ g6 Ap cp p a7 b7 false HDN.out HX.out.c6).mono ?_); rintro e_ w8 ⟨rfl, hb⟩; have HX_ := Aside0.mk (HX.out.new hb rfl).any; have CB2_ := Aside0.mk (blk_below CB2.out hb); clear HX CB2 hb v62 v70 v71 v72 f70 f71 f72 v20 v21 v22 f20 f21 f22; have HX := HX_; have CB2 := CB2_; clear HX_ CB2_; obtain ⟨v62, v70, v71, v72, f70, f71, f72⟩ := HX.out.vis; have v20 : w8.cell? ⟨g2, 0, none⟩ = some (.slice none 0 0) := (blk_cell CB2.out 0).trans rfl; have v21 : w8.cell? ⟨g2, 1, none⟩ = some (.int .i64 0) := (blk_cell CB2.out 1).trans rfl; have v22 : w8.cell? ⟨g2, 2, none⟩ = some (.int .i64 0) := (blk_cell CB2.out 2).trans rfl; have f20 := blk_frozen CB2.out 0; have f21 := blk_frozen CB2.out 1; have f22 := blk_frozen CB2.out 2))
      refine bodyPost_ret (results_ct rfl _ _ g2 27 #[.slice none 0 0, .int .i64 0, .int .i64 0] (0, 0) _ rfl (blk_put (cs := #[.slice none 0 0, .int .i64 0, .int .i64 0]) (blk_put (cs := #[.slice none 0 0, .int .i64 0, .int .i64 0]) (blk_put (cs := #[.slice none 0 0, .int .i64 0, .int .i64 0]) CB2.out 0 _ rfl) 1 _ rfl) 2 _ rfl) Tryd.underlying27 rfl (by kernel_rfl)) rfl ?_
      exact ⟨_, rfl, Kd.R_nil _ _ _ _ _, below_set (below_set (below_set (below_step HB.out HX.out.B) G2.out) G2.out) G2.out⟩
     | true =>
      by_cases cf : FormedC acc nx sq
      ·have hh := HH2.out
       have hdn := HDN.out
       rw [if_neg (fun h => by
        rcases h with h | h | h
        ·rw [h] at hdn
         cases hdn
        ·rw [decide_eq_false h, Bool.and_false] at hdn
         cases hdn
        ·exact h cf)] at hh
       clear hdn
       simp only [Prod.mk.injEq] at hh
       obtain ⟨rfl, rfl, rfl, rfl⟩ := hh
       have HF := Aside0.mk (show dragnetref18_Formed.f acc nx sq = some true by unfold dragnetref18_Formed.f; rw [if_pos (by have := HAC.out; omega), decide_eq_true cf])
       clear cf
       go_wp2_with (first
        | (go_at_call 37; (with_reducible refine (reader_done.calls _ g6 Ap cp p a7 b7 true HDN.out HX.out.c6).mono ?_); rintro e_ w8 ⟨rfl, hb⟩; have HX_ := Aside0.mk (HX.out.new hb rfl).any; have CB2_ := Aside0.mk (blk_below CB2.out hb); clear HX CB2 hb v62 v70 v71 v72 f70 f71 f72 v20 v21 v22 f20 f21 f22; have HX := HX_; have CB2 := CB2_; clear HX_ CB2_; obtain ⟨v62, v70, v71, v72, f70, f71, f72⟩ := HX.out.vis; have v20 : w8.cell? ⟨g2, 0, none⟩ = some (.slice none 0 0) := (blk_cell CB2.out 0).trans rfl; have v21 : w8.cell? ⟨g2, 1, none⟩ = some (.int .i64 0) := (blk_cell CB2.out 1).trans rfl; have v22 : w8.cell? ⟨g2, 2, none⟩ = some (.int .i64 0) := (blk_cell CB2.out 2).trans rfl; have f20 := blk_frozen CB2.out 0; have f21 := blk_frozen CB2.out 1; have f22 := blk_frozen CB2.out 2)
        | (go_at_call 16; (with_reducible refine (dragnetref18_Formed.calls Av cv acc nx sq true _ (Kd.R_reads' HX.out.hR).2.2 (Kd.R_reads' HX.out.hR).2.1 HF.out).mono ?_); rintro e_ w9 ⟨rfl, hb⟩; have HX_ := Aside0.mk (HX.out.new hb rfl).any; have CB2_ := Aside0.mk (blk_below CB2.out hb); clear HX CB2 hb v62 v70 v71 v72 f70 f71 f72 v20 v21 v22 f20 f21 f22; have HX := HX_; have CB2 := CB2_; clear HX_ CB2_; obtain ⟨v62, v70, v71, v72, f70, f71, f72⟩ := HX.out.vis; have v20 : w9.cell? ⟨g2, 0, none⟩ = some (.slice none 0 0) := (blk_cell CB2.out 0).trans rfl; have v21 : w9.cell? ⟨g2, 1, none⟩ = some (.int .i64 0) := (blk_cell CB2.out 1).trans rfl; have v22 : w9.cell? ⟨g2, 2, none⟩ = some (.int .i64 0) := (blk_cell CB2.out 2).trans rfl; have f20 := blk_frozen CB2.out 0; have f21 := blk_frozen CB2.out 1; have f22 := blk_frozen CB2.out 2))
       refine bodyPost_ret (results_ct rfl _ _ g2 27 #[.slice Av acc.length cv, .int .i64 nx, .int .i64 sq] (0, 0) _ rfl (blk_put (cs := #[.slice Av acc.length cv, .int .i64 nx, .int .i64 0]) (blk_put (cs := #[.slice Av acc.length cv, .int .i64 0, .int .i64 0]) (blk_put (cs := #[.slice none 0 0, .int .i64 0, .int .i64 0]) CB2.out 0 _ rfl) 1 _ rfl) 2 _ rfl) Tryd.underlying27 rfl (by kernel_rfl)) rfl ?_
       have hRg : Kd.R k63 63 _ w2.heap.size (fun k => k ≠ g2) (.slice Av acc.length cv) acc := Kd.R_mono (Kd.R_bound HX.out.hR) (fun k hk => by have := hk.2.1; have := HG2L.out; omega)
       exact ⟨_, rfl, Kd.R_lower (Kd.R_mono (Kd.R_far (Kd.R_far (Kd.R_far hRg (fun k hk => hk) _) (fun k hk => hk) _) (fun k hk => hk) _) (fun _ _ => trivial)) (below_size HB.out), below_set (below_set (below_set (below_step HB.out HX.out.B) G2.out) G2.out) G2.out⟩
      ·have hh := HH2.out
       rw [if_pos (.inr (.inr cf))] at hh
       simp only [Prod.mk.injEq] at hh
       obtain ⟨rfl, rfl, rfl, rfl⟩ := hh
       have HF := Aside0.mk (show dragnetref18_Formed.f acc nx sq = some false by unfold dragnetref18_Formed.f; rw [if_pos (by have := HAC.out; omega), decide_eq_false cf])
       clear cf
       go_wp2_with (first
        | (go_at_call 37; (with_reducible refine (reader_done.calls _ g6 Ap cp p a7 b7 true HDN.out HX.out.c6).mono ?_); rintro e_ w8 ⟨rfl, hb⟩; have HX_ := Aside0.mk (HX.out.new hb rfl).any; have CB2_ := Aside0.mk (blk_below CB2.out hb); clear HX CB2 hb v62 v70 v71 v72 f70 f71 f72 v20 v21 v22 f20 f21 f22; have HX := HX_; have CB2 := CB2_; clear HX_ CB2_; obtain ⟨v62, v70, v71, v72, f70, f71, f72⟩ := HX.out.vis; have v20 : w8.cell? ⟨g2, 0, none⟩ = some (.slice none 0 0) := (blk_cell CB2.out 0).trans rfl; have v21 : w8.cell? ⟨g2, 1, none⟩ = some (.int .i64 0) := (blk_cell CB2.out 1).trans rfl; have v22 : w8.cell? ⟨g2, 2, none⟩ = some (.int .i64 0) := (blk_cell CB2.out 2).trans rfl; have f20 := blk_frozen CB2.out 0; have f21 := blk_frozen CB2.out 1; have f22 := blk_frozen CB2.out 2)
        | (go_at_call 16; (with_reducible refine (dragnetref18_Formed.calls Av cv acc nx sq false _ (Kd.R_reads' HX.out.hR).2.2 (Kd.R_reads' HX.out.hR).2.1 HF.out).mono ?_); rintro e_ w9 ⟨rfl, hb⟩; have HX_ := Aside0.mk (HX.out.new hb rfl).any; have CB2_ := Aside0.mk (blk_below CB2.out hb); clear HX CB2 hb v62 v70 v71 v72 f70 f71 f72 v20 v21 v22 f20 f21 f22; have HX := HX_; have CB2 := CB2_; clear HX_ CB2_; obtain ⟨v62, v70, v71, v72, f70, f71, f72⟩ := HX.out.vis; have v20 : w9.cell? ⟨g2, 0, none⟩ = some (.slice none 0 0) := (blk_cell CB2.out 0).trans rfl; have v21 : w9.cell? ⟨g2, 1, none⟩ = some (.int .i64 0) := (blk_cell CB2.out 1).trans rfl; have v22 : w9.cell? ⟨g2, 2, none⟩ = some (.int .i64 0) := (blk_cell CB2.out 2).trans rfl; have f20 := blk_frozen CB2.out 0; have f21 := blk_frozen CB2.out 1; have f22 := blk_frozen CB2.out 2))
       refine bodyPost_ret (results_ct rfl _ _ g2 27 #[.slice none 0 0, .int .i64 0, .int .i64 0] (0, 0) _ rfl (blk_put (cs := #[.slice none 0 0, .int .i64 0, .int .i64 0]) (blk_put (cs := #[.slice none 0 0, .int .i64 0, .int .i64 0]) (blk_put (cs := #[.slice none 0 0, .int .i64 0, .int .i64 0]) CB2.out 0 _ rfl) 1 _ rfl) 2 _ rfl) Tryd.underlying27 rfl (by kernel_rfl)) rfl ?_
       exact ⟨_, rfl, Kd.R_nil _ _ _ _ _, below_set (below_set (below_set (below_step HB.out HX.out.B) G2.out) G2.out) G2.out⟩
    | false =>
     have hpos : decide ((0 : Int) < ((n + 1 : Nat) : Int)) = true := decide_eq_true (by omega)
     have KLP := Aside0.mk (show loopR p (n + 1) a false = (rref4 p a false :: (loopR p n (rd4 p a false 4).1 (rd4 p a false 4).2).1, (loopR p n (rd4 p a false 4).1 (rd4 p a false 4).2).2) from rfl)
     go_upto_region 10 with (first
      | (go_at_call 36; ((with_reducible refine (reader_count.calls w2 _ g6 Ap cp p a false 1099511627776 (by decide) HX.out.B HX.out.o6 HX.out.c6 HX.out.hC HX.out.hc HX.out.hb HX.out.hl HX.out.ha).mono ?_); rintro e_ w5 ⟨rfl, h6, hB6, hk6⟩; have HX_ := Aside0.mk (HX.out.take h6 hB6 hk6); clear HX h6 hB6 hk6 v62 v70 v71 v72 f70 f71 f72; have HX := HX_; clear HX_; obtain ⟨s0, hs_⟩ : ∃ x, x = (stepR p a false 1099511627776).1 := ⟨_, rfl⟩; obtain ⟨a1, ha_⟩ : ∃ x, x = (stepR p a false 1099511627776).2.1 := ⟨_, rfl⟩; obtain ⟨b1, hb_⟩ : ∃ x, x = (stepR p a false 1099511627776).2.2 := ⟨_, rfl⟩; rw [← hs_]; rw [← ha_, ← hb_] at HX; have Ks0 := Aside0.mk hs_; have Ka1 := Aside0.mk ha_; have Kb1 := Aside0.mk hb_; clear hs_ ha_ hb_; obtain ⟨v62, v70, v71, v72, f70, f71, f72⟩ := HX.out.vis))
      | ((with_reducible refine gate_dst (N := 9) rfl ?_); refine box_event ?hg (N := 9) ?hd (cs := #[.int .i64 0, .int .i64 0, .int .i64 0, .int .i64 0]) (t := 63) ?hr ?_; (case hd => rfl); (case hg => rfl); (case hr => first | (go_simp; done) | (go_simp; rfl)); intro g9 hg9 w6 hbox hb; have CB9 := Aside0.mk hbox; have G9 := Aside0.mk (show g7 < g9 by rw [hg9]; exact HX.out.lt7); have HX_ := Aside0.mk (HX.out.new hb hg9); clear HX hb hbox hg9 v62 v70 v71 v72 f70 f71 f72; have HX := HX_; clear HX_; obtain ⟨v62, v70, v71, v72, f70, f71, f72⟩ := HX.out.vis; have c90 : w6.cell? ⟨g9, 0, none⟩ = some (.int .i64 0) := (blk_cell CB9.out 0).trans rfl; have z90 := blk_frozen CB9.out 0; have c91 : w6.cell? ⟨g9, 1, none⟩ = some (.int .i64 0) := (blk_cell CB9.out 1).trans rfl; have z91 := blk_frozen CB9.out 1; have c92 : w6.cell? ⟨g9, 2, none⟩ = some (.int .i64 0) := (blk_cell CB9.out 2).trans rfl; have z92 := blk_frozen CB9.out 2; have c93 : w6.cell? ⟨g9, 3, none⟩ = some (.int .i64 0) := (blk_cell CB9.out 3).trans rfl; have z93 := blk_frozen CB9.out 3))
     clear c90 c91 c92 c93 z90 z91 z92 z93
     have HX_ := Aside0.mk (HX.out.far G9.out 0 (.int .i64 s0))
     have CB9_ := Aside0.mk (blk_put (cs' := #[.int .i64 s0, .int .i64 0, .int .i64 0, .int .i64 0]) CB9.out 0 (.int .i64 s0) rfl)
     clear HX CB9 v62 v70 v71 v72 f70 f71 f72
     generalize w6.setCell ⟨g9, 0, none⟩ (.int .i64 s0) = L4 at *
     have HX := HX_
     have CB9 := CB9_
     clear HX_ CB9_
     obtain ⟨v62, v70, v71, v72, f70, f71, f72⟩ := HX.out.vis
     have HX_ := Aside0.mk (HX.out.far G9.out 1 (.int .i64 0))
     have CB9_ := Aside0.mk (blk_put (cs' := #[.int .i64 s0, .int .i64 0, .int .i64 0, .int .i64 0]) CB9.out 1 (.int .i64 0) rfl)
     clear HX CB9 v62 v70 v71 v72 f70 f71 f72
     generalize L4.setCell ⟨g9, 1, none⟩ (.int .i64 0) = L5 at *
     have HX := HX_
     have CB9 := CB9_
     clear HX_ CB9_
     obtain ⟨v62, v70, v71, v72, f70, f71, f72⟩ := HX.out.vis
     have HX_ := Aside0.mk (HX.out.far G9.out 2 (.int .i64 0))
     have CB9_ := Aside0.mk (blk_put (cs' := #[.int .i64 s0, .int .i64 0, .int .i64 0, .int .i64 0]) CB9.out 2 (.int .i64 0) rfl)
     clear HX CB9 v62 v70 v71 v72 f70 f71 f72
     generalize L5.setCell ⟨g9, 2, none⟩ (.int .i64 0) = L6 at *
     have HX := HX_
     have CB9 := CB9_
     clear HX_ CB9_
     obtain ⟨v62, v70, v71, v72, f70, f71, f72⟩ := HX.out.vis
     have HX_ := Aside0.mk (HX.out.far G9.out 3 (.int .i64 0))
     have CB9_ := Aside0.mk (blk_put (cs' := #[.int .i64 s0, .int .i64 0, .int .i64 0, .int .i64 0]) CB9.out 3 (.int .i64 0) rfl)
     clear HX CB9 v62 v70 v71 v72 f70 f71 f72
     generalize L6.setCell ⟨g9, 3, none⟩ (.int .i64 0) = L7 at *
     have HX := HX_
     have CB9 := CB9_
     clear HX_ CB9_
     obtain ⟨v62, v70, v71, v72, f70, f71, f72⟩ := HX.out.vis
     go_upto_region 11 with (first
      | (go_at_call 36; ((with_reducible refine (reader_count.calls w2 _ g6 Ap cp p a1 b1 1099511627776 (by decide) HX.out.B HX.out.o6 HX.out.c6 HX.out.hC HX.out.hc HX.out.hb HX.out.hl HX.out.ha).mono ?_); rintro e_ w7 ⟨rfl, h6, hB6, hk6⟩; have HX_ := Aside0.mk (HX.out.take h6 hB6 hk6); have CB9_ := Aside0.mk (blk_kept CB9.out hk6 (fun e => by have := HX.out.o7; have := G9.out; omega)); clear CB9; have CB9 := CB9_; clear CB9_; have f9 := blk_frozen CB9.out 1; have v9 := (blk_cell CB9.out 1); clear HX h6 hB6 hk6 v62 v70 v71 v72 f70 f71 f72; have HX := HX_; clear HX_; obtain ⟨s1, hs_⟩ : ∃ x, x = (stepR p a1 b1 1099511627776).1 := ⟨_, rfl⟩; obtain ⟨a2, ha_⟩ : ∃ x, x = (stepR p a1 b1 1099511627776).2.1 := ⟨_, rfl⟩; obtain ⟨b2, hb_⟩ : ∃ x, x = (stepR p a1 b1 1099511627776).2.2 := ⟨_, rfl⟩; rw [← hs_]; rw [← ha_, ← hb_] at HX; have Ks1 := Aside0.mk hs_; have Ka2 := Aside0.mk ha_; have Kb2 := Aside0.mk hb_; clear hs_ ha_ hb_; obtain ⟨v62, v70, v71, v72, f70, f71, f72⟩ := HX.out.vis)))
     have HX_ := Aside0.mk (HX.out.far G9.out 1 (.int .i64 s1))
     have CB9_ := Aside0.mk (blk_put (cs' := #[.int .i64 s0, .int .i64 s1, .int .i64 0, .int .i64 0]) CB9.out 1 (.int .i64 s1) rfl)
     clear HX CB9 f9 v9 v62 v70 v71 v72 f70 f71 f72
     generalize w7.setCell ⟨g9, 1, none⟩ (.int .i64 s1) = W1 at *
     have HX := HX_
     have CB9 := CB9_
     clear HX_ CB9_
     obtain ⟨v62, v70, v71, v72, f70, f71, f72⟩ := HX.out.vis
     go_upto_region 12 with (first
      | (go_at_call 36; ((with_reducible refine (reader_count.calls w2 _ g6 Ap cp p a2 b2 1099511627776 (by decide) HX.out.B HX.out.o6 HX.out.c6 HX.out.hC HX.out.hc HX.out.hb HX.out.hl HX.out.ha).mono ?_); rintro e_ w7 ⟨rfl, h6, hB6, hk6⟩; have HX_ := Aside0.mk (HX.out.take h6 hB6 hk6); have CB9_ := Aside0.mk (blk_kept CB9.out hk6 (fun e => by have := HX.out.o7; have := G9.out; omega)); clear CB9; have CB9 := CB9_; clear CB9_; have f9 := blk_frozen CB9.out 2; have v9 := (blk_cell CB9.out 2); clear HX h6 hB6 hk6 v62 v70 v71 v72 f70 f71 f72; have HX := HX_; clear HX_; obtain ⟨s2, hs_⟩ : ∃ x, x = (stepR p a2 b2 1099511627776).1 := ⟨_, rfl⟩; obtain ⟨a3, ha_⟩ : ∃ x, x = (stepR p a2 b2 1099511627776).2.1 := ⟨_, rfl⟩; obtain ⟨b3, hb_⟩ : ∃ x, x = (stepR p a2 b2 1099511627776).2.2 := ⟨_, rfl⟩; rw [← hs_]; rw [← ha_, ← hb_] at HX; have Ks2 := Aside0.mk hs_; have Ka3 := Aside0.mk ha_; have Kb3 := Aside0.mk hb_; clear hs_ ha_ hb_; obtain ⟨v62, v70, v71, v72, f70, f71, f72⟩ := HX.out.vis)))
     have HX_ := Aside0.mk (HX.out.far G9.out 2 (.int .i64 s2))
     have CB9_ := Aside0.mk (blk_put (cs' := #[.int .i64 s0, .int .i64 s1, .int .i64 s2, .int .i64 0]) CB9.out 2 (.int .i64 s2) rfl)
     clear HX CB9 f9 v9 v62 v70 v71 v72 f70 f71 f72
     generalize w7.setCell ⟨g9, 2, none⟩ (.int .i64 s2) = W2 at *
     have HX := HX_
     have CB9 := CB9_
     clear HX_ CB9_
     obtain ⟨v62, v70, v71, v72, f70, f71, f72⟩ := HX.out.vis
     go_upto_region 13 with (first
      | (go_at_call 36; ((with_reducible refine (reader_count.calls w2 _ g6 Ap cp p a3 b3 1099511627776 (by decide) HX.out.B HX.out.o6 HX.out.c6 HX.out.hC HX.out.hc HX.out.hb HX.out.hl HX.out.ha).mono ?_); rintro e_ w7 ⟨rfl, h6, hB6, hk6⟩; have HX_ := Aside0.mk (HX.out.take h6 hB6 hk6); have CB9_ := Aside0.mk (blk_kept CB9.out hk6 (fun e => by have := HX.out.o7; have := G9.out; omega)); clear CB9; have CB9 := CB9_; clear CB9_; have f9 := blk_frozen CB9.out 3; have v9 := (blk_cell CB9.out 3); clear HX h6 hB6 hk6 v62 v70 v71 v72 f70 f71 f72; have HX := HX_; clear HX_; obtain ⟨s3, hs_⟩ : ∃ x, x = (stepR p a3 b3 1099511627776).1 := ⟨_, rfl⟩; obtain ⟨a4, ha_⟩ : ∃ x, x = (stepR p a3 b3 1099511627776).2.1 := ⟨_, rfl⟩; obtain ⟨b4, hb_⟩ : ∃ x, x = (stepR p a3 b3 1099511627776).2.2 := ⟨_, rfl⟩; rw [← hs_]; rw [← ha_, ← hb_] at HX; have Ks3 := Aside0.mk hs_; have Ka4 := Aside0.mk ha_; have Kb4 := Aside0.mk hb_; clear hs_ ha_ hb_; obtain ⟨v62, v70, v71, v72, f70, f71, f72⟩ := HX.out.vis)))
     have HX_ := Aside0.mk (HX.out.far G9.out 3 (.int .i64 s3))
     have CB9_ := Aside0.mk (blk_put (cs' := #[.int .i64 s0, .int .i64 s1, .int .i64 s2, .int .i64 s3]) CB9.out 3 (.int .i64 s3) rfl)
     clear HX CB9 f9 v9 v62 v70 v71 v72 f70 f71 f72
     generalize w7.setCell ⟨g9, 3, none⟩ (.int .i64 s3) = W3 at *
     have HX := HX_
     have CB9 := CB9_
     clear HX_ CB9_
     obtain ⟨v62, v70, v71, v72, f70, f71, f72⟩ := HX.out.vis
     obtain ⟨x, hx⟩ : ∃ x : S63, x = ⟨s0, s1, s2, s3⟩ := ⟨_, rfl⟩
     have CBX := Aside0.mk (show W3.heap[g9]? = some (.cells #[.int .i64 x.f0, .int .i64 x.f1, .int .i64 x.f2, .int .i64 x.f3] 63 (0, 0)) by rw [hx]; exact CB9.out)
     have hq1 : rd4 p a false 1 = (a1, b1) := by show (stepR p a false 1099511627776).2 = _; rw [Ka1.out, Kb1.out]
     have hq2 : rd4 p a false 2 = (a2, b2) := by show (stepR p (rd4 p a false 1).1 (rd4 p a false 1).2 1099511627776).2 = _; rw [hq1, Ka2.out, Kb2.out]
     have hq3 : rd4 p a false 3 = (a3, b3) := by show (stepR p (rd4 p a false 2).1 (rd4 p a false 2).2 1099511627776).2 = _; rw [hq2, Ka3.out, Kb3.out]
     have hq4 : rd4 p a false 4 = (a4, b4) := by show (stepR p (rd4 p a false 3).1 (rd4 p a false 3).2 1099511627776).2 = _; rw [hq3, Ka4.out, Kb4.out]
     have KX := Aside0.mk (show x = rref4 p a false by
      rw [hx]
      unfold rref4 rfl4
      rw [hq1, hq2, hq3, Ks0.out, Ks1.out, Ks2.out, Ks3.out]
      rfl)
     have HLP2 := Aside0.mk (show loopR p m0 (stepR p 0 false 64).2.1 (stepR p 0 false 64).2.2 = ((acc ++ [x]) ++ (loopR p n a4 b4).1, (loopR p n a4 b4).2) by rw [HLP.out, KLP.out, KX.out, hq4, List.append_assoc]; rfl)
     clear hx CB9 hq1 hq2 hq3 hq4
     have HX_ := Aside0.mk HX.out.any
     clear HX
     have HX := HX_
     clear HX_
     obtain ⟨Av, cv, hv⟩ := Kd.R_slice HX.out.hR
     subst hv
     clear v62 v70 v71 v72 f70 f71 f72
     obtain ⟨v62, v70, v71, v72, f70, f71, f72⟩ := HX.out.vis
     have y0 : W3.cell? ⟨g9, 0, none⟩ = some (.int .i64 x.f0) := (blk_cell CBX.out 0).trans rfl
     have y1 : W3.cell? ⟨g9, 1, none⟩ = some (.int .i64 x.f1) := (blk_cell CBX.out 1).trans rfl
     have y2 : W3.cell? ⟨g9, 2, none⟩ = some (.int .i64 x.f2) := (blk_cell CBX.out 2).trans rfl
     have y3 : W3.cell? ⟨g9, 3, none⟩ = some (.int .i64 x.f3) := (blk_cell CBX.out 3).trans rfl
     go_wp2_with (first
      | ((with_reducible refine gate_dst (N := 50) rfl ?_); refine Kd.R_lit k63 _ 63 ?hg (N := 50) ?hd (xs := [x]) (inner := [.int .i64 x.f0, .int .i64 x.f1, .int .i64 x.f2, .int .i64 x.f3]) (ok := fun _ => True) (okp := fun _ => True) ?hr ?hp (fun _ hk => hk) trivial (Below.refl _ _) (Nat.le_refl _) (by simp) ?_; (case hd => rfl); (case hg => rfl); (case hr => first | (go_simp; done) | (go_simp; rfl)); (case hp => exact (Reps.c4 (k63_mkM _ _ _ x) (Reps.none _ _))); intro v52 w8 ho hb hgr hnew; clear hnew; have HB8 := Aside0.mk (below_step HX.out.B hb); have HX_ := Aside0.mk (HX.out.grown HB8.out hgr); obtain ⟨A5, c5, rfl⟩ := Kd.R_slice ho; have HL5 := Aside0.mk (Kd.R_reads' ho); clear HX hb hgr ho; have HX := HX_; clear HX_)
      | ((with_reducible refine gate_builtin (b := .append) (xs := #[.tmp 48, .tmp 50]) rfl ?_); at_builtin; refine Kd.R_append_rows k63 (w0 := w2) w2.heap.size rfl (.tmp 48) (.tmp 50) 25 63 (.agg #[(.int .i64 0), (.int .i64 0), (.int .i64 0), (.int .i64 0)]) 32 rfl Tryd.underlying25 info63x rfl (by decide) (by omega) (.slice Av acc.length cv) acc [x] _ _ _ (fun k => (k ≠ g6 ∧ k ≠ g7) ∧ True) (fun _ => False) rfl rfl ?aO ?aR (fun _ _ h => h) (fun _ h => h.elim) ?aF ?aB ?aS ?aL ?_; (case aR => exact HL5.out.2.2); (case aB => exact HB8.out); (case aF => exact (fun k hk => by have := HX.out.lt7; have := HX.out.o7; exact ⟨⟨by omega, by omega⟩, trivial⟩)); (case aO => exact HX.out.hR); (case aS => exact HB8.out.size); (case aL => have := HAC.out; simp; omega); intro v53 w9 ho hb hgr hat; obtain ⟨A53, c53, e53⟩ := Kd.R_slice ho; rw [show (acc ++ [x]).length = acc.length + 1 by simp] at e53; subst e53; have HRW := Aside0.mk ho; have HB9 := Aside0.mk hb; have HGR := Aside0.mk hgr; clear ho hb hgr hat; have u7 : w9.frozen? ⟨g7, 0, none⟩ = false := blk_frozen (blk_grown HX.out.c7 HGR.out (fun e => (HX.out.hR.1 g7 e.symm).1.2 rfl)) 0; have u70 : w9.cell? ⟨g7, 0, none⟩ = some (.slice Av acc.length cv) := (blk_cell (blk_grown HX.out.c7 HGR.out (fun e => (HX.out.hR.1 g7 e.symm).1.2 rfl)) 0).trans rfl))
     have HX2 := Aside0.mk (HX.out.row HB9.out HGR.out HRW.out)
     have HAC2 := Aside0.mk (show (acc ++ [x]).length + n ≤ 64 by
      rw [List.length_append, List.length_singleton]
      have := HAC.out
      omega)
     have hsb : wrap64 (n : Int) = (n : Int) := by have := HAC.out; unfold wrap64; omega
     go_roundw
     ·exact ⟨n, a4, b4, _, acc ++ [x], by rw [hsb], HX2, HLP2, HAC2⟩
     ·rw [hsb]
      show (n : Int).toNat < (((n + 1 : Nat)) : Int).toNat
      omega
 ·rw [if_neg he] at h
  simp only [Option.some.injEq, Prod.mk.injEq] at h
  obtain ⟨rfl, rfl, rfl, rfl⟩ := h
  have heb : (e == 0) = false := beq_eq_false_iff_ne.mpr he
  have hen : (e != 0) = true := bne_iff_ne.mpr he
  clear he
  go_enter Tryd.func12, Tryd.ntmps12
  go_wp2_with (first
   | ((with_reducible refine gate_dst (N := 2) rfl ?_); refine box_event ?hg (N := 2) ?hd (cs := #[.slice none 0 0, .int .i64 0, .int .i64 0]) (t := 27) ?hr ?_; (case hd => rfl); (case hg => rfl); (case hr => first | (go_simp; done) | (go_simp; rfl)); intro g2 hg2 w1 hbox hb; have CB2 := Aside0.mk hbox; have G2 := Aside0.mk (show w.heap.size ≤ g2 by rw [hg2]; exact below_size HB.out); have HB_ := Aside0.mk (below_step HB.out hb); clear HB hb hbox hg2; have HB := HB_; clear HB_; have v20 : w1.cell? ⟨g2, 0, none⟩ = some (.slice none 0 0) := (blk_cell CB2.out 0).trans rfl; have v21 : w1.cell? ⟨g2, 1, none⟩ = some (.int .i64 0) := (blk_cell CB2.out 1).trans rfl; have v22 : w1.cell? ⟨g2, 2, none⟩ = some (.int .i64 0) := (blk_cell CB2.out 2).trans rfl; have f20 := blk_frozen CB2.out 0; have f21 := blk_frozen CB2.out 1; have f22 := blk_frozen CB2.out 2)
   | (go_at_call 35; (with_reducible refine (dragnetref01_Unwrap.calls (10 * l0.length + 60) A0 c0 l0 p e _ (Kd.C_below HR.out HB.out) HC.out HU.out).mono ?_); rintro e_ w2 ⟨v2, rfl, hR, hb⟩; obtain ⟨Ap, cp, rfl⟩ := Kd.R_slice hR; have HP := Aside0.mk (Kd.R_reads' hR); have HB_ := Aside0.mk (below_step HB.out hb); have CB2_ := Aside0.mk (blk_below CB2.out hb); clear HB CB2 hR hb v20 v21 v22 f20 f21 f22; have HB := HB_; have CB2 := CB2_; clear HB_ CB2_; have v20 : w2.cell? ⟨g2, 0, none⟩ = some (.slice none 0 0) := (blk_cell CB2.out 0).trans rfl; have v21 : w2.cell? ⟨g2, 1, none⟩ = some (.int .i64 0) := (blk_cell CB2.out 1).trans rfl; have v22 : w2.cell? ⟨g2, 2, none⟩ = some (.int .i64 0) := (blk_cell CB2.out 2).trans rfl; have f20 := blk_frozen CB2.out 0; have f21 := blk_frozen CB2.out 1; have f22 := blk_frozen CB2.out 2))
  refine bodyPost_ret (results_ct rfl _ _ g2 27 #[.slice none 0 0, .int .i64 0, .int .i64 0] (0, 0) _ rfl (blk_put (cs := #[.slice none 0 0, .int .i64 0, .int .i64 0]) (blk_put (cs := #[.slice none 0 0, .int .i64 0, .int .i64 0]) (blk_put (cs := #[.slice none 0 0, .int .i64 0, .int .i64 0]) CB2.out 0 _ rfl) 1 _ rfl) 2 _ rfl) Tryd.underlying27 rfl (by kernel_rfl)) rfl ?_
  exact ⟨_, rfl, Kd.R_nil _ _ _ _ _, below_set (below_set (below_set HB.out G2.out) G2.out) G2.out⟩
theorem takeM_bad {p : List Int} (h : (loopT (stepT p false).1.toNat (stepT p false).2.1 (stepT p false).2.2).2.2 = true) : takeM p = ([], 0, 0, 13) := by
 unfold takeM
 simp only []
 rw [if_pos (.inl (by rw [h, stepT_bad, stepT_bad]))]
theorem takeM_bad2 {p : List Int} (h : (stepT (loopT (stepT p false).1.toNat (stepT p false).2.1 (stepT p false).2.2).2.1 (loopT (stepT p false).1.toNat (stepT p false).2.1 (stepT p false).2.2).2.2).2.2 = true) : takeM p = ([], 0, 0, 13) := by
 unfold takeM
 simp only []
 rw [if_pos (.inl (by rw [h, stepT_bad]))]
theorem takeR_bad {p : List Int} (h : (loopR p (stepR p 0 false 64).1.toNat (stepR p 0 false 64).2.1 (stepR p 0 false 64).2.2).2.2 = true) : takeR p = ([], 0, 0, 13) := by
 unfold takeR
 simp only []
 rw [if_pos (.inl (by rw [h, stepR_bad, stepR_bad]))]
theorem takeR_bad2 {p : List Int} (h : (stepR p (loopR p (stepR p 0 false 64).1.toNat (stepR p 0 false 64).2.1 (stepR p 0 false 64).2.2).2.1 (loopR p (stepR p 0 false 64).1.toNat (stepR p 0 false 64).2.1 (stepR p 0 false 64).2.2).2.2 1099511627776).2.2 = true) : takeR p = ([], 0, 0, 13) := by
 unfold takeR
 simp only []
 rw [if_pos (.inl (by rw [h, stepR_bad]))]
theorem take_eq {p : List Int} (hb : ByteL p) : takeR p = takeM p := by
 have e0 := stepR_eq hb (Nat.zero_le p.length)
 rw [List.drop_zero] at e0
 obtain ⟨e1, e2, e3⟩ := e0
 cases hbd : (stepT p false).2.2 with
 | true =>
  have h64 : (stepR p 0 false 64).2.2 = true := by
   rw [hbd] at e2
   unfold stepR at e2 ⊢
   rw [if_neg Bool.false_ne_true] at e2 ⊢
   rw [List.drop_zero] at e2 ⊢
   by_cases c : (takeN p).2.2 ≠ 0 ∨ 1099511627776 < (takeN p).1
   ·rw [if_pos (show (takeN p).2.2 ≠ 0 ∨ 64 < (takeN p).1 from c.elim .inl (fun h => .inr (by omega)))]
   ·rw [if_neg c] at e2
    cases e2
  rw [takeM_bad (by rw [hbd, loop_bad]), takeR_bad (by rw [h64, loopR_bad])]
 | false =>
  rw [hbd] at e2
  have e4 := e3 e2.symm
  have ha1 := (stepR_at hb (Nat.zero_le p.length) false 1099511627776).1
  by_cases c64 : (stepT p false).1 ≤ 64
  ·have h64 : stepR p 0 false 64 = stepR p 0 false 1099511627776 := by
    have e5 := e2
    rw [e1] at c64
    unfold stepR at e5 c64 ⊢
    rw [if_neg Bool.false_ne_true] at e5 c64
    rw [if_neg Bool.false_ne_true, if_neg Bool.false_ne_true]
    by_cases c : (takeN (p.drop 0)).2.2 ≠ 0 ∨ 1099511627776 < (takeN (p.drop 0)).1
    ·rw [if_pos c] at e5
     cases e5
    ·rw [if_neg c] at c64 ⊢
     rw [if_neg (fun h => h.elim (fun h => c (.inl h)) (fun h => by have : (takeN (p.drop 0)).1 ≤ 64 := c64; omega))]
   obtain ⟨l1, l2⟩ := loop_eq hb (stepR p 0 false 1099511627776).1.toNat _ ha1
   have ET : loopT (stepT p false).1.toNat (stepT p false).2.1 (stepT p false).2.2 = loopT (stepR p 0 false 1099511627776).1.toNat (p.drop (stepR p 0 false 1099511627776).2.1) false := by rw [e1, e4, hbd]
   have ER : loopR p (stepR p 0 false 64).1.toNat (stepR p 0 false 64).2.1 (stepR p 0 false 64).2.2 = loopR p (stepR p 0 false 1099511627776).1.toNat (stepR p 0 false 1099511627776).2.1 false := by rw [h64, ← e2]
   have ha2 := loopR_at hb (stepR p 0 false 1099511627776).1.toNat (stepR p 0 false 1099511627776).2.1 false ha1
   generalize loopT (stepR p 0 false 1099511627776).1.toNat (p.drop (stepR p 0 false 1099511627776).2.1) false = LT at *
   generalize loopR p (stepR p 0 false 1099511627776).1.toNat (stepR p 0 false 1099511627776).2.1 false = LR at *
   obtain ⟨A1, A2, A3⟩ := LT
   obtain ⟨B1, B2, B3⟩ := LR
   simp only [] at l1 l2 ha2
   cases hl : B3 with
   | true =>
    rw [hl] at l1
    rw [takeM_bad (by rw [ET]; exact l1), takeR_bad (by rw [ER]; exact hl)]
   | false =>
    obtain ⟨l3, l4, l5⟩ := l2 hl
    subst l3 l4
    rw [hl] at l1
    subst l1 hl
    have s1 := stepR_eq hb ha2
    have ha3 := (stepR_at hb ha2 false 1099511627776).1
    cases hb3 : (stepR p B2 false 1099511627776).2.2 with
    | true =>
     rw [takeM_bad2 (by rw [ET]; exact s1.2.1.trans hb3), takeR_bad2 (by rw [ER]; exact hb3)]
    | false =>
     have s2 := s1.2.2 hb3
     have s3 := stepR_eq hb ha3
     have ha4 := (stepR_at hb ha3 false 1099511627776).1
     unfold takeM takeR
     simp only []
     rw [ET, ER]
     simp only []
     rw [s1.1, s1.2.1, s2, hb3, s3.1, s3.2.1]
     cases hb4 : (stepR p (stepR p B2 false 1099511627776).2.1 false 1099511627776).2.2 with
     | true => rw [if_pos (.inl rfl), if_pos (.inl rfl)]
     | false =>
      rw [s3.2.2 hb4, List.length_drop]
      by_cases hx : (stepR p (stepR p B2 false 1099511627776).2.1 false 1099511627776).2.1 = p.length
      ·by_cases hf : FormedC A1 (stepR p B2 false 1099511627776).1 (stepR p (stepR p B2 false 1099511627776).2.1 false 1099511627776).1
       ·rw [if_neg (fun h => by rcases h with h | h | h; cases h; exact h hx; exact h hf), if_neg (fun h => by rcases h with h | h | h; cases h; omega; exact h hf)]
       ·rw [if_pos (.inr (.inr hf)), if_pos (.inr (.inr hf))]
      ·rw [if_pos (.inr (.inl hx)), if_pos (.inr (.inl (by omega)))]
  ·have h64 : (stepR p 0 false 64).2.2 = true := by
    rw [e1] at c64
    unfold stepR at c64 ⊢
    rw [if_neg Bool.false_ne_true] at c64 ⊢
    by_cases c : (takeN (p.drop 0)).2.2 ≠ 0 ∨ 1099511627776 < (takeN (p.drop 0)).1
    ·rw [if_pos c] at c64
     exact absurd (show (0 : Int) ≤ 64 by decide) c64
    ·rw [if_neg c] at c64
     rw [if_pos (.inr (by have : ¬ (takeN (p.drop 0)).1 ≤ 64 := c64; omega))]
   rw [takeR_bad (by rw [h64, loopR_bad])]
   symm
   have ET : loopT (stepT p false).1.toNat (stepT p false).2.1 (stepT p false).2.2 = loopT (stepR p 0 false 1099511627776).1.toNat (p.drop (stepR p 0 false 1099511627776).2.1) false := by rw [e1, e4, hbd]
   obtain ⟨l1, l2⟩ := loop_eq hb (stepR p 0 false 1099511627776).1.toNat _ ha1
   cases hl : (loopR p (stepR p 0 false 1099511627776).1.toNat (stepR p 0 false 1099511627776).2.1 false).2.2 with
   | true => exact takeM_bad (by rw [ET, l1]; exact hl)
   | false =>
    obtain ⟨_, _, l5⟩ := l2 hl
    unfold takeM
    simp only []
    rw [ET, if_pos (.inr (.inr (fun hf => by
     have := hf.1
     rw [l5] at this
     rw [e1] at c64
     omega)))]
end Go.Proofs.YtdcifmonhaklcaaDoor.R
