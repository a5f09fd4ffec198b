/- Walks: each Go function that is told here comes to what the plain function beside it says, wherever that one answers. Written by a program of this session (wip/tools/pr.sh), after the manner of print.sh. -/
import Derived.Test.YtdcifmonhaklcaaDoorTpQx0
import Derived.Test.YtdcifmonhaklcaaDoorTpQx2
import Derived.Test.YtdcifmonhaklcaaDoorTpQx3
import Derived.Test.YtdcifmonhaklcaaDoorTpQx4
import Derived.Test.YtdcifmonhaklcaaDoorTpQx5
import Derived.Test.YtdcifmonhaklcaaDoorTpQx7
import Derived.Test.YtdcifmonhaklcaaDoorTpQx8
import Derived.Test.YtdcifmonhaklcaaDoorTpQx9
namespace Go.Proofs.YtdcifmonhaklcaaDoor.Q
open Go.RowKit Go.Proofs.YtdcifmonhaklcaaDoorW.PrintWords Go.Proofs.YtdcifmonhaklcaaDoorW.PrintLast Go.Proofs.YtdcifmonhaklcaaDoorW.PrintMore
attribute [local go_sem] min2_int min_two -- for this text's walks alone
set_option linter.unusedVariables false
set_option linter.unusedSimpArgs false
theorem rbytes_l0 (n : Nat) : ∀ (e : Nat) (v : Int) (acc : List Int), 0 ≤ v → v < 256 ^ n → (0 < v → 256 ^ (n - 1) ≤ v) → (v = 0 → n = 0) → v < 18446744073709551616 → acc.length + n < 140737488355328 → ∀ b : Int, 247 ≤ b → b + (n : Int) < 256 → dragnetref02_Bytes.l0 (n + 1 + e) v (b :: acc) = some ((b + (n : Int)) :: (acc ++ leN n v)) := by
  induction n with
  | zero =>
    intro e v acc h0 h1 _ _ _ _ b hb hb2
    have : v = 0 := by simp at h1; omega
    subst this
    rw [show 0 + 1 + e = e + 1 by omega, dragnetref02_Bytes.l0, if_neg (by omega), leN, List.append_nil]
    simp
  | succ n ih =>
    intro e v acc h0 h1 h2 h3 h4 hl b hb hb2
    have hv : 0 < v := by
      rcases Int.lt_or_eq_of_le h0 with h | h
      · exact h
      · exact absurd (h3 h.symm) (by omega)
    have hq : IntKind.u64.wrap (Int.tdiv v 256) = v / 256 := by rw [wrapU64, Int.tdiv_eq_ediv_of_nonneg h0]; omega
    have hm : Int.tmod v 256 % 256 = v % 256 := by rw [Int.tmod_eq_emod_of_nonneg h0]; omega
    rw [show n + 1 + 1 + e = (n + 1 + e) + 1 by omega, dragnetref02_Bytes.l0, if_pos hv, if_pos (by rw [List.length_cons]; omega), Option.bind_some, if_pos (by simp; omega), hq, hm]
    have hset : ((b :: acc) ++ [v % 256]).set (0 : Int).toNat ((rd ((b :: acc) ++ [v % 256]) 0 + 1) % 256) = (b + 1) :: (acc ++ [v % 256]) := by
      have : rd ((b :: acc) ++ [v % 256]) 0 = b := rfl
      rw [this, show (b + 1) % 256 = b + 1 by omega]
      rfl
    rw [hset]
    have hp := h2 hv
    have hlow : 0 < v / 256 → 256 ^ (n - 1) ≤ v / 256 := by
      intro h5
      rcases n with _ | n
      · simp at h1
        omega
      · have : (256 : Int) ^ (n + 1 + 1 - 1) = 256 ^ (n + 1 - 1) * 256 := Int.pow_succ ..
        rw [this] at hp
        omega
    rw [ih e (v / 256) (acc ++ [v % 256]) (by omega) (by rw [Int.pow_succ] at h1; omega) hlow (fun h5 => by
      rcases n with _ | n
      · rfl
      · have h6 : (256 : Int) ^ (n + 1 + 1 - 1) = 256 ^ n * 256 := Int.pow_succ ..
        rw [h6] at hp
        have : 0 < (256 : Int) ^ n := Int.pow_pos (by decide)
        omega) (by omega) (by rw [List.length_append, List.length_singleton]; omega) (b + 1) (by omega) (by omega), leN, List.append_assoc]
    congr 2
    omega
theorem szN_high {v : Int} (h0 : 0 < v) (h : v < 18446744073709551616) : 256 ^ (szN v - 1) ≤ v := by
  have h1 : v.toNat < 2 ^ 64 := by omega
  obtain ⟨b1, b2, b3⟩ := Lib.bitLenAux_bounds 64 v.toNat h1 (by omega)
  have e : Lib.bitLen v.toNat = Lib.bitLenAux 64 v.toNat := rfl
  have h2 : 2 ^ (8 * (szN v - 1)) ≤ v.toNat := Nat.le_trans (Nat.pow_le_pow_right (by decide) (by unfold szN; rw [e]; omega)) b2
  rw [Nat.pow_mul] at h2
  have h3 : ((256 ^ (szN v - 1) : Nat) : Int) ≤ (v.toNat : Int) := Int.ofNat_le.2 h2
  rw [Int.toNat_of_nonneg (by omega), Int.natCast_pow] at h3
  exact h3
theorem rbytes_f {v : Int} (h0 : 0 ≤ v) (h : v < 18446744073709551616) {k : Nat} (hk : 10 ≤ k) : dragnetref02_Bytes.f k v = some (putB v) := by
  unfold dragnetref02_Bytes.f putB
  by_cases hv : v ≤ 247
  · rw [if_pos hv, if_pos hv]
    congr 2
    omega
  · obtain ⟨s1, s2, s3⟩ := szN_low (by omega : 0 < v) h
    obtain ⟨e, rfl⟩ : ∃ e, k = szN v + 1 + e := ⟨k - szN v - 1, by omega⟩
    rw [if_neg hv, if_neg hv, rbytes_l0 (szN v) e v [] h0 s1 (fun hp => szN_high hp h) (fun h5 => by omega) h (by simp; omega) 247 (by decide) (by omega), List.nil_append]
def stepR (p : List Int) (a : Nat) (bad : Bool) (most : Int) : Int × Nat × Bool := if bad = true then (0, a, true) else if (takeN (p.drop a)).2.2 ≠ 0 ∨ most < (takeN (p.drop a)).1 then (0, a + (takeN (p.drop a)).2.1.toNat, true) else ((takeN (p.drop a)).1, a + (takeN (p.drop a)).2.1.toNat, false)
theorem take_n {l : List Int} (hb : ByteL l) : 0 ≤ (takeN l).2.1 ∧ (takeN l).2.1 ≤ l.length ∧ 0 ≤ (takeN l).1 := by
  by_cases h : (takeN l).2.2 = 0
  · have := take_ok hb h
    omega
  · cases l with
    | nil => exact ⟨by decide, by decide, by decide⟩
    | cons b r =>
      rw [takeN_cons] at h ⊢
      by_cases c1 : b ≤ 247
      · rw [if_pos c1] at h
        exact absurd rfl h
      · rw [if_neg c1] at h ⊢
        by_cases c2 : (r.length : Int) < b - 247
        · rw [if_pos c2]
          exact ⟨by decide, by show (0 : Int) ≤ _; omega, by decide⟩
        · rw [if_neg c2] at h ⊢
          by_cases c3 : leV (r.take (b - 247).toNat) ≤ 247 ∨ (szN (leV (r.take (b - 247).toNat)) : Int) < b - 247
          · rw [if_pos c3]
            exact ⟨by decide, by show (0 : Int) ≤ _; omega, by decide⟩
          · rw [if_neg c3] at h
            exact absurd rfl h
theorem stepR_at {p : List Int} (hb : ByteL p) {a : Nat} (ha : a ≤ p.length) (bad : Bool) (most : Int) : (stepR p a bad most).2.1 ≤ p.length ∧ a ≤ (stepR p a bad most).2.1 := by
  have h := take_n (l := p.drop a) (fun x hx => hb x (List.mem_of_mem_drop hx))
  rw [List.length_drop] at h
  unfold stepR
  by_cases c1 : bad = true
  · rw [if_pos c1]
    exact ⟨ha, Nat.le_refl _⟩
  · rw [if_neg c1]
    by_cases c2 : (takeN (p.drop a)).2.2 ≠ 0 ∨ most < (takeN (p.drop a)).1
    · rw [if_pos c2]
      exact ⟨by show a + _ ≤ _; omega, by show a ≤ a + _; omega⟩
    · rw [if_neg c2]
      exact ⟨by show a + _ ≤ _; omega, by show a ≤ a + _; omega⟩
structure RX (wp W : World) (g6 g7 : Nat) (A : Option Addr) (c : Nat) (p : List Int) (a : Nat) (bad : Bool) (v : Value) (nx sq : Int) (acc : List S63) (ok : Nat → Prop) : Prop where
  B : Below wp.heap.size wp W
  c6 : W.heap[g6]? = some (.cells #[.slice A p.length c, .int .i64 (a : Int), .bool bad] 75 (0, 0))
  hC : Kd.C (Kd.int .u8) wp A p.length p
  hc : p.length ≤ c
  hb : ByteL p
  hl : p.length ≤ 16777216
  ha : a ≤ p.length
  c7 : W.heap[g7]? = some (.cells #[v, .int .i64 nx, .int .i64 sq] 27 (0, 0))
  hR : Kd.R k63 63 W wp.heap.size (fun k => (k ≠ g6 ∧ k ≠ g7) ∧ ok k) v acc
  o6 : wp.heap.size ≤ g6
  o7 : g6 < g7
section
variable {wp W W' : World} {g6 g7 g9 : Nat} {A : Option Addr} {c : Nat} {p : List Int} {a : Nat} {bad : Bool} {v : Value} {nx sq : Int} {acc : List S63} {ok : Nat → Prop} {most : Int}
theorem RX.vis (h : RX wp W g6 g7 A c p a bad v nx sq acc ok) : W.cell? ⟨g6, 2, none⟩ = some (.bool bad) ∧ W.cell? ⟨g7, 0, none⟩ = some v ∧ W.cell? ⟨g7, 1, none⟩ = some (.int .i64 nx) ∧ W.cell? ⟨g7, 2, none⟩ = some (.int .i64 sq) ∧ W.frozen? ⟨g7, 0, none⟩ = false ∧ W.frozen? ⟨g7, 1, none⟩ = false ∧ W.frozen? ⟨g7, 2, none⟩ = false :=
  ⟨(blk_cell h.c6 2).trans rfl, (blk_cell h.c7 0).trans rfl, (blk_cell h.c7 1).trans rfl, (blk_cell h.c7 2).trans rfl, blk_frozen h.c7 0, blk_frozen h.c7 1, blk_frozen h.c7 2⟩
theorem RX.take (h : RX wp W g6 g7 A c p a bad v nx sq acc ok) (h6 : W'.heap[g6]? = some (.cells #[.slice A p.length c, .int .i64 ((stepR p a bad most).2.1 : Int), .bool (stepR p a bad most).2.2] 75 (0, 0))) (hB : Below wp.heap.size wp W') (hk : Kept W W' (fun k => k = g6)) :
    RX wp W' g6 g7 A c p (stepR p a bad most).2.1 (stepR p a bad most).2.2 v nx sq acc ok := by
  have o7 := h.o7
  exact ⟨hB, h6, h.hC, h.hc, h.hb, h.hl, (stepR_at h.hb h.ha bad most).1, blk_kept h.c7 hk (fun e => by omega), Kd.R_kept h.hR hk (fun k hk2 e => hk2.1.1 e), h.o6, o7⟩
theorem RX.new (h : RX wp W g6 g7 A c p a bad v nx sq acc ok) (hb : Below W.heap.size W W') (hg : g9 = W.heap.size) : RX wp W' g6 g7 A c p a bad v nx sq acc (fun k => k ≠ g9) :=
  ⟨below_step h.B hb, blk_below h.c6 hb, h.hC, h.hc, h.hb, h.hl, h.ha, blk_below h.c7 hb, Kd.R_below (Kd.R_mono (Kd.R_bound h.hR) (fun k hk => ⟨hk.1.1, by have := hk.2.2.1; omega⟩)) hb, h.o6, h.o7⟩
theorem RX.lt7 (h : RX wp W g6 g7 A c p a bad v nx sq acc ok) : g7 < W.heap.size := blk_lt h.c7
theorem RX.far (h : RX wp W g6 g7 A c p a bad v nx sq acc (fun k => k ≠ g9)) (hg : g7 < g9) (j : Nat) (u : Value) : RX wp (W.setCell ⟨g9, j, none⟩ u) g6 g7 A c p a bad v nx sq acc (fun k => k ≠ g9) := by
  have o6 := h.o6
  have o7 := h.o7
  exact ⟨below_set h.B (by omega), blk_far h.c6 (show g6 ≠ g9 by omega) u, h.hC, h.hc, h.hb, h.hl, h.ha, blk_far h.c7 (show g7 ≠ g9 by omega) u, Kd.R_far h.hR (fun k hk => hk.2) u, o6, o7⟩
theorem RX.any (h : RX wp W g6 g7 A c p a bad v nx sq acc ok) : RX wp W g6 g7 A c p a bad v nx sq acc (fun _ => True) := ⟨h.B, h.c6, h.hC, h.hc, h.hb, h.hl, h.ha, h.c7, Kd.R_mono h.hR (fun k hk => ⟨hk.1, trivial⟩), h.o6, h.o7⟩
theorem RX.put (h : RX wp W g6 g7 A c p a bad v nx sq acc ok) (j : Nat) (u : Value) (nx' sq' : Int) (hs : (#[v, .int .i64 nx, .int .i64 sq] : Array Value).setIfInBounds j u = #[v, .int .i64 nx', .int .i64 sq']) : RX wp (W.setCell ⟨g7, j, none⟩ u) g6 g7 A c p a bad v nx' sq' acc ok := by
  have o6 := h.o6
  have o7 := h.o7
  exact ⟨below_set h.B (by omega), blk_far h.c6 (show g6 ≠ g7 by omega) u, h.hC, h.hc, h.hb, h.hl, h.ha, blk_put h.c7 j u hs, Kd.R_far h.hR (fun k hk => hk.1.2) u, o6, o7⟩
theorem RX.grown (h : RX wp W g6 g7 A c p a bad v nx sq acc ok) (hB : Below wp.heap.size wp W') (hg : W.grownBy W' none) : RX wp W' g6 g7 A c p a bad v nx sq acc ok :=
  ⟨hB, blk_grown h.c6 hg (fun e => by cases e), h.hC, h.hc, h.hb, h.hl, h.ha, blk_grown h.c7 hg (fun e => by cases e), Kd.R_grown h.hR hg (fun k _ e => by cases e), h.o6, h.o7⟩
theorem RX.row (h : RX wp W g6 g7 A c p a bad v nx sq acc ok) {v1 : Value} {acc1 : List S63} (hB : Below wp.heap.size wp W') (hg : W.grownBy W' v.ownBlock) (hR : Kd.R k63 63 W' wp.heap.size (fun k => (k ≠ g6 ∧ k ≠ g7) ∧ True) v1 acc1) : RX wp (W'.setCell ⟨g7, 0, none⟩ v1) g6 g7 A c p a bad v1 nx sq acc1 (fun _ => True) := by
  have o6 := h.o6
  have o7 := h.o7
  have h6 := blk_grown h.c6 hg (fun e => (h.hR.1 g6 e.symm).1.1 rfl)
  have h7 := blk_grown h.c7 hg (fun e => (h.hR.1 g7 e.symm).1.2 rfl)
  exact ⟨below_set hB (by omega), blk_far h6 (show g6 ≠ g7 by omega) v1, h.hC, h.hc, h.hb, h.hl, h.ha, blk_put h7 0 v1 rfl, Kd.R_far hR (fun k hk => hk.1.2) v1, o6, o7⟩
end
end Go.Proofs.YtdcifmonhaklcaaDoor.Q
