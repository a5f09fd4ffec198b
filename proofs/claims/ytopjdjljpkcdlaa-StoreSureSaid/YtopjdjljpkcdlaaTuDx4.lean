/- Walks: each Go function that is told here comes to what the plain function beside it says, wherever that one answers. Written by a program of this session (wip/tools/pr.sh), after the manner of print.sh. -/
import Derived.Test.YtopjdjljpkcdlaaTuDx0
import Derived.Test.YtopjdjljpkcdlaaTuDx2
namespace Go.Proofs.Ytopjdjljpkcdlaa.D
open Go.RowKit Go.Proofs.YtopjdjljpkcdlaaW.PrintWords Go.Proofs.YtopjdjljpkcdlaaW.PrintLast Go.Proofs.YtopjdjljpkcdlaaW.PrintMore
attribute [local go_sem] max2_int min2_int max_two min_two -- for this text's walks alone
set_option linter.unusedVariables false
set_option linter.unusedSimpArgs false
def dragnetref16_named.f (a0 : ByteArray) : Option (Bool) := if (a0.size : Int) ≥ 1 then (some (decide ((a0.size : Int) ≤ 32))) else (some false)
set_option maxHeartbeats 8000000 in
set_option maxRecDepth 100000 in
theorem dragnetref16_named.calls (a0 : ByteArray) (r : Bool) (w : World) (h : dragnetref16_named.f a0 = some r) :
    Calls Try.prog 37 #[.string a0] w fun e w' => e = .returned (.bool r) ∧ Drawn0 w w' := by
  have H : (if (a0.size : Int) ≥ 1 then (some (decide ((a0.size : Int) ≤ 32))) else (some false)) = some r := h
  clear h
  by_cases c2 : (a0.size : Int) ≥ 1
  · rw [if_pos c2] at H
    have c2b0 : decide (1 ≤ (a0.size : Int)) = true := decide_eq_true c2
    have c2b1 : decide (1 ≤ a0.size) = true := decide_eq_true (by omega)
    clear c2
    obtain rfl := Option.some.inj H
    go_enter Try.func37, Try.ntmps37
    go_wp2
    go_ret
    exact ⟨by first | rfl | (simp; done) | (simp [*]; done), by repeat (first | exact Drawn0.refl _ | apply Drawn0.step)⟩
  · rw [if_neg c2] at H
    have c2b0 : decide (1 ≤ (a0.size : Int)) = false := decide_eq_false c2
    have c2b1 : decide (1 ≤ a0.size) = false := decide_eq_false (by omega)
    clear c2
    obtain rfl := Option.some.inj H
    go_enter Try.func37, Try.ntmps37
    go_wp2
    go_ret
    exact ⟨by first | rfl | (simp; done) | (simp [*]; done), by repeat (first | exact Drawn0.refl _ | apply Drawn0.step)⟩
def totS (l : List S61) : Int := (l.map fun x => (x.f1.length : Int)).sum
def okF (l : List S61) (i : Nat) : Prop := (1 ≤ (rd_T61 l i).f0.size ∧ (rd_T61 l i).f0.size ≤ 32) ∧ 0 ≤ (rd_T61 l i).f2 ∧ (rd_T61 l i).f2 ≤ (rd_T61 l i).f1.length ∧ (0 < i → Go.Op.bytesLess (rd_T61 l ((i : Int) - 1)).f0.toList (rd_T61 l i).f0.toList = true) ∧ (rd_T61 l i).f1.length ≤ 67108864 ∧ totS (l.take i) ≤ 67108864
instance (l : List S61) (i : Nat) : Decidable (okF l i) := by unfold okF; exact inferInstance
def FormedR (room : Int) (l : List S61) : Prop := (∀ i, i < l.length → okF l i) ∧ 0 ≤ room ∧ room ≤ 67108864 ∧ l.length ≤ 256 ∧ totS l ≤ room
instance (room : Int) (l : List S61) : Decidable (FormedR room l) := by unfold FormedR; exact inferInstance
theorem tot_snoc (l : List S61) (i : Nat) (h : i < l.length) : totS (l.take (i + 1)) = totS (l.take i) + ((rd_T61 l (i : Int)).f1.length : Int) := by
  unfold totS rd_T61
  rw [List.take_succ_eq_append_getElem h, List.map_append, List.sum_append]
  simp [List.getD_eq_getElem?_getD, h]
set_option maxHeartbeats 800000 in
set_option maxRecDepth 100000 in
theorem find_cmp (x : S61) (v1 : Value) (n : ByteArray) (w : World) :
    Calls Try.prog 44 #[.agg #[.string x.f0, v1, .int .i64 x.f2], .string n] w fun e w' => e = .returned (.int .i64 (Lib.compareBytes x.f0.data.toList n.data.toList)) ∧ Below w.heap.size w w' := by
  have HB := Aside0.mk (Below.refl w.heap.size w)
  go_enter Try.func44, Try.ntmps44
  go_wp2_with (go_at_call 41; refine (strings_Compare.calls _ _ _ _ rfl).mono ?_; rintro e w' ⟨rfl, hd⟩)
  go_ret
  exact ⟨rfl, below_step (below_alloc HB.out _) hd.below⟩
def cmpS (a b : ByteArray) : Int := Lib.compareBytes a.data.toList b.data.toList
def Srt (l : List S61) : Prop := l.Pairwise (fun a b => cmpS a.f0 b.f0 < 0)
instance (l : List S61) : Decidable (Srt l) := inferInstanceAs (Decidable (l.Pairwise _))
def idxS (l : List S61) (n : ByteArray) : Nat := l.findIdx (fun x => !decide (cmpS x.f0 n < 0))
theorem cmpB_trans : ∀ a b c : List UInt8, Lib.compareBytes a b < 0 → Lib.compareBytes b c < 0 → Lib.compareBytes a c < 0
  | [], [], _, h, _ => by simp [Lib.compareBytes] at h
  | [], _ :: _, [], _, h => by simp [Lib.compareBytes] at h
  | [], _ :: _, _ :: _, _, _ => by simp [Lib.compareBytes]
  | _ :: _, [], _, h, _ => by simp [Lib.compareBytes] at h
  | _ :: _, _ :: _, [], _, h => by simp [Lib.compareBytes] at h
  | x :: a, y :: b, z :: c, h1, h2 => by
    unfold Lib.compareBytes at h1 h2 ⊢
    have t : ∀ p q : UInt8, p < q ↔ p.toNat < q.toNat := fun p q => UInt8.lt_iff_toNat_lt
    by_cases c1 : x < y
    · by_cases c2 : y < z
      · rw [if_pos ((t _ _).2 (Nat.lt_trans ((t _ _).1 c1) ((t _ _).1 c2)))]
        decide
      · rw [if_neg c2] at h2
        by_cases c3 : z < y
        · rw [if_pos c3] at h2
          exact absurd h2 (by decide)
        · have e : y = z := by
            apply UInt8.toNat_inj.1
            have := mt (t y z).2 c2
            have := mt (t z y).2 c3
            omega
          subst e
          rw [if_pos c1]
          decide
    · rw [if_neg c1] at h1
      by_cases c3 : y < x
      · rw [if_pos c3] at h1
        exact absurd h1 (by decide)
      · have e : x = y := by
          apply UInt8.toNat_inj.1
          have := mt (t x y).2 c1
          have := mt (t y x).2 c3
          omega
        subst e
        rw [if_neg c1] at h1
        by_cases c2 : x < z
        · rw [if_pos c2]
          decide
        · rw [if_neg c2] at h2 ⊢
          by_cases c4 : z < x
          · rw [if_pos c4] at h2
            exact absurd h2 (by decide)
          · rw [if_neg c4] at h2 ⊢
            exact cmpB_trans a b c h1 h2
theorem srt_low {l : List S61} (h : Srt l) (n : ByteArray) {a b : Nat} (hab : a ≤ b) (hb : b < l.length) (hc : cmpS (rd_T61 l b).f0 n < 0) : cmpS (rd_T61 l a).f0 n < 0 := by
  rcases Nat.lt_or_eq_of_le hab with hlt | rfl
  · have h1 := List.pairwise_iff_getElem.1 h a b (by omega) hb hlt
    have ea : rd_T61 l (a : Int) = l[a]'(by omega) := by simp [rd_T61, List.getD_eq_getElem?_getD, (show a < l.length by omega)]
    have eb : rd_T61 l (b : Int) = l[b] := by simp [rd_T61, List.getD_eq_getElem?_getD, hb]
    rw [eb] at hc
    rw [ea]
    exact cmpB_trans _ _ _ h1 hc
  · exact hc
theorem idx_le (l : List S61) (n : ByteArray) : idxS l n ≤ l.length := List.findIdx_le_length
theorem idx_low {l : List S61} (h : Srt l) (n : ByteArray) {b : Nat} (hb : b < l.length) (hc : cmpS (rd_T61 l b).f0 n < 0) : b + 1 ≤ idxS l n := by
  apply Nat.succ_le_of_lt
  refine Nat.lt_of_not_le fun hle => ?_
  have hi : idxS l n < l.length := Nat.lt_of_le_of_lt hle hb
  have h1 := List.findIdx_getElem (xs := l) (p := fun x : S61 => !decide (cmpS x.f0 n < 0)) (w := hi)
  have h2 := srt_low h n hle hb hc
  have e : rd_T61 l ((idxS l n : Nat) : Int) = l[idxS l n] := by simp [rd_T61, List.getD_eq_getElem?_getD, hi]
  rw [e] at h2
  simp only [Bool.not_eq_true', decide_eq_false_iff_not] at h1
  exact h1 h2
theorem idx_high (l : List S61) (n : ByteArray) {b : Nat} (hb : b < l.length) (hc : ¬ cmpS (rd_T61 l b).f0 n < 0) : idxS l n ≤ b := by
  refine Nat.le_of_not_lt fun hlt => ?_
  have h1 := List.not_of_lt_findIdx (xs := l) (p := fun x : S61 => !decide (cmpS x.f0 n < 0)) hlt
  have e : rd_T61 l (b : Int) = l[b] := by simp [rd_T61, List.getD_eq_getElem?_getD, hb]
  rw [e] at hc
  simp [hc] at h1
def foundS (l : List S61) (n : ByteArray) : Bool := decide (idxS l n < l.length) && (cmpS (rd_T61 l (idxS l n)).f0 n == 0)
set_option maxHeartbeats 1600000 in
set_option maxRecDepth 100000 in
theorem bsearch_calls (A : Option Addr) (c : Nat) (l : List S61) (n : ByteArray) (w : World) (hr : Kd.C k61 w A l.length l) (hs : Srt l) (hl : l.length < 4611686018427387904) :
    Calls Try.prog 43 #[.slice A l.length c, .string n, .func (.func 44) #[] #[]] w fun e w' => e = .returned (.tuple #[.int .i64 (idxS l n), .bool (foundS l n)]) ∧ Below w.heap.size w w' := by
  have HR := Aside0.mk hr
  have HS := Aside0.mk hs
  have HB := Aside0.mk (Below.refl w.heap.size w)
  have HI := Aside0.mk (idx_le l n)
  clear hr hs
  go_enter Try.func43, Try.ntmps43
  go_wp2
  go_loopw [9, 10] (fun v9 v10 w' => ∃ i j : Nat, v9 = .int .i64 i ∧ v10 = .int .i64 j ∧ i ≤ idxS l n ∧ idxS l n ≤ j ∧ j ≤ l.length ∧ Aside0 (Below w.heap.size w w')) (fun v9 v10 _ => (intOf v10).toNat - (intOf v9).toNat)
  case atStart => exact ⟨0, l.length, rfl, rfl, Nat.zero_le _, HI.out, Nat.le_refl _, HB⟩
  case round =>
    clear HB
    obtain ⟨i, j, rfl, rfl, hi, hj, hjl, HB⟩ := hrel
    by_cases c1 : i < j
    · have hh : (i + j) / 2 < l.length := by omega
      have c1i : (i : Int) < j := by omega
      obtain ⟨ad, A1, c1', rfl, hx0, hx1, hx2, hl1, hi1⟩ := at_T61 HR.out (((i + j) / 2 : Nat) : Int) (by omega) (by omega)
      clear hl1 hi1
      replace hx0 := (HB.out.cell (World.block_lt_of_cell? w _ hx0)).trans hx0
      replace hx1 := (HB.out.cell (World.block_lt_of_cell? w _ hx1)).trans hx1
      replace hx2 := (HB.out.cell (World.block_lt_of_cell? w _ hx2)).trans hx2
      rw [Int.toNat_natCast] at hx0 hx1 hx2
      have hlow := Aside0.mk (fun h => idx_low HS.out n (b := (i + j) / 2) hh h)
      have hhigh := Aside0.mk (fun h => idx_high l n (b := (i + j) / 2) hh h)
      generalize rd_T61 l (((i + j) / 2 : Nat) : Int) = x at *
      by_cases c2 : cmpS x.f0 n < 0
      · have c2i : Lib.compareBytes x.f0.data.toList n.data.toList < 0 := c2
        have c2b := decide_eq_true c2i
        go_wp2_with (go_at_call 44; refine (find_cmp x _ n _).mono ?_; rintro e w' ⟨rfl, hd⟩; have HB2 := Aside0.mk (below_step HB.out hd); clear hd)
        go_roundw
        case rel => exact ⟨(i + j) / 2 + 1, j, by first | go_num | (congr 1; omega), rfl, hlow.out c2, hj, hjl, HB2⟩
        case measure => simp [intOf]; omega
      · have c2i : ¬ Lib.compareBytes x.f0.data.toList n.data.toList < 0 := c2
        have c2b := decide_eq_false c2i
        go_wp2_with (go_at_call 44; refine (find_cmp x _ n _).mono ?_; rintro e w' ⟨rfl, hd⟩; have HB2 := Aside0.mk (below_step HB.out hd); clear hd)
        go_roundw
        case rel => exact ⟨i, (i + j) / 2, rfl, by first | go_num | (congr 1; omega), hi, hhigh.out c2, by omega, HB2⟩
        case measure => simp [intOf]; omega
    · have EI := Aside0.mk (show i = idxS l n by omega)
      have hj' := hj
      clear hi hj hj'
      by_cases c3 : i < l.length
      · have c3i : (i : Int) < l.length := by omega
        obtain ⟨ad, A1, c1', rfl, hx0, hx1, hx2, hl1, hi1⟩ := at_T61 HR.out (i : Int) (by omega) (by omega)
        clear hl1 hi1
        replace hx0 := (HB.out.cell (World.block_lt_of_cell? w _ hx0)).trans hx0
        replace hx1 := (HB.out.cell (World.block_lt_of_cell? w _ hx1)).trans hx1
        replace hx2 := (HB.out.cell (World.block_lt_of_cell? w _ hx2)).trans hx2
        rw [Int.toNat_natCast] at hx0 hx1 hx2
        have hf : foundS l n = (cmpS (rd_T61 l (i : Int)).f0 n == 0) := by unfold foundS; rw [← EI.out, decide_eq_true c3, Bool.true_and]
        have HF := Aside0.mk hf
        clear hf
        generalize rd_T61 l (i : Int) = x at *
        go_wp2_with (go_at_call 44; refine (find_cmp x _ n _).mono ?_; rintro e w' ⟨rfl, hd⟩; have HB2 := Aside0.mk (below_step HB.out hd); clear hd)
        go_ret2
        exact ⟨by rw [HF.out, ← EI.out]; rfl, HB2.out⟩
      · have hf : foundS l n = false := by unfold foundS; rw [← EI.out, decide_eq_false c3, Bool.false_and]
        have HF := Aside0.mk hf
        clear hf
        go_wp2
        go_ret2
        exact ⟨by rw [HF.out, ← EI.out]; rfl, HB.out⟩
def store_find.f (l0 : List S61) (a1 : ByteArray) : Option (Int × Bool) := if l0.length < 4611686018427387904 ∧ Srt l0 then some ((idxS l0 a1 : Int), foundS l0 a1) else none
set_option maxHeartbeats 800000 in
set_option maxRecDepth 100000 in
theorem store_find.calls (A0 : Option Addr) (c0 : Nat) (l0 : List S61) (a1 : ByteArray) (r1 : Int) (r2 : Bool) (w : World) (hr0 : Kd.C k61 w A0 l0.length l0) (hc0 : l0.length ≤ c0) (h : store_find.f l0 a1 = some (r1, r2)) :
    Calls Try.prog 32 #[.slice A0 l0.length c0, .string a1] w fun e w' => e = .returned (.tuple #[.int .i64 r1, .bool r2]) ∧ Below w.heap.size w w' := by
  unfold store_find.f at h
  by_cases hg : l0.length < 4611686018427387904 ∧ Srt l0
  · rw [if_pos hg] at h
    simp only [Option.some.injEq, Prod.mk.injEq] at h
    obtain ⟨rfl, rfl⟩ := h
    have HR := Aside0.mk hr0
    have HG := Aside0.mk hg
    clear hr0 hg
    go_enter Try.func32, Try.ntmps32
    go_wp2_with (go_at_call 43; refine (bsearch_calls A0 _ l0 a1 _ HR.out HG.out.2 HG.out.1).mono ?_; rintro e w' ⟨rfl, hb⟩; have HB2 := Aside0.mk hb; clear hb)
    go_ret2
    exact ⟨rfl, HB2.out⟩
  · rw [if_neg hg] at h
    cases h
end Go.Proofs.Ytopjdjljpkcdlaa.D
