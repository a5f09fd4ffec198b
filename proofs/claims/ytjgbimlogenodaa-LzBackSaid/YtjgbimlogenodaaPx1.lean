/- Walks: each Go function that is told here comes to what the plain function beside it says, wherever that one answers. Written by a program of this session (wip/tools/pr.sh), after the manner of print.sh. -/
import Derived.Test.YtjgbimlogenodaaPx0
namespace Go.Proofs.Ytjgbimlogenodaa.P
open Go.RowKit Go.Proofs.YtjgbimlogenodaaW.PrintWords Go.Proofs.YtjgbimlogenodaaW.PrintLast Go.Proofs.YtjgbimlogenodaaW.PrintMore
attribute [local go_sem] max2_int min2_int max_two min_two max_three min_three max_four min_four   -- for this text's walks alone
set_option linter.unusedVariables false
set_option linter.unusedSimpArgs false

/-! ### lz_key: function 15 -/
def lz_key.f (l0 : List Int) : Option (Int) := if 0 < (l0.length : Int) then (if 1 < (l0.length : Int) then (if 2 < (l0.length : Int) then (if 3 < (l0.length : Int) then (some (Go.bits .or .u32 (Go.bits .or .u32 (Go.bits .or .u32 ((rd l0 0) % 4294967296) ((((rd l0 1) % 4294967296) * 256) % 4294967296)) ((((rd l0 2) % 4294967296) * 65536) % 4294967296)) ((((rd l0 3) % 4294967296) * 16777216) % 4294967296))) else (none)) else (none)) else (none)) else (none)
set_option maxHeartbeats 8000000 in
set_option maxRecDepth 100000 in
theorem lz_key.calls (A0 : Option Addr) (c0 : Nat) (l0 : List Int) (r : Int) (w : World) (hr0 : Kd.C (Kd.int .u8) w A0 l0.length l0) (hc0 : l0.length ≤ c0) (h : lz_key.f l0 = some r) :
    Calls Try.prog 15 #[.slice A0 l0.length c0] w fun e w' => e = .returned (.int .u32 r) ∧ Drawn0 w w' := by
  have HR0 := Aside0.mk hr0
  have HC0 := Aside0.mk hc0
  clear hr0 hc0
  have H : (if 0 < (l0.length : Int) then (if 1 < (l0.length : Int) then (if 2 < (l0.length : Int) then (if 3 < (l0.length : Int) then (some (Go.bits .or .u32 (Go.bits .or .u32 (Go.bits .or .u32 ((rd l0 0) % 4294967296) ((((rd l0 1) % 4294967296) * 256) % 4294967296)) ((((rd l0 2) % 4294967296) * 65536) % 4294967296)) ((((rd l0 3) % 4294967296) * 16777216) % 4294967296))) else (none)) else (none)) else (none)) else (none)) = some r := h
  clear h
  by_cases c2 : 0 < (l0.length : Int)
  · rw [if_pos c2] at H
    have c2b0 : decide (0 < (l0.length : Int)) = true := decide_eq_true c2
    have c2b1 : decide (0 < l0.length) = true := decide_eq_true (by omega)
    clear c2
    by_cases c3 : 1 < (l0.length : Int)
    · rw [if_pos c3] at H
      have c3b0 : decide (1 < (l0.length : Int)) = true := decide_eq_true c3
      have c3b1 : decide (1 < l0.length) = true := decide_eq_true (by omega)
      clear c3
      by_cases c4 : 2 < (l0.length : Int)
      · rw [if_pos c4] at H
        have c4b0 : decide (2 < (l0.length : Int)) = true := decide_eq_true c4
        have c4b1 : decide (2 < l0.length) = true := decide_eq_true (by omega)
        clear c4
        by_cases c5 : 3 < (l0.length : Int)
        · rw [if_pos c5] at H
          have c5b0 : decide (3 < (l0.length : Int)) = true := decide_eq_true c5
          have c5b1 : decide (3 < l0.length) = true := decide_eq_true (by omega)
          clear c5
          obtain rfl := Option.some.inj H
          have p101 : 0 ≤ (0 : Int) := (by omega)
          have q101 : 0 < (l0.length : Int) := of_decide_eq_true (by first | (with_reducible assumption) | assumption)
          obtain ⟨ad101, e101, hx101_0⟩ := Kd.at_int HR0.out 0 p101 q101
          cases e101
          have qi101 : (0 < l0.length) = True := eq_true (by omega)
          (try rw [show ((0 : Int)).toNat = 0 from rfl] at hx101_0)
          (try rw [Addr.add_zero'] at hx101_0)
          replace p101 := eq_true p101
          replace q101 := eq_true q101
          have p102 : 0 ≤ (1 : Int) := (by omega)
          have q102 : 1 < (l0.length : Int) := of_decide_eq_true (by first | (with_reducible assumption) | assumption)
          obtain ⟨ad102, e102, hx102_0⟩ := Kd.at_int HR0.out 1 p102 q102
          obtain rfl : ad101 = ad102 := (by injection e102)
          (try simp only [show (1 : Int).toNat = 1 from rfl, Nat.reduceMul, Nat.reduceEqDiff, Go.Addr.add, ↓reduceIte] at hx102_0)
          have qi102 : (1 < l0.length) = True := eq_true (by omega)
          (try rw [show ((1 : Int)).toNat = 1 from rfl] at hx102_0)
          replace p102 := eq_true p102
          replace q102 := eq_true q102
          have p103 : 0 ≤ (2 : Int) := (by omega)
          have q103 : 2 < (l0.length : Int) := of_decide_eq_true (by first | (with_reducible assumption) | assumption)
          obtain ⟨ad103, e103, hx103_0⟩ := Kd.at_int HR0.out 2 p103 q103
          obtain rfl : ad101 = ad103 := (by injection e103)
          (try simp only [show (2 : Int).toNat = 2 from rfl, Nat.reduceMul, Nat.reduceEqDiff, Go.Addr.add, ↓reduceIte] at hx103_0)
          have qi103 : (2 < l0.length) = True := eq_true (by omega)
          (try rw [show ((2 : Int)).toNat = 2 from rfl] at hx103_0)
          replace p103 := eq_true p103
          replace q103 := eq_true q103
          have p104 : 0 ≤ (3 : Int) := (by omega)
          have q104 : 3 < (l0.length : Int) := of_decide_eq_true (by first | (with_reducible assumption) | assumption)
          obtain ⟨ad104, e104, hx104_0⟩ := Kd.at_int HR0.out 3 p104 q104
          obtain rfl : ad101 = ad104 := (by injection e104)
          (try simp only [show (3 : Int).toNat = 3 from rfl, Nat.reduceMul, Nat.reduceEqDiff, Go.Addr.add, ↓reduceIte] at hx104_0)
          have qi104 : (3 < l0.length) = True := eq_true (by omega)
          (try rw [show ((3 : Int)).toNat = 3 from rfl] at hx104_0)
          replace p104 := eq_true p104
          replace q104 := eq_true q104
          go_enter Try.func15, Try.ntmps15
          go_wp2
          repeat (go_quiet (fail); try go_wp2)
          go_ret
          exact ⟨by first | rfl | (simp; done) | (simp [*]; done), by repeat (first | exact Drawn0.refl _ | apply Drawn0.step)⟩
        · rw [if_neg c5] at H
          exact absurd H (by simp)
      · rw [if_neg c4] at H
        exact absurd H (by simp)
    · rw [if_neg c3] at H
      exact absurd H (by simp)
  · rw [if_neg c2] at H
    exact absurd H (by simp)

/-! ### lz_Unpack: function 13 -/
/-! A scope with several labels: what holds where a label's way ends as the whole is asked to end. -/
section
variable {P : Program} {Q : Exit → Act → World → Prop} {a : Act} {w : World} {c : Code}
def Jumps (D : Nat → Act → World → Prop) (Q : Exit → Act → World → Prop) : Exit → Act → World → Prop
  | .goto l, a, w => D l a w
  | e, a, w => Q e a w
@[go_sem] theorem jumps_normal {D : Nat → Act → World → Prop} : Jumps D Q .normal a w = Q .normal a w := rfl
@[go_sem] theorem jumps_exit {D : Nat → Act → World → Prop} (id : Nat) : Jumps D Q (.exit id) a w = Q (.exit id) a w := rfl
@[go_sem] theorem jumps_ret {D : Nat → Act → World → Prop} : Jumps D Q .ret a w = Q .ret a w := rfl
@[go_sem] theorem jumps_panic {D : Nat → Act → World → Prop} (ch : List PanicEntry) : Jumps D Q (.panic ch) a w = Q (.panic ch) a w := rfl
@[go_sem] theorem jumps_goto {D : Nat → Act → World → Prop} (l : Nat) : Jumps D Q (.goto l) a w = D l a w := rfl
/-- D l n: what holds at a jump to label l, n passes to go at most; the first way may fall into a label. -/
theorem wp_scope_rank (D : Nat → Nat → Act → World → Prop)
    (hp : ∀ l n a w, D l n a w → ∃ c1, findLabel c l = some (Code.skip.seq c1) ∧ ∀ D' : Nat → Act → World → Prop, (∀ l n' a w, n' < n → D l n' a w → D' l a w) → c1.wp P (Jumps D' Q) a w)
    (first : (∀ l n a w c1, D l n a w → findLabel c l = some (Code.skip.seq c1) → c1.wp P (Jumps (fun l a w => ∃ n, D l n a w) Q) a w) → c.wp P (Jumps (fun l a w => ∃ n, D l n a w) Q) a w) : (Code.scope c).wp P Q a w := by
  intro b k cs
  have key : ∀ n l a w, D l n a w → ∃ rest, findLabel c l = some rest ∧ ∃ e a' w', Q e a' w' ∧ Arrives P (lone (b.at a (.code rest :: .inScope c :: k)) cs w) b k cs e a' w' := by
    intro n
    induction n using Nat.strongRecOn with
    | _ n ih =>
      intro l a w hD
      obtain ⟨c1, hf, hw⟩ := hp l n a w hD
      refine ⟨_, hf, ?_⟩
      have hw := wp_seq (y := c1) (wp_skip (P := P) (Q := Exit.then (c1.wp P _) _) (hw (fun l a w => ∃ n', n' < n ∧ D l n' a w) (fun l n' a w h hD => ⟨n', h, hD⟩)))
      obtain ⟨e, a₁, w₁, hq, harr⟩ := hw b (.inScope c :: k) cs
      cases e with
      | normal => exact ⟨.normal, a₁, w₁, hq, Steps.trans harr (.one step_inScope)⟩
      | exit id => exact ⟨.exit id, a₁, w₁, hq, fun k' hk => harr k' (by simp [exitTo, hk])⟩
      | goto l' =>
        obtain ⟨n', hn, hD'⟩ := hq
        obtain ⟨rest', hf', e₂, a₂, w₂, hq₂, harr₂⟩ := ih n' hn l' a₁ w₁ hD'
        exact ⟨e₂, a₂, w₂, hq₂, .of_steps (harr _ (by simp [gotoIn, hf'])) harr₂⟩
      | ret => exact ⟨_, a₁, w₁, hq, harr⟩
      | panic ch => exact ⟨_, a₁, w₁, hq, harr⟩
      | outgrown => exact ⟨_, a₁, w₁, hq, harr⟩
  have fall : ∀ l n a w c1, D l n a w → findLabel c l = some (Code.skip.seq c1) → c1.wp P (Jumps (fun l a w => ∃ n, D l n a w) Q) a w := by
    intro l n a w c1 hD hf
    obtain ⟨c2, hf2, hw⟩ := hp l n a w hD
    rw [hf] at hf2
    injection hf2 with hf2
    injection hf2 with _ hf2
    subst hf2
    exact hw _ (fun l n' a w _ hD => ⟨n', hD⟩)
  obtain ⟨e, a₁, w₁, hq, harr⟩ := first fall b (.inScope c :: k) cs
  cases e with
  | normal => exact ⟨.normal, a₁, w₁, hq, .head step_scope (Steps.trans harr (.one step_inScope))⟩
  | exit id => exact ⟨.exit id, a₁, w₁, hq, fun k' hk => .head step_scope (harr k' (by simp [exitTo, hk]))⟩
  | goto l' =>
    obtain ⟨n, hD⟩ := hq
    obtain ⟨rest', hf', e₂, a₂, w₂, hq₂, harr₂⟩ := key n l' a₁ w₁ hD
    exact ⟨e₂, a₂, w₂, hq₂, .of_steps (.head step_scope (harr _ (by simp [gotoIn, hf']))) harr₂⟩
  | ret => exact ⟨_, a₁, w₁, hq, .of_steps (.one step_scope) harr⟩
  | panic ch => exact ⟨_, a₁, w₁, hq, .of_steps (.one step_scope) harr⟩
  | outgrown => exact ⟨_, a₁, w₁, hq, .of_steps (.one step_scope) harr⟩
end
def lzCnt : List Int → Int → Option (Int × List Int)
  | [], _ => none
  | c :: t, n => if c = 255 then lzCnt t (n + c) else some (n + c, t)
def Bts (l : List Int) : Prop := ∀ c ∈ l, 0 ≤ c ∧ c ≤ 255
instance (l : List Int) : Decidable (Bts l) := inferInstanceAs (Decidable (∀ c ∈ l, 0 ≤ c ∧ c ≤ 255))
theorem Bts.drop {l : List Int} (h : Bts l) (n : Nat) : Bts (l.drop n) := fun c hc => h c (List.mem_of_mem_drop hc)
theorem Bts.take {l : List Int} (h : Bts l) (n : Nat) : Bts (l.take n) := fun c hc => h c (List.mem_of_mem_take hc)
theorem Bts.at {l : List Int} (h : Bts l) (i : Int) (h0 : 0 ≤ i) (h1 : i < l.length) : 0 ≤ rd l i ∧ rd l i ≤ 255 := by
  unfold rd
  rw [List.getD_eq_getElem?_getD, List.getElem?_eq_getElem (by omega)]
  exact h _ (List.getElem_mem _)
theorem drop_rd (l : List Int) (k : Nat) (h : k < l.length) : l.drop k = rd l k :: l.drop (k + 1) := by
  rw [List.drop_eq_getElem_cons h]
  simp [rd, List.getD_eq_getElem?_getD, h]
/-- The slice that begins at m. -/
def offA (A : Option Addr) (c m : Nat) : Option Addr := if c = m then A else A.map (·.add m)
set_option maxHeartbeats 1600000 in
set_option maxRecDepth 100000 in
theorem lz_count_calls (A0 : Option Addr) (c0 : Nat) (l0 : List Int) (w : World) (hr0 : Kd.C (Kd.int .u8) w A0 l0.length l0) (hc0 : l0.length ≤ c0) (hB : Bts l0) (hl : l0.length < 140737488355328) :
    Calls Try.prog 20 #[.slice A0 l0.length c0] w fun e w' => Drawn0 w w' ∧ ((lzCnt l0 15 = none ∧ ∃ x v, e = .returned (.tuple #[.int .i64 x, v, .bool false])) ∨ ∃ n A1 c1 l1, lzCnt l0 15 = some (n, l1) ∧ 0 ≤ n ∧ n + 255 * l1.length ≤ 15 + 255 * l0.length ∧ (∃ m, l1 = l0.drop m) ∧ l1.length < l0.length ∧ e = .returned (.tuple #[.int .i64 n, .slice A1 l1.length c1, .bool true]) ∧ (∀ W, Kd.C (Kd.int .u8) W A0 l0.length l0 → Kd.C (Kd.int .u8) W A1 l1.length l1) ∧ l1.length ≤ c1) := by
  have HR := Aside0.mk hr0
  have HC := Aside0.mk hc0
  have HL := Aside0.mk hl
  have HBT := Aside0.mk hB
  clear hr0 hB hl hc0
  go_enter Try.func20, Try.ntmps20
  go_wp2
  go_loop [5, 10] (fun n i => ∃ k : Nat, k ≤ l0.length ∧ i = .int .i64 k ∧ ∃ z : Int, n = .int .i64 z ∧ Aside0 (lzCnt l0 15 = lzCnt (l0.drop k) z) ∧ 0 ≤ z ∧ z + 255 * (l0.drop k).length ≤ 15 + 255 * l0.length) (fun _ i => l0.length - (intOf i).toNat)
  case atStart => exact ⟨0, Nat.zero_le _, rfl, 15, rfl, ⟨rfl⟩, by omega, by simp⟩
  case round =>
    obtain ⟨k, hk, rfl, z, rfl, HZ, hz0, hz1⟩ := hrel
    by_cases hlt : k < l0.length
    · have hs := drop_rd l0 k hlt
      have hlen : (l0.drop k).length = (l0.drop (k+1)).length + 1 := by rw [hs, List.length_cons]
      have hb := HBT.out.at k (by omega) (by omega)
      have HZ' := HZ.out
      rw [hs, lzCnt] at HZ'
      have HZ2 := Aside0.mk HZ'
      clear HZ HZ' hs
      obtain ⟨ad, rfl, hx⟩ := Kd.at_int HR.out k (by omega) (by omega)
      rw [Int.toNat_natCast] at hx
      have hll := HL.out
      generalize rd l0 k = c at *
      by_cases h255 : c = 255
      · subst h255
        rw [if_pos rfl] at HZ2
        go_wp2
        go_round
        case rel => exact ⟨k + 1, by omega, by go_num, z + 255, by go_num, HZ2, by omega, by omega⟩
        case measure => simp [intOf]; omega
      · rw [if_neg h255] at HZ2
        obtain ⟨i0, hi0, _, hsz0, _⟩ := info_parts info5
        obtain ⟨A1, hcut, hA1, hC1⟩ := print_drop_of (P := Try.prog) (Value.int .u8) 0 22 5 .i64 Try.underlying22 hi0 hsz0 (some ad) c0 l0 ((k : Int) + 1) (by omega) (by omega) HC.out
        have HA1 := Aside0.mk hA1
        have HC1 := Aside0.mk hC1
        clear hA1 hC1 hi0 hsz0
        go_wp2
        repeat (go_quiet (fail); try go_wp2)
        go_ret3
        have e1 : ((k : Int) + 1).toNat = k + 1 := by omega
        simp only [e1] at HA1 HC1 ⊢
        refine ⟨⟨⟨_, rfl⟩⟩, .inr ⟨z + c, A1, c0 - (k + 1), l0.drop (k + 1), HZ2.out, by omega, by omega, ⟨_, rfl⟩, by rw [List.length_drop]; omega, by rw [List.length_drop]; rfl, fun W h => Kd.C_of_reads (h1 := fun _ => rfl) (HA1.out W (Kd.reads_of_C h)), HC1.out⟩⟩
    · go_wp2
      go_ret3
      obtain rfl : k = l0.length := by omega
      refine ⟨Drawn0.refl _, .inl ⟨by rw [HZ.out, List.drop_length]; rfl, _, _, rfl⟩⟩
theorem V_clip {e c : Nat} {W : World} {base : Nat} {A : Option Addr} {xs : List Int} (h : (Kd.int .u8).R e W base (fun _ => True) (.slice A xs.length c) xs) : Kd.V (Kd.int .u8) e W base (fun k_ => base ≤ k_) (.slice A xs.length xs.length) xs := by
  have hb := (Kd.R_bound h)
  refine Kd.V_mk (Nat.le_refl _) (fun W' hW => ?_)
  have h2 := Kd.R_move (w1 := W') hb (fun k hk => hW k hk.2.1 hk.2.2.1)
  exact (Kd.R_reads' h2).2.2
set_option maxHeartbeats 800000 in
set_option maxRecDepth 100000 in
theorem clip_calls (A : Option Addr) (n c : Nat) (w : World) (hnc : n ≤ c) (hn : n < 9223372036854775807) :
    Calls Try.prog 21 #[.slice A n c] w fun e w' => e = .returned (.slice A n n) ∧ w' = w := by
  obtain ⟨i0, hi0, _, hsz0, _⟩ := info_parts info5
  have hel : Try.prog.elem 22 = 5 := by simp [Program.elem, Try.underlying22]
  have hu : Try.prog.underlying 22 = some (.slice (Try.prog.elem 22)) := by rw [hel]; exact Try.underlying22
  have hcut : ∀ W : World, (Instr.slice 22 (.slice A n c) none (some (.int .i64 n)) (some (.int .i64 n))).run Try.prog W = .ok (.slice A n n) W := by
    intro W
    rw [run_slice_hm W 22 A n c hu .i64 .i64 n n (by omega) (by omega) (by omega), hel]
    have ha : (A.map fun x => x.add 0) = A := by cases A <;> simp [Addr.add]
    simp [sizeOf, typeInfo, hi0, hsz0, sliced, Result.andThen, ha]
  clear hi0 hsz0 hel hu
  go_enter Try.func21, Try.ntmps21
  go_wp2
  go_ret
  exact ⟨rfl, rfl⟩
theorem R_nil_of {α : Type} {d : Kd α} {e : Nat} {w : World} {base : Nat} {ok : Nat → Prop} {A : Option Addr} {n c : Nat} {xs : List α} (h : d.R e w base ok (.slice A n c) xs) : d.C w A xs.length xs := (Kd.R_reads' h).2.2
def lzRep (d : Int) : Nat → List Int → List Int
  | 0, out => out
  | n + 1, out => lzRep d n (out ++ [rd out ((out.length : Int) - d)])
theorem lzRep_len (d : Int) : ∀ n out, (lzRep d n out).length = out.length + n
  | 0, out => rfl
  | n + 1, out => by rw [lzRep, lzRep_len]; simp; omega
/-- The rest of a part, from its back to its front; K: the next part. -/
def lzD (K : List Int → List Int → List Int × Int) (most m d : Int) (rest out : List Int) : List Int × Int :=
  if m + 4 > most - out.length then ([], 5) else K rest (lzRep d (m + 4).toNat out)
def lzDist (rest : List Int) : Int := rd rest 0 + 256 * rd rest 1
theorem bits_or_swap (k : IntKind) (x y : Int) : Go.bits .or k x y = Go.bits .or k y x := by
  show k.wrap ((BitVec.ofInt k.bits x ||| BitVec.ofInt k.bits y).toNat : Int) = k.wrap ((BitVec.ofInt k.bits y ||| BitVec.ofInt k.bits x).toNat : Int)
  rw [BitVec.or_comm]
theorem wraps_i64 (n : Int) (h₀ : 0 ≤ n) (h₁ : n < 2 ^ 62) : IntKind.i64.wrap n = n := by rw [IntKind.wrap_i64]; omega
theorem lz_or (x y : Int) (hx : 0 ≤ x ∧ x ≤ 255) (hy : 0 ≤ y ∧ y ≤ 255) : Go.bits .or .i64 x (y * 256) = x + 256 * y := by
  rw [bits_or_swap, bits_join .i64 62 (by decide) wraps_i64 8 (y * 256) x (by omega) (by omega) (by omega) (by omega) (by omega) (by omega)]
  omega
def lzC (K : List Int → List Int → List Int × Int) (most m : Int) (rest out : List Int) : List Int × Int :=
  if rest.length = 0 then (if m ≠ 0 then ([], 2) else (out, 0))
  else if rest.length < 2 then ([], 2)
  else if lzDist rest = 0 ∨ lzDist rest > out.length then ([], 2)
  else if m = 15 then (match lzCnt (rest.drop 2) 15 with | none => ([], 2) | some (m', rest') => lzD K most m' (lzDist rest) rest' out)
  else lzD K most m (lzDist rest) (rest.drop 2) out
def lzB (K : List Int → List Int → List Int × Int) (most n m : Int) (rest out : List Int) : List Int × Int :=
  if n > most - out.length then ([], 5) else if n > rest.length then ([], 2)
  else lzC K most m (rest.drop n.toNat) (out ++ rest.take n.toNat)
def lzA (K : List Int → List Int → List Int × Int) (most : Int) (rest out : List Int) : List Int × Int :=
  if rest.length = 0 then ([], 2)
  else if rd rest 0 / 16 = 15 then (match lzCnt (rest.drop 1) 15 with | none => ([], 2) | some (n, rest') => lzB K most n (rd rest 0 % 16) rest' out)
  else lzB K most (rd rest 0 / 16) (rd rest 0 % 16) (rest.drop 1) out
def lzParts (most : Int) : Nat → List Int → List Int → List Int × Int
  | 0, _, _ => ([], 2)
  | k + 1, rest, out => lzA (lzParts most k) most rest out
def lzUnp (b : List Int) (most : Int) : List Int × Int := if most < 0 then ([], 1) else lzParts most (b.length + 1) b []
def lz_Unpack.f (l0 : List Int) (a1 : Int) : Option (List Int × Int) := if l0.length < 140737488355328 ∧ a1 < 70368744177664 ∧ Bts l0 then some (lzUnp l0 a1) else none
def LzSt (v0 v1 v6 v10 : Value) (a : Act) : Prop := ∃ u : Nat → Value, a = { tmps := List.toArray (v0 :: v1 :: u 2 :: u 3 :: u 4 :: u 5 :: v6 :: u 7 :: u 8 :: u 9 :: v10 :: u 11 :: u 12 :: u 13 :: u 14 :: u 15 :: u 16 :: u 17 :: u 18 :: u 19 :: u 20 :: u 21 :: u 22 :: u 23 :: u 24 :: u 25 :: u 26 :: u 27 :: u 28 :: u 29 :: u 30 :: u 31 :: u 32 :: u 33 :: u 34 :: u 35 :: u 36 :: u 37 :: u 38 :: u 39 :: u 40 :: u 41 :: u 42 :: u 43 :: u 44 :: u 45 :: u 46 :: u 47 :: u 48 :: u 49 :: u 50 :: u 51 :: u 52 :: u 53 :: u 54 :: u 55 :: u 56 :: u 57 :: u 58 :: u 59 :: u 60 :: u 61 :: u 62 :: u 63 :: u 64 :: u 65 :: u 66 :: u 67 :: u 68 :: u 69 :: u 70 :: u 71 :: u 72 :: u 73 :: u 74 :: u 75 :: u 76 :: u 77 :: u 78 :: u 79 :: u 80 :: u 81 :: u 82 :: u 83 :: u 84 :: u 85 :: u 86 :: u 87 :: u 88 :: u 89 :: u 90 :: u 91 :: u 92 :: u 93 :: u 94 :: u 95 :: u 96 :: u 97 :: u 98 :: u 99 :: u 100 :: u 101 :: u 102 :: u 103 :: u 104 :: u 105 :: u 106 :: u 107 :: u 108 :: u 109 :: u 110 :: u 111 :: u 112 :: u 113 :: u 114 :: u 115 :: u 116 :: u 117 :: u 118 :: u 119 :: u 120 :: []), defers := [] }
theorem LzSt.of {v0 v1 v6 v10 u2 u3 u4 u5 u7 u8 u9 u11 u12 u13 u14 u15 u16 u17 u18 u19 u20 u21 u22 u23 u24 u25 u26 u27 u28 u29 u30 u31 u32 u33 u34 u35 u36 u37 u38 u39 u40 u41 u42 u43 u44 u45 u46 u47 u48 u49 u50 u51 u52 u53 u54 u55 u56 u57 u58 u59 u60 u61 u62 u63 u64 u65 u66 u67 u68 u69 u70 u71 u72 u73 u74 u75 u76 u77 u78 u79 u80 u81 u82 u83 u84 u85 u86 u87 u88 u89 u90 u91 u92 u93 u94 u95 u96 u97 u98 u99 u100 u101 u102 u103 u104 u105 u106 u107 u108 u109 u110 u111 u112 u113 u114 u115 u116 u117 u118 u119 u120 : Value} : LzSt v0 v1 v6 v10 { tmps := List.toArray (v0 :: v1 :: u2 :: u3 :: u4 :: u5 :: v6 :: u7 :: u8 :: u9 :: v10 :: u11 :: u12 :: u13 :: u14 :: u15 :: u16 :: u17 :: u18 :: u19 :: u20 :: u21 :: u22 :: u23 :: u24 :: u25 :: u26 :: u27 :: u28 :: u29 :: u30 :: u31 :: u32 :: u33 :: u34 :: u35 :: u36 :: u37 :: u38 :: u39 :: u40 :: u41 :: u42 :: u43 :: u44 :: u45 :: u46 :: u47 :: u48 :: u49 :: u50 :: u51 :: u52 :: u53 :: u54 :: u55 :: u56 :: u57 :: u58 :: u59 :: u60 :: u61 :: u62 :: u63 :: u64 :: u65 :: u66 :: u67 :: u68 :: u69 :: u70 :: u71 :: u72 :: u73 :: u74 :: u75 :: u76 :: u77 :: u78 :: u79 :: u80 :: u81 :: u82 :: u83 :: u84 :: u85 :: u86 :: u87 :: u88 :: u89 :: u90 :: u91 :: u92 :: u93 :: u94 :: u95 :: u96 :: u97 :: u98 :: u99 :: u100 :: u101 :: u102 :: u103 :: u104 :: u105 :: u106 :: u107 :: u108 :: u109 :: u110 :: u111 :: u112 :: u113 :: u114 :: u115 :: u116 :: u117 :: u118 :: u119 :: u120 :: []), defers := [] } :=
  ⟨fun i => match i with | 2 => u2 | 3 => u3 | 4 => u4 | 5 => u5 | 7 => u7 | 8 => u8 | 9 => u9 | 11 => u11 | 12 => u12 | 13 => u13 | 14 => u14 | 15 => u15 | 16 => u16 | 17 => u17 | 18 => u18 | 19 => u19 | 20 => u20 | 21 => u21 | 22 => u22 | 23 => u23 | 24 => u24 | 25 => u25 | 26 => u26 | 27 => u27 | 28 => u28 | 29 => u29 | 30 => u30 | 31 => u31 | 32 => u32 | 33 => u33 | 34 => u34 | 35 => u35 | 36 => u36 | 37 => u37 | 38 => u38 | 39 => u39 | 40 => u40 | 41 => u41 | 42 => u42 | 43 => u43 | 44 => u44 | 45 => u45 | 46 => u46 | 47 => u47 | 48 => u48 | 49 => u49 | 50 => u50 | 51 => u51 | 52 => u52 | 53 => u53 | 54 => u54 | 55 => u55 | 56 => u56 | 57 => u57 | 58 => u58 | 59 => u59 | 60 => u60 | 61 => u61 | 62 => u62 | 63 => u63 | 64 => u64 | 65 => u65 | 66 => u66 | 67 => u67 | 68 => u68 | 69 => u69 | 70 => u70 | 71 => u71 | 72 => u72 | 73 => u73 | 74 => u74 | 75 => u75 | 76 => u76 | 77 => u77 | 78 => u78 | 79 => u79 | 80 => u80 | 81 => u81 | 82 => u82 | 83 => u83 | 84 => u84 | 85 => u85 | 86 => u86 | 87 => u87 | 88 => u88 | 89 => u89 | 90 => u90 | 91 => u91 | 92 => u92 | 93 => u93 | 94 => u94 | 95 => u95 | 96 => u96 | 97 => u97 | 98 => u98 | 99 => u99 | 100 => u100 | 101 => u101 | 102 => u102 | 103 => u103 | 104 => u104 | 105 => u105 | 106 => u106 | 107 => u107 | 108 => u108 | 109 => u109 | 110 => u110 | 111 => u111 | 112 => u112 | 113 => u113 | 114 => u114 | 115 => u115 | 116 => u116 | 117 => u117 | 118 => u118 | 119 => u119 | 120 => u120 | _ => undef, rfl⟩
/-- What holds at the labels: 0 (broken), 2 (long), 1 (part). -/
def LzWay (A0 : Option Addr) (c0 : Nat) (l0 : List Int) (a1 : Int) (r1 : List Int) (r2 : Int) (w : World) (l n : Nat) (a : Act) (W : World) : Prop :=
  (l = 0 ∧ (∃ v0 v1 v6 v10, LzSt v0 v1 v6 v10 a) ∧ r1 = [] ∧ r2 = 2 ∧ Below w.heap.size w W) ∨
  (l = 2 ∧ (∃ v0 v1 v6 v10, LzSt v0 v1 v6 v10 a) ∧ r1 = [] ∧ r2 = 5 ∧ Below w.heap.size w W) ∨
  (l = 1 ∧ (∃ rest out Ar cr vo, LzSt (.slice A0 l0.length c0) (.int .i64 a1) vo (.slice Ar rest.length cr) a ∧ lzParts a1 n rest out = (r1, r2) ∧ rest.length < n ∧ Kd.C (Kd.int .u8) w Ar rest.length rest ∧ rest.length ≤ cr ∧ Bts rest ∧ rest.length < 140737488355328 ∧ Kd.R (Kd.int .u8) 5 W w.heap.size (fun _ => True) vo out ∧ Below w.heap.size w W ∧ (out.length : Int) ≤ a1) ∧ True)
set_option maxHeartbeats 4000000 in
set_option maxRecDepth 100000 in
theorem lz_Unpack.calls (A0 : Option Addr) (c0 : Nat) (l0 : List Int) (a1 : Int) (r1 : List Int) (r2 : Int) (w : World) (hr0 : Kd.C (Kd.int .u8) w A0 l0.length l0) (hc0 : l0.length ≤ c0) (h : lz_Unpack.f l0 a1 = some (r1, r2)) :
    Calls Try.prog 13 #[.slice A0 l0.length c0, .int .i64 a1] w fun e w' => ∃ v0_ : Value, e = .returned (.tuple #[v0_, .int .i64 r2]) ∧ Kd.V (Kd.int .u8) 5 w' w.heap.size (fun k_ => w.heap.size ≤ k_) v0_ r1 ∧ Below w.heap.size w w' := by
  unfold lz_Unpack.f at h
  by_cases hg : l0.length < 140737488355328 ∧ a1 < 70368744177664 ∧ Bts l0
  · rw [if_pos hg] at h
    obtain ⟨hl, hm, hbt⟩ := hg
    have HE := Aside0.mk (Option.some.inj h)
    have HM := Aside0.mk hm
    have HBT := Aside0.mk hbt
    have HL := Aside0.mk hl
    have HC := Aside0.mk hc0
    have HR := Aside0.mk hr0
    clear h hl hm hbt hc0 hr0
    unfold lzUnp at HE
    go_enter Try.func13, Try.ntmps13
    go_wp2
    refine wp_scope_rank (fun l n a W => LzWay A0 c0 l0 a1 r1 r2 w l n a W) ?pass ?first
    case first =>
      intro fall
      by_cases hneg : a1 < 0
      · have H := HE.out
        rw [if_pos hneg] at H
        obtain ⟨rfl, rfl⟩ := Prod.mk.inj H
        go_wp2
        go_ret2
        exact ⟨_, rfl, Kd.V_nil _ _ _ _ _, Below.refl _ _⟩
      · have H := HE.out
        rw [if_neg hneg] at H
        have H' := Aside0.mk H
        go_wp2
        apply wp_label
        simp only [Exit.then]
        rename_i hK
        refine hK _ _ ?_
        refine fall 1 (l0.length + 1) _ _ _ ?_ rfl
        exact .inr (.inr ⟨rfl, ⟨l0, [], A0, c0, .slice none 0 0, LzSt.of, H'.out, Nat.lt_succ_self _, HR.out, HC.out, HBT.out, HL.out, Kd.R_nil _ _ _ _ _, Below.refl _ _, by simp; omega⟩, trivial⟩)
    case pass =>
      intro l n a W hD
      rcases hD with ⟨rfl, hs, hr⟩ | ⟨rfl, hs, hr⟩ | ⟨rfl, hs, hr⟩
      · refine ⟨_, rfl, ?_⟩
        intro D' hD'
        obtain ⟨v0, v1, v6, v10, u, rfl⟩ := hs
        obtain ⟨rfl, rfl, hb⟩ := hr
        go_wp2
        rw [jumps_ret]
        go_ret2
        exact ⟨_, rfl, Kd.V_nil _ _ _ _ _, hb⟩
      · refine ⟨_, rfl, ?_⟩
        intro D' hD'
        obtain ⟨v0, v1, v6, v10, u, rfl⟩ := hs
        obtain ⟨rfl, rfl, hb⟩ := hr
        go_wp2
        rw [jumps_ret]
        go_ret2
        exact ⟨_, rfl, Kd.V_nil _ _ _ _ _, hb⟩
      · refine ⟨_, rfl, ?_⟩
        intro D' hD'
        obtain ⟨rest, out, Ar, cr, vo, hs, HE2, hn, hR, hC, hBt, hL, hO, hB, hOL⟩ := hs
        obtain ⟨u, rfl⟩ := hs
        clear HE HR HC HBT HL
        obtain ⟨k, rfl⟩ : ∃ k, n = k + 1 := ⟨n - 1, by omega⟩
        have HE := Aside0.mk HE2
        have HN := Aside0.mk hn
        have HR := Aside0.mk hR
        have HC := Aside0.mk hC
        have HBT := Aside0.mk hBt
        have HL := Aside0.mk hL
        have HO := Aside0.mk hO
        have HB := Aside0.mk hB
        have HOL := Aside0.mk hOL
        have HD := Aside0.mk hD'
        clear HE2 hn hR hC hBt hL hO hB hOL hD'
        rw [lzParts, lzA] at HE
        by_cases c1 : rest.length = 0
        · have H := HE.out
          rw [if_pos c1] at H
          obtain ⟨rfl, rfl⟩ := Prod.mk.inj H
          clear H
          rw [c1]
          go_wp2
          apply wp_goto
          show D' 0 _ _
          exact HD.out 0 0 _ _ (Nat.succ_pos _) (.inl ⟨rfl, ⟨_, _, _, _, LzSt.of⟩, rfl, rfl, HB.out⟩)
        · have H := HE.out
          rw [if_neg c1] at H
          have HE := Aside0.mk H
          clear H
          have hlen : 0 < rest.length := by omega
          have c1b : ((rest.length : Int) == 0) = false := beq_eq_false_iff_ne.mpr (by omega)
          obtain ⟨ad, rfl, hx⟩ := Kd.at_int (Kd.C_below HR.out HB.out) 0 (by omega) (by omega)
          replace hx : W.cell? ad = some (.int .u8 (rd rest 0)) := hx
          have hbt := HBT.out.at 0 (by omega) (by omega)
          obtain ⟨i0, hi0, _, hsz0, _⟩ := info_parts info5
          obtain ⟨A1', hcut, hA1, hC1⟩ := print_drop_of (P := Try.prog) (Value.int .u8) 0 22 5 .i64 Try.underlying22 hi0 hsz0 (some ad) cr rest 1 (by omega) (by omega) HC.out
          have HR1 := Aside0.mk (Kd.C_of_reads (h1 := fun _ => rfl) (hA1 _ (Kd.reads_of_C HR.out)))
          have HC1 := Aside0.mk hC1
          have HBT1 := Aside0.mk (HBT.out.drop 1)
          have HL1 := Aside0.mk (show (rest.drop 1).length + 1 = rest.length by rw [List.length_drop]; omega)
          clear hA1 hC1 hi0 hsz0
          rw [show (1 : Int).toNat = 1 from rfl] at HR1 HC1 hcut
          generalize rest.drop 1 = t at *
          go_upto_if 31 with (fail)
          repeat (go_quiet (fail); go_upto_if 31 with (fail))
          have HO1 := Aside0.mk (Kd.R_drewN HO.out nq)
          have HB1 := Aside0.mk (pw_below_drewN HB.out nq)
          clear HO HB hx
          generalize hW1 : W.drewN nq = W1 at *
          go_cut [7, 10] (fun v7 v10 wc => ∃ (n : Int) (r : List Int) (A2 : Option Addr) (c2 : Nat), v7 = .int .i64 n ∧ v10 = .slice A2 r.length c2 ∧ Aside0 (lzB (lzParts a1 k) a1 n (rd rest 0 % 16) r out = (r1, r2)) ∧ 0 ≤ n ∧ n ≤ 36028797018963968 ∧ Aside0 (Kd.C (Kd.int .u8) w A2 r.length r) ∧ Aside0 (r.length ≤ c2) ∧ Aside0 (Bts r) ∧ r.length < rest.length ∧ Aside0 (Kd.R (Kd.int .u8) 5 wc w.heap.size (fun _ => True) vo out) ∧ Aside0 (Below w.heap.size w wc))
          case first =>
            by_cases c2 : rd rest 0 / 16 = 15
            · have H := HE.out
              rw [if_pos c2] at H
              have c2b : (rd rest 0 / 16 == 15) = true := beq_iff_eq.mpr c2
              rw [c2b]
              cases hcn : lzCnt t 15 with
              | none =>
                rw [hcn] at H
                obtain ⟨rfl, rfl⟩ := Prod.mk.inj H
                clear H HE
                go_wp2_with (go_at_call 20; refine (lz_count_calls _ _ t _ (Kd.C_below HR1.out HB1.out) HC1.out HBT1.out (by have := HL1.out; have := HL.out; omega)).mono ?_; rintro e w' ⟨hd, hres⟩; obtain ⟨x, v, rfl⟩ : ∃ x v, e = .returned (.tuple #[.int .i64 x, v, .bool false]) := (by rcases hres with ⟨_, x, v, he⟩ | ⟨_, _, _, _, hno, _⟩; exact ⟨x, v, he⟩; rw [hcn] at hno; cases hno); clear hres; have HB2 := Aside0.mk (below_step HB1.out hd.below); clear hd)
                refine wp_goto ?_
                show D' 0 _ _
                exact HD.out 0 0 _ _ (Nat.succ_pos _) (.inl ⟨rfl, ⟨_, _, _, _, LzSt.of⟩, rfl, rfl, HB2.out⟩)
              | some nl =>
                obtain ⟨n, r⟩ := nl
                rw [hcn] at H
                replace HE := Aside0.mk H
                clear H
                go_wp2_with (go_at_call 20; refine (lz_count_calls _ _ t _ (Kd.C_below HR1.out HB1.out) HC1.out HBT1.out (by have := HL1.out; have := HL.out; omega)).mono ?_; rintro e w' ⟨hd, hres⟩; obtain ⟨A2, c2, h0, h1, hm, h2, rfl, h3, h4⟩ : ∃ A1 c1, 0 ≤ n ∧ n + 255 * r.length ≤ 15 + 255 * t.length ∧ Aside0 (∃ m, r = t.drop m) ∧ r.length < t.length ∧ e = .returned (.tuple #[.int .i64 n, .slice A1 r.length c1, .bool true]) ∧ (∀ W, Kd.C (Kd.int .u8) W A1' t.length t → Kd.C (Kd.int .u8) W A1 r.length r) ∧ r.length ≤ c1 := (by rcases hres with ⟨hno, _⟩ | ⟨n', A1, c1, l1, hno, h0, h1, h2, h3, h4, h5, h6⟩; rw [hcn] at hno; cases hno; rw [hcn] at hno; cases hno; exact ⟨A1, c1, h0, h1, ⟨h2⟩, h3, h4, h5, h6⟩); clear hres; have HB2 := Aside0.mk (below_step HB1.out hd.below); have HO2 := Aside0.mk (Kd.R_below HO1.out hd.below); clear hd)
                go_meet
                case rel => exact ⟨n, r, A2, c2, rfl, rfl, HE, h0, by have := HL1.out; have := HL.out; omega, ⟨h3 _ HR1.out⟩, ⟨h4⟩, ⟨by obtain ⟨m, hm⟩ := hm.out; rw [hm]; exact HBT1.out.drop m⟩, by have := HL1.out; omega, HO2, HB2⟩
            · have H := HE.out
              rw [if_neg c2] at H
              replace HE := Aside0.mk H
              clear H
              have c2b : (rd rest 0 / 16 == 15) = false := beq_eq_false_iff_ne.mpr c2
              rw [c2b]
              go_wp2
              go_meet
              case rel => exact ⟨_, t, A1', cr - 1, rfl, rfl, HE, by omega, by omega, HR1, HC1, HBT1, by have := HL1.out; omega, HO1, HB1⟩
          case rest =>
            obtain ⟨n, r, A2, c2, rfl, rfl, HE, hn0, hn1, HR, HC, HBT, hlt, HO, HB⟩ := hcut
            have hm0 : 0 ≤ rd rest 0 % 16 ∧ rd rest 0 % 16 ≤ 15 := by omega
            have HL := Aside0.mk (show r.length < k ∧ r.length < 140737488355328 by have := HN.out; have := HL.out; omega)
            clear HN HR1 HC1 HBT1 HL1 HO1 HB1
            generalize rd rest 0 % 16 = m at *
            rw [lzB] at HE
            obtain ⟨Ao, co, rfl⟩ := Kd.R_slice HO.out
            have hol := HOL.out
            have ham := HM.out
            have hL := HL.out
            by_cases c3 : n > a1 - out.length
            · have H := HE.out
              rw [if_pos c3] at H
              obtain ⟨rfl, rfl⟩ := Prod.mk.inj H
              clear H HE
              go_wp2
              refine wp_goto ?_
              show D' 2 _ _
              exact HD.out 2 0 _ _ (Nat.succ_pos _) (.inr (.inl ⟨rfl, ⟨_, _, _, _, LzSt.of⟩, rfl, rfl, HB.out⟩))
            · have H := HE.out
              rw [if_neg c3] at H
              by_cases c4 : n > r.length
              · rw [if_pos c4] at H
                obtain ⟨rfl, rfl⟩ := Prod.mk.inj H
                clear H HE
                go_wp2
                refine wp_goto ?_
                show D' 0 _ _
                exact HD.out 0 0 _ _ (Nat.succ_pos _) (.inl ⟨rfl, ⟨_, _, _, _, LzSt.of⟩, rfl, rfl, HB.out⟩)
              · rw [if_neg c4] at H
                obtain ⟨i0, hi0, _, hsz0, _⟩ := info_parts info5
                obtain ⟨hcutp, hAp, hCp⟩ := print_take_of (P := Try.prog) (Value.int .u8) 0 22 5 .i64 Try.underlying22 hi0 hsz0 A2 c2 r n (by omega) (by omega) HC.out
                obtain ⟨A3, hcutq, hAq, hCq⟩ := print_drop_of (P := Try.prog) (Value.int .u8) 0 22 5 .i64 Try.underlying22 hi0 hsz0 A2 c2 r n (by omega) (by omega) HC.out
                have HRp := Aside0.mk (Kd.C_of_reads (h1 := fun _ => rfl) (hAp _ (Kd.reads_of_C HR.out)))
                have HRq := Aside0.mk (Kd.C_of_reads (h1 := fun _ => rfl) (hAq _ (Kd.reads_of_C HR.out)))
                have HCq := Aside0.mk hCq
                have HBTq := Aside0.mk (HBT.out.drop n.toNat)
                have hlp := Aside0.mk (show (r.take n.toNat).length = n.toNat by rw [List.length_take]; omega)
                have hlq := Aside0.mk (show (r.drop n.toNat).length = r.length - n.toNat from List.length_drop)
                have hcq : ∃ cq, cq = c2 - n.toNat := ⟨_, rfl⟩
                obtain ⟨cq, hcq⟩ := hcq
                rw [← hcq] at hcutq HCq
                clear hcq hAp hCp hAq hCq hi0 hsz0 HR HC HBT
                generalize r.take n.toNat = p at *
                generalize r.drop n.toNat = q at *
                replace HE := Aside0.mk H
                clear H
                go_wp2
                refine start_ (n := 10) (S := fun w' => True) (ds := []) #[false, false, false, false, false, false, false, false, false, false] (by kernel_rfl) rfl rfl trivial (fun hHeld => ?_)
                replace HO := Aside0.mk (Kd.R_drew HO.out)
                replace HB := Aside0.mk (below_drew1 HB.out)
                generalize wc.drew = W2 at *
                refine pure_ (i := 0) (N := some 50) (v := ?_) (a' := ?_) #[true, false, false, false, false, false, false, false, false, false] rfl rfl (by kernel_rfl) (fun _ _ _ h => h) (Or.inl ⟨by rfl, ?_⟩) ?_ ?_
                rotate_left
                · intro w'
                  go_simp
                  with_reducible rfl
                rotate_left
                · simp only [Act.put, List.setIfInBounds_toArray, List.set_cons_zero, List.set_cons_succ, i64_w, i32_w]
                  rfl
                refine pure_ (i := 1) (N := some 51) (v := ?_) (a' := ?_) #[true, true, false, false, false, false, false, false, false, false] rfl rfl (by kernel_rfl) (fun _ _ _ h => h) (Or.inl ⟨by rfl, ?_⟩) ?_ ?_
                rotate_left
                · intro w'
                  go_simp
                  with_reducible rfl
                rotate_left
                · simp only [Act.put, List.setIfInBounds_toArray, List.set_cons_zero, List.set_cons_succ, i64_w, i32_w]
                  rfl
                refine pure_ (i := 2) (N := some 52) (v := ?_) (a' := ?_) #[true, true, true, false, false, false, false, false, false, false] rfl rfl (by kernel_rfl) (fun _ _ _ h => h) (Or.inl ⟨by rfl, ?_⟩) ?_ ?_
                rotate_left
                · intro w'
                  go_simp
                  with_reducible rfl
                rotate_left
                · simp only [Act.put, List.setIfInBounds_toArray, List.set_cons_zero, List.set_cons_succ, i64_w, i32_w]
                  rfl
                refine pure_ (i := 3) (N := some 53) (v := ?_) (a' := ?_) #[true, true, true, true, false, false, false, false, false, false] rfl rfl (by kernel_rfl) (fun _ _ _ h => h) (Or.inl ⟨by rfl, ?_⟩) ?_ ?_
                rotate_left
                · intro w'
                  go_simp
                  with_reducible rfl
                rotate_left
                · simp only [Act.put, List.setIfInBounds_toArray, List.set_cons_zero, List.set_cons_succ, i64_w, i32_w]
                  rfl
                refine pure_ (i := 5) (N := some 55) (v := ?_) (a' := ?_) #[true, true, true, true, false, true, false, false, false, false] rfl rfl (by kernel_rfl) (fun _ _ _ h => h) (Or.inl ⟨by rfl, ?_⟩) ?_ ?_
                rotate_left
                · intro w'
                  go_simp
                  with_reducible rfl
                rotate_left
                · simp only [Act.put, List.setIfInBounds_toArray, List.set_cons_zero, List.set_cons_succ, i64_w, i32_w]
                  rfl
                refine pure_ (i := 6) (N := some 56) (v := ?_) (a' := ?_) #[true, true, true, true, false, true, true, false, false, false] rfl rfl (by kernel_rfl) (fun _ _ _ h => h) (Or.inl ⟨by rfl, ?_⟩) ?_ ?_
                rotate_left
                · intro w'
                  go_simp
                  with_reducible rfl
                rotate_left
                · simp only [Act.put, List.setIfInBounds_toArray, List.set_cons_zero, List.set_cons_succ, i64_w, i32_w]
                  rfl
                refine pure_ (i := 7) (N := some 57) (v := ?_) (a' := ?_) #[true, true, true, true, false, true, true, true, false, false] rfl rfl (by kernel_rfl) (fun _ _ _ h => h) (Or.inl ⟨by rfl, ?_⟩) ?_ ?_
                rotate_left
                · intro w'
                  go_simp
                  with_reducible rfl
                rotate_left
                · simp only [Act.put, List.setIfInBounds_toArray, List.set_cons_zero, List.set_cons_succ, i64_w, i32_w]
                  rfl
                refine one_ (i := 4) (N := some 54) #[true, true, true, true, true, true, true, true, false, false] rfl rfl (by kernel_rfl) (by decide) (fun K hK => ?_)
                refine Kd.R_append_rows_step (Kd.int .u8) (w0 := w) w.heap.size (by rfl) (.tmp 50) (.tmp 53) 22 5 (.int .u8 0) 1 rfl Try.underlying22 info5 rfl (by decide) (by omega) (.slice Ao out.length co) out p _ _ _ (fun _ => True) (fun _ => False) rfl rfl ?aO ?aR (fun _ _ h => h) (fun _ h => h.elim) ?aF ?aB ?aS ?aL ?_
                case aO => exact HO.out
                case aR => exact Kd.C_below HRp.out HB.out
                case aF => exact fun _ _ => trivial
                case aB => exact HB.out
                case aS => exact HB.out.size
                case aL => have := hlp.out; omega
                intro v6 w5 ho hb hg hat
                clear hg hat
                replace HO := Aside0.mk ho
                replace HB := Aside0.mk hb
                clear ho hb
                refine hK.out _ _ trivial (fun hHeld => ?_)
                clear hK K
                refine norm_ (a' := ?_) ?_ ?_
                rotate_left
                · show Act.put _ (some 54) _ = _
                  simp only [Act.put, List.setIfInBounds_toArray, List.set_cons_zero, List.set_cons_succ, i64_w, i32_w]
                  rfl
                refine pure_ (i := 8) (N := some 6) (v := ?_) (a' := ?_) #[true, true, true, true, true, true, true, true, true, false] rfl rfl (by kernel_rfl) (fun _ _ _ h => h) (Or.inl ⟨by rfl, ?_⟩) ?_ ?_
                rotate_left
                · intro w'
                  go_simp
                  with_reducible rfl
                rotate_left
                · simp only [Act.put, List.setIfInBounds_toArray, List.set_cons_zero, List.set_cons_succ, i64_w, i32_w]
                  rfl
                refine pure_ (i := 9) (N := some 10) (v := ?_) (a' := ?_) #[true, true, true, true, true, true, true, true, true, true] rfl rfl (by kernel_rfl) (fun _ _ _ h => h) (Or.inl ⟨by rfl, ?_⟩) ?_ ?_
                rotate_left
                · intro w'
                  go_simp
                  with_reducible rfl
                rotate_left
                · simp only [Act.put, List.setIfInBounds_toArray, List.set_cons_zero, List.set_cons_succ, i64_w, i32_w]
                  rfl
                refine done_ (by kernel_rfl) ?_


                rw [lzC] at HE
                have hlo : ((out ++ p).length : Int) ≤ a1 := by have := hlp.out; rw [List.length_append]; omega
                clear hL hlp HRp hcutp hcutq hol
                generalize out ++ p = o2 at *
                have hq : q.length < k ∧ q.length < 140737488355328 := by have := HL.out; have := hlq.out; omega
                clear HL hlq c4 c3 hn0 hn1
                obtain ⟨Ap, cp, rfl⟩ := Kd.R_slice HO.out
                by_cases c5 : q.length = 0
                · have H := HE.out
                  rw [if_pos c5] at H
                  rw [c5]
                  by_cases c6 : m ≠ 0
                  · rw [if_pos c6] at H
                    obtain ⟨rfl, rfl⟩ := Prod.mk.inj H
                    clear H HE
                    go_wp2
                    refine wp_goto ?_
                    show D' 0 _ _
                    exact HD.out 0 0 _ _ (Nat.succ_pos _) (.inl ⟨rfl, ⟨_, _, _, _, LzSt.of⟩, rfl, rfl, HB.out⟩)
                  · rw [if_neg c6] at H
                    obtain ⟨rfl, rfl⟩ := Prod.mk.inj H
                    clear H HE
                    have hcl := (Kd.R_reads' HO.out).2.1
                    have c6b : (m != 0) = false := bne_eq_false_iff_eq.mpr (by omega)
                    go_wp2_with (go_at_call 21; refine (clip_calls Ap o2.length cp _ hcl (by omega)).mono ?_; rintro e w' ⟨rfl, rfl⟩)
                    rw [jumps_ret]
                    go_ret2
                    exact ⟨_, rfl, V_clip HO.out, HB.out⟩
                · have H := HE.out
                  rw [if_neg c5] at H
                  by_cases c6 : q.length < 2
                  · rw [if_pos c6] at H
                    obtain ⟨rfl, rfl⟩ := Prod.mk.inj H
                    clear H HE
                    have c5b : ((q.length : Int) == 0) = false := beq_eq_false_iff_ne.mpr (by omega)
                    go_wp2
                    refine wp_goto ?_
                    show D' 0 _ _
                    exact HD.out 0 0 _ _ (Nat.succ_pos _) (.inl ⟨rfl, ⟨_, _, _, _, LzSt.of⟩, rfl, rfl, HB.out⟩)
                  · rw [if_neg c6] at H
                    replace HE := Aside0.mk H
                    clear H
                    have c5b : ((q.length : Int) == 0) = false := beq_eq_false_iff_ne.mpr (by omega)
                    obtain ⟨adq, rfl, hx0⟩ := Kd.at_int (Kd.C_below HRq.out HB.out) 0 (by omega) (by omega)
                    obtain ⟨adq', he, hx1⟩ := Kd.at_int (Kd.C_below HRq.out HB.out) 1 (by omega) (by omega)
                    obtain rfl : adq = adq' := by injection he
                    clear he
                    replace hx0 : w5.cell? adq = some (.int .u8 (rd q 0)) := hx0
                    replace hx1 : w5.cell? ⟨adq.block, adq.off + 1, none⟩ = some (.int .u8 (rd q 1)) := hx1
                    have hb0 := HBTq.out.at 0 (by omega) (by omega)
                    have hb1 := HBTq.out.at 1 (by omega) (by omega)
                    have hw0 : IntKind.i64.wrap (rd q 0) = rd q 0 := by rw [IntKind.wrap_i64]; omega
                    have hw1 : IntKind.i64.wrap (rd q 1) = rd q 1 := by rw [IntKind.wrap_i64]; omega
                    obtain ⟨i0, hi0, _, hsz0, _⟩ := info_parts info5
                    obtain ⟨A4, hcut4, hA4, hC4⟩ := print_drop_of (P := Try.prog) (Value.int .u8) 0 22 5 .i64 Try.underlying22 hi0 hsz0 (some adq) cq q 2 (by omega) (by omega) HCq.out
                    rw [show (2 : Int).toNat = 2 from rfl] at hA4 hC4 hcut4
                    have HR4 := Aside0.mk (Kd.C_of_reads (h1 := fun _ => rfl) (hA4 _ (Kd.reads_of_C HRq.out)))
                    have HC4 := Aside0.mk hC4
                    have HBT4 := Aside0.mk (HBTq.out.drop 2)
                    have hl4 := Aside0.mk (show (q.drop 2).length = q.length - 2 from List.length_drop)
                    clear hA4 hC4 hi0 hsz0
                    generalize q.drop 2 = q2 at *
                    have hq0 : 0 < q.length := by omega
                    have hq1 : 1 < q.length := by omega
                    have hq1i : ((1 : Int) < (q.length : Int)) = True := eq_true (by omega)
                    have hq2 : 2 ≤ q.length := by omega
                    have hd : Go.bits .or .i64 (rd q 0) (rd q 1 * 256) = lzDist q := lz_or _ _ hb0 hb1
                    have hd0 : 0 ≤ lzDist q ∧ lzDist q ≤ 65535 := by unfold lzDist; omega
                    generalize lzDist q = d at *
                    go_wp2
                    go_quiet (fail)
                    replace HO := Aside0.mk (Kd.R_drewN HO.out nq)
                    replace HB := Aside0.mk (pw_below_drewN HB.out nq)
                    clear hx0 hx1 hcut4 hd
                    generalize w5.drewN nq = w6 at *
                    have hqk : q2.length < k := by have := hl4.out; omega
                    have hq2l : q2.length < 140737488355328 := by have := hl4.out; omega
                    by_cases c7 : d = 0 ∨ d > o2.length
                    · have H := HE.out
                      rw [if_pos c7] at H
                      obtain ⟨rfl, rfl⟩ := Prod.mk.inj H
                      clear H HE
                      have fin : ∀ a, LzSt (.slice A0 l0.length c0) (.int .i64 a1) (.slice Ap o2.length cp) (.slice A4 q2.length (cq - 2)) a → D' 0 a w6 := fun a ha => HD.out 0 0 _ _ (Nat.succ_pos _) (.inl ⟨rfl, ⟨_, _, _, _, ha⟩, rfl, rfl, HB.out⟩)
                      rcases c7 with rfl | c7
                      · go_wp2
                        refine wp_goto ?_
                        show D' 0 _ _
                        exact fin _ LzSt.of
                      · have e1 : (d == 0) = false := beq_eq_false_iff_ne.mpr (by omega)
                        go_wp2
                        refine wp_goto ?_
                        show D' 0 _ _
                        exact fin _ LzSt.of
                    · have H := HE.out
                      rw [if_neg c7] at H
                      replace HE := Aside0.mk H
                      clear H
                      have e1 : (d == 0) = false := beq_eq_false_iff_ne.mpr (by omega)
                      have e2 : d ≤ o2.length := by omega
                      have e3 : 0 < d := by omega
                      clear c7
                      go_upto_if 89 with (fail)
                      clear hb0 hb1 hw0 hw1 hbt
                      go_cut [8, 10] (fun v8 v10 wc => ∃ (m' : Int) (s : List Int) (A5 : Option Addr) (c5 : Nat), v8 = .int .i64 m' ∧ v10 = .slice A5 s.length c5 ∧ Aside0 (lzD (lzParts a1 k) a1 m' d s o2 = (r1, r2)) ∧ 0 ≤ m' ∧ m' ≤ 36028797018963968 ∧ Aside0 (Kd.C (Kd.int .u8) w A5 s.length s) ∧ Aside0 (s.length ≤ c5) ∧ Aside0 (Bts s) ∧ s.length ≤ q2.length ∧ Aside0 (Kd.R (Kd.int .u8) 5 wc w.heap.size (fun _ => True) (.slice Ap o2.length cp) o2) ∧ Aside0 (Below w.heap.size w wc))
                      case first =>
                        by_cases c8 : m = 15
                        · have H := HE.out
                          rw [if_pos c8] at H
                          have c8b : (m == 15) = true := beq_iff_eq.mpr c8
                          rw [c8b]
                          cases hcn : lzCnt q2 15 with
                          | none =>
                            rw [hcn] at H
                            obtain ⟨rfl, rfl⟩ := Prod.mk.inj H
                            clear H HE
                            go_wp2_with (go_at_call 20; refine (lz_count_calls _ _ q2 _ (Kd.C_below HR4.out HB.out) HC4.out HBT4.out hq2l).mono ?_; rintro e w' ⟨hd, hres⟩; obtain ⟨x, v, rfl⟩ : ∃ x v, e = .returned (.tuple #[.int .i64 x, v, .bool false]) := (by rcases hres with ⟨_, x, v, he⟩ | ⟨_, _, _, _, hno, _⟩; exact ⟨x, v, he⟩; rw [hcn] at hno; cases hno); clear hres; have HB2 := Aside0.mk (below_step HB.out hd.below); clear hd)
                            refine wp_goto ?_
                            show D' 0 _ _
                            exact HD.out 0 0 _ _ (Nat.succ_pos _) (.inl ⟨rfl, ⟨_, _, _, _, LzSt.of⟩, rfl, rfl, HB2.out⟩)
                          | some nl =>
                            obtain ⟨n', s⟩ := nl
                            rw [hcn] at H
                            replace HE := Aside0.mk H
                            clear H
                            go_wp2_with (go_at_call 20; refine (lz_count_calls _ _ q2 _ (Kd.C_below HR4.out HB.out) HC4.out HBT4.out hq2l).mono ?_; rintro e w' ⟨hd, hres⟩; obtain ⟨A5, c5', h0, h1, hm, h2, rfl, h3, h4⟩ : ∃ A1 c1, 0 ≤ n' ∧ n' + 255 * s.length ≤ 15 + 255 * q2.length ∧ Aside0 (∃ m, s = q2.drop m) ∧ s.length < q2.length ∧ e = .returned (.tuple #[.int .i64 n', .slice A1 s.length c1, .bool true]) ∧ (∀ W, Kd.C (Kd.int .u8) W A4 q2.length q2 → Kd.C (Kd.int .u8) W A1 s.length s) ∧ s.length ≤ c1 := (by rcases hres with ⟨hno, _⟩ | ⟨n', A1, c1, l1, hno, h0, h1, h2, h3, h4, h5, h6⟩; rw [hcn] at hno; cases hno; rw [hcn] at hno; cases hno; exact ⟨A1, c1, h0, h1, ⟨h2⟩, h3, h4, h5, h6⟩); clear hres; have HB2 := Aside0.mk (below_step HB.out hd.below); have HO2 := Aside0.mk (Kd.R_below HO.out hd.below); clear hd)
                            go_meet
                            case rel => exact ⟨n', s, A5, c5', rfl, rfl, HE, h0, by omega, ⟨h3 _ HR4.out⟩, ⟨h4⟩, ⟨by obtain ⟨m, hm⟩ := hm.out; rw [hm]; exact HBT4.out.drop m⟩, by omega, HO2, HB2⟩
                        · have H := HE.out
                          rw [if_neg c8] at H
                          replace HE := Aside0.mk H
                          clear H
                          have c8b : (m == 15) = false := beq_eq_false_iff_ne.mpr c8
                          rw [c8b]
                          go_wp2
                          go_meet
                          case rel => exact ⟨m, q2, A4, cq - 2, rfl, rfl, HE, by omega, by omega, HR4, HC4, HBT4, Nat.le_refl _, HO, HB⟩
                      case rest =>
                        obtain ⟨m', s, A5, c5', rfl, rfl, HE, hm0', hm1', HR5, HC5, HBT5, hsl, HO5, HB5⟩ := hcut
                        rw [lzD] at HE
                        by_cases c9 : m' + 4 > a1 - o2.length
                        · have H := HE.out
                          rw [if_pos c9] at H
                          obtain ⟨rfl, rfl⟩ := Prod.mk.inj H
                          clear H HE
                          go_wp2
                          refine wp_goto ?_
                          show D' 2 _ _
                          exact HD.out 2 0 _ _ (Nat.succ_pos _) (.inr (.inl ⟨rfl, ⟨_, _, _, _, LzSt.of⟩, rfl, rfl, HB5.out⟩))
                        · have H := HE.out
                          rw [if_neg c9] at H
                          replace HE := Aside0.mk H
                          clear H
                          go_wp2
                          clear HC HBT HL HR HRq HCq HBTq HR4 HC4 HBT4 hl4
                          go_loopw [6, 7] (fun v6 v7 w' => ∃ (j : Nat) (o : List Int), v7 = .int .i64 j ∧ Aside0 (lzRep d j o = lzRep d (m' + 4).toNat o2) ∧ o.length + j = o2.length + (m' + 4).toNat ∧ o2.length ≤ o.length ∧ Aside0 (Kd.R (Kd.int .u8) 5 w' w.heap.size (fun _ => True) v6 o) ∧ Aside0 (Below w.heap.size w w')) (fun _ v7 _ => (intOf v7).toNat)
                          case atStart => exact ⟨(m' + 4).toNat, o2, by rw [Int.toNat_of_nonneg (by omega)], ⟨rfl⟩, rfl, Nat.le_refl _, HO5, HB5⟩
                          case round =>
                            clear HO HB HO5 HB5
                            obtain ⟨j, o, rfl, HRep, hoj, hoo, HO, HB⟩ := hrel
                            obtain ⟨Av, cv, rfl⟩ := Kd.R_slice HO.out
                            by_cases hj : j = 0
                            · subst hj
                              have hrep := HRep.out
                              rw [lzRep] at hrep
                              have H := HE.out
                              rw [← hrep] at H
                              go_wp2
                              refine wp_goto ?_
                              show D' 1 _ _
                              exact HD.out 1 k _ _ (Nat.lt_succ_self _) (.inr (.inr ⟨rfl, ⟨s, o, A5, c5', _, LzSt.of, H, by omega, HR5.out, HC5.out, HBT5.out, by omega, HO.out, HB.out, by omega⟩, trivial⟩))
                            · obtain ⟨adv, rfl, hxv⟩ := Kd.at_int (Kd.R_reads' HO.out).2.2 ((o.length : Int) - d) (by omega) (by omega)
                              have hj0 : (0 : Int) < (j : Int) := by omega
                              have hi0 : 0 ≤ (o.length : Int) - d := by omega
                              have hi1 : (o.length : Int) - d < o.length := by omega
                              have ho46 : o.length < 70368744177664 := by omega
                              obtain ⟨j', rfl⟩ : ∃ j', j = j' + 1 := ⟨j - 1, by omega⟩
                              have hrep := Aside0.mk HRep.out
                              rw [lzRep] at hrep
                              clear HRep
                              generalize rd o ((o.length : Int) - d) = x at *
                              go_wp2_with ((with_reducible refine gate_builtin (b := .append) (xs := #[.tmp 111, .tmp 119]) rfl ?_); at_builtin; refine Kd.R_append (Kd.int .u8) (w0 := w) w.heap.size rfl (.tmp 111) (.tmp 119) 22 5 (.int .u8 0) 1 rfl Try.underlying22 info5 rfl (by decide) (by omega) (.slice (some adv) o.length cv) o x [.int .u8 x] (fun _ => True) (fun _ => False) rfl rfl ?aP (fun _ hk => hk.elim) ?aF ?aO ?aB ?aS ?aL ?_; (case aP => exact rfl); (case aB => exact HB.out); (case aF => exact fun _ _ => trivial); (case aO => exact HO.out); (case aS => exact HB.out.size); (case aL => omega); intro v6 w7 ho hb hg hat; clear hg hat; replace HO := Aside0.mk ho; replace HB := Aside0.mk hb; clear ho hb)
                              go_roundw
                              case rel => exact ⟨j', o ++ [x], by go_num, hrep, by simp; omega, by simp; omega, HO, HB⟩
                              case measure => simp [intOf]
  · rw [if_neg hg] at h
    cases h

end Go.Proofs.Ytjgbimlogenodaa.P
