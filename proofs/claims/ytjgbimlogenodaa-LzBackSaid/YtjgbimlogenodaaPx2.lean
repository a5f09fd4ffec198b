/- Walks: each Go function that is told here comes to what the plain function beside it says, wherever that one answers. Written by a program of this session (wip/tools/pr.sh), after the manner of print.sh. -/
import Derived.Test.YtjgbimlogenodaaPx0
import Derived.Test.YtjgbimlogenodaaPx1
namespace Go.Proofs.Ytjgbimlogenodaa.P
open Go.RowKit Go.Proofs.YtjgbimlogenodaaW.PrintWords Go.Proofs.YtjgbimlogenodaaW.PrintLast Go.Proofs.YtjgbimlogenodaaW.PrintMore
attribute [local go_sem] max2_int min2_int max_two min_two max_three min_three max_four min_four   -- for this text's walks alone
set_option linter.unusedVariables false
set_option linter.unusedSimpArgs false

/-! ### lz_Pack: function 10 -/
/-! lz.Pack -/
def lzLay (n : Nat) : List Int := List.replicate (n / 255) 255 ++ [((n % 255 : Nat) : Int)]
def lzHead (a m : Nat) : Int := 16 * (min 15 a : Nat) + (min 15 m : Nat)
def lzLit (lits : List Int) (m : Nat) : List Int := lzHead lits.length m :: ((if 15 ≤ lits.length then lzLay (lits.length - 15) else []) ++ lits)
set_option maxHeartbeats 1600000 in
set_option maxRecDepth 100000 in
theorem lay_calls (P0 : Nat → Prop) (v : Value) (l0 : List Int) (n : Nat) (w0 w : World) (hB : Below w0.heap.size w0 w) (ho0 : Kd.R (Kd.int .u8) 5 w w0.heap.size P0 v l0) (hl : l0.length + n < 70368744177664) :
    Calls Try.prog 17 #[v, .int .i64 n] w fun e w' => ∃ v', e = .returned v' ∧ Kd.R (Kd.int .u8) 5 w' w0.heap.size (fun k => P0 k ∨ w.heap.size ≤ k) v' (l0 ++ lzLay n) ∧ Below w0.heap.size w0 w' ∧ Kept w w' P0 := by
  have HO := Aside0.mk (show Kd.R (Kd.int .u8) 5 w w0.heap.size (fun k => P0 k ∨ w.heap.size ≤ k) v l0 from Kd.R_mono ho0 (fun k hk => .inl hk))
  have HK := Aside0.mk (Kept.refl w P0)
  have HB := Aside0.mk hB
  clear hB ho0
  go_enter Try.func17, Try.ntmps17
  go_wp2
  go_loopw [0, 1] (fun v0 v1 w' => ∃ (j m : Nat), m + 255 * j = n ∧ v1 = .int .i64 m ∧ Aside0 (Kd.R (Kd.int .u8) 5 w' w0.heap.size (fun k => P0 k ∨ w.heap.size ≤ k) v0 (l0 ++ List.replicate j 255)) ∧ Aside0 (Kept w w' P0) ∧ Aside0 (Below w0.heap.size w0 w')) (fun _ v1 _ => (intOf v1).toNat)
  case atStart => exact ⟨0, n, by omega, rfl, ⟨by simpa using HO.out⟩, HK, HB⟩
  case round =>
    clear HO HK HB
    obtain ⟨j, m, hm, rfl, HO, HK, HB⟩ := hrel
    have hlen : (l0 ++ List.replicate j (255 : Int)).length = l0.length + j := by simp
    have hlj := Aside0.mk (show (l0 ++ List.replicate j (255 : Int)).length < 140737488355328 by rw [hlen]; omega)
    have hsz := Aside0.mk HK.out.1
    clear hlen
    obtain ⟨l1, hl1⟩ : ∃ l1, l1 = l0 ++ List.replicate j (255 : Int) := ⟨_, rfl⟩
    rw [← hl1] at HO hlj
    have HL1 := Aside0.mk hl1
    clear hl1
    by_cases h255 : 255 ≤ m
    · have h255' : (255 : Int) ≤ m := by omega
      go_wp2_with ((with_reducible refine gate_builtin (b := .append) (xs := #[.tmp 9, .tmp 10]) rfl ?_); at_builtin; refine Kd.R_append (Kd.int .u8) (w0 := w0) w0.heap.size rfl (.tmp 9) (.tmp 10) 22 5 (.int .u8 0) 1 rfl Try.underlying22 info5 rfl (by decide) (by omega) _ l1 255 [.int .u8 255] (fun k => P0 k ∨ w.heap.size ≤ k) (fun _ => False) rfl rfl ?aP (fun _ hk => hk.elim) ?aF ?aO ?aB ?aS ?aL ?_; (case aP => exact rfl); (case aB => exact HB.out); (case aF => exact fun k hk => .inr (Nat.le_trans hsz.out hk)); (case aO => exact HO.out); (case aS => exact HB.out.size); (case aL => have := hlj.out; omega); intro v6 w7 ho hb hg hat; have HK2 := Aside0.mk (Kept.of_grown (S := P0) hg HK.out (fun k e_ => HO.out.1 k e_)); clear hg hat HK; replace HO := Aside0.mk ho; replace HB := Aside0.mk hb; clear ho hb)
      go_roundw
      case rel => exact ⟨j + 1, m - 255, by omega, by first | go_num | (congr 1; omega), ⟨by have := HO.out; rw [HL1.out, List.append_assoc, show List.replicate j (255 : Int) ++ [255] = List.replicate (j + 1) 255 from (List.replicate_succ' ..).symm] at this; exact this⟩, HK2, HB⟩
      case measure => simp [intOf]; omega
    · have h255' : (m : Int) < 255 := by omega
      go_wp2_with ((with_reducible refine gate_builtin (b := .append) (xs := #[.tmp 12, .tmp 15]) rfl ?_); at_builtin; refine Kd.R_append (Kd.int .u8) (w0 := w0) w0.heap.size rfl (.tmp 12) (.tmp 15) 22 5 (.int .u8 0) 1 rfl Try.underlying22 info5 rfl (by decide) (by omega) _ l1 (m : Int) [.int .u8 (m : Int)] (fun k => P0 k ∨ w.heap.size ≤ k) (fun _ => False) rfl rfl ?aP (fun _ hk => hk.elim) ?aF ?aO ?aB ?aS ?aL ?_; (case aP => exact rfl); (case aB => exact HB.out); (case aF => exact fun k hk => .inr (Nat.le_trans hsz.out hk)); (case aO => exact HO.out); (case aS => exact HB.out.size); (case aL => have := hlj.out; omega); intro v6 w7 ho hb hg hat; have HK2 := Aside0.mk (Kept.of_grown (S := P0) hg HK.out (fun k e_ => HO.out.1 k e_)); clear hg hat HK; replace HO := Aside0.mk ho; replace HB := Aside0.mk hb; clear ho hb)
      go_ret
      refine ⟨_, rfl, ?_, HB.out, HK2.out⟩
      have := HO.out
      rw [HL1.out, List.append_assoc] at this
      have e1 : n / 255 = j := by omega
      have e2 : n % 255 = m := by omega
      rw [lzLay, e1, e2]
      exact this
theorem mn_nat (a : Nat) : mn (a : Int) 15 = ((min 15 a : Nat) : Int) := by unfold mn; split <;> omega
theorem head_or (a m : Nat) : Go.bits .or .i64 (((min 15 a : Nat) : Int) * 16) ((min 15 m : Nat) : Int) = lzHead a m := by
  rw [bits_join .i64 62 (by decide) wraps_i64 4 _ _ (by omega) (by omega) (by omega) (by omega) (by omega) (by omega), lzHead]
  omega
theorem head_bt (a m : Nat) : 0 ≤ lzHead a m ∧ lzHead a m ≤ 255 := by unfold lzHead; omega
theorem lit_byte (a m : Nat) : Go.bits .or .i64 (mn (a : Int) 15 * 16) (mn (m : Int) 15) % 256 = lzHead a m := by
  rw [mn_nat, mn_nat, head_or]
  have := head_bt a m
  omega
set_option maxHeartbeats 1600000 in
set_option maxRecDepth 100000 in
theorem literals_calls (P0 : Nat → Prop) (v : Value) (l0 : List Int) (A1 : Option Addr) (c1 : Nat) (l1 : List Int) (m : Nat) (w0 w : World) (hB : Below w0.heap.size w0 w) (ho0 : Kd.R (Kd.int .u8) 5 w w0.heap.size P0 v l0) (hr1 : Kd.C (Kd.int .u8) w0 A1 l1.length l1) (hl : l0.length + 2 * l1.length < 70368744177663) (hm : m < 70368744177664) :
    Calls Try.prog 16 #[v, .slice A1 l1.length c1, .int .i64 m] w fun e w' => ∃ v', e = .returned v' ∧ Kd.R (Kd.int .u8) 5 w' w0.heap.size (fun k => P0 k ∨ w.heap.size ≤ k) v' (l0 ++ lzLit l1 m) ∧ Below w0.heap.size w0 w' ∧ Kept w w' P0 := by
  have HO := Aside0.mk (show Kd.R (Kd.int .u8) 5 w w0.heap.size (fun k => P0 k ∨ w.heap.size ≤ k) v l0 from Kd.R_mono ho0 (fun k hk => .inl hk))
  have HK := Aside0.mk (Kept.refl w P0)
  have HB := Aside0.mk hB
  have HR := Aside0.mk hr1
  have HL := Aside0.mk hl
  clear hB ho0 hr1 hl
  have hsz := Aside0.mk HK.out.1
  have HY := Aside0.mk (lit_byte l1.length m)
  go_enter Try.func16, Try.ntmps16
  go_upto_if 21 with ((with_reducible refine gate_builtin (b := .append) (xs := #[.tmp 11, .tmp 18]) rfl ?_); at_builtin; refine Kd.R_append (Kd.int .u8) (w0 := w0) w0.heap.size rfl (.tmp 11) (.tmp 18) 22 5 (.int .u8 0) 1 rfl Try.underlying22 info5 rfl (by decide) (by omega) v l0 (Go.bits .or .i64 (mn (l1.length : Int) 15 * 16) (mn (m : Int) 15) % 256) [.int .u8 (Go.bits .or .i64 (mn (l1.length : Int) 15 * 16) (mn (m : Int) 15) % 256)] (fun k => P0 k ∨ w.heap.size ≤ k) (fun _ => False) rfl rfl ?aP (fun _ hk => hk.elim) ?aF ?aO ?aB ?aS ?aL ?_; (case aP => exact rfl); (case aB => exact HB.out); (case aF => exact fun k hk => .inr (Nat.le_trans hsz.out hk)); (case aO => exact HO.out); (case aS => exact HB.out.size); (case aL => have := HL.out; omega); intro v6 w7 ho hb hg hat; have HK2 := Aside0.mk (Kept.of_grown (S := P0) hg HK.out (fun k e_ => HO.out.1 k e_)); clear hg hat HK; replace HO := Aside0.mk ho; replace HB := Aside0.mk hb; clear ho hb)
  have HO1 := HO.out
  rw [HY.out] at HO1
  replace HO := Aside0.mk HO1
  clear HO1 HY
  have hf : (l0 ++ [lzHead l1.length m]).length = l0.length + 1 := by simp
  have hll := HL.out
  have HF := Aside0.mk hf
  clear hf
  obtain ⟨l2, hl2⟩ : ∃ l2, l2 = l0 ++ [lzHead l1.length m] := ⟨_, rfl⟩
  rw [← hl2] at HO HF
  have HL2 := Aside0.mk hl2
  clear hl2
  generalize ha : (if (15 : Int) < (l1.length : Int) then (15 : Int) else (l1.length : Int)) = a
  generalize hb : (if (15 : Int) < (m : Int) then (15 : Int) else (m : Int)) = b
  have HA := Aside0.mk ha
  clear ha hb
  go_cut [0] (fun v0 wc => ∃ l3, Aside0 (l3 = l2 ++ (if 15 ≤ l1.length then lzLay (l1.length - 15) else [])) ∧ Aside0 (Kd.R (Kd.int .u8) 5 wc w0.heap.size (fun k => P0 k ∨ w.heap.size ≤ k) v0 l3) ∧ Aside0 (Below w0.heap.size w0 wc) ∧ Aside0 (Kept w wc P0))
  case first =>
    by_cases h15 : 15 ≤ l1.length
    · have hc : (a == 15) = true := by rw [beq_iff_eq, ← HA.out]; split <;> omega
      rw [hc]
      have hn : ((l1.length : Int) - 15) = ((l1.length - 15 : Nat) : Int) := by omega
      go_wp2_with (go_at_call 17; (try rw [hn]); refine (lay_calls _ _ l2 (l1.length - 15) w0 _ HB.out HO.out (by have := HF.out; omega)).mono ?_; rintro e w' ⟨v', rfl, ho, hb, hk⟩; have HO2 := Aside0.mk (Kd.R_mono ho (ok' := fun k => P0 k ∨ w.heap.size ≤ k) (fun k hk => hk.elim (fun h => h) (fun h => .inr (Nat.le_trans HK2.out.1 h)))); have HB2 := Aside0.mk hb; have HK3 := Aside0.mk (Kept.then_ HK2.out hk (fun k hk => hk)); clear ho hb hk)
      go_meet
      case rel => exact ⟨_, ⟨by rw [if_pos h15]⟩, HO2, HB2, HK3⟩
    · have hc : (a == 15) = false := by rw [beq_eq_false_iff_ne, ← HA.out]; split <;> omega
      rw [hc]
      go_wp2
      go_meet
      case rel => exact ⟨l2, ⟨by rw [if_neg h15]; simp⟩, HO, HB, HK2⟩
  case rest =>
    clear HO HB HK2
    obtain ⟨l3, HL3, HO, HB, HK⟩ := hcut
    have hl3 := Aside0.mk (show l3.length + l1.length < 140737488355328 by rw [HL3.out]; have := HF.out; split <;> simp [lzLay] <;> omega)
    go_wp2_with ((with_reducible refine gate_builtin (b := .append) (xs := #[.tmp 27, .tmp 28]) rfl ?_); at_builtin; refine Kd.R_append_rows (Kd.int .u8) (w0 := w0) w0.heap.size rfl (.tmp 27) (.tmp 28) 22 5 (.int .u8 0) 1 rfl Try.underlying22 info5 rfl (by decide) (by omega) _ l3 l1 _ _ _ (fun k => P0 k ∨ w.heap.size ≤ k) (fun _ => False) rfl rfl ?aO ?aR (fun _ _ h => h) (fun _ h => h.elim) ?aF ?aB ?aS ?aL ?_; (case aR => exact Kd.C_below HR.out HB.out); (case aB => exact HB.out); (case aF => exact fun k hk => .inr (Nat.le_trans HK.out.1 hk)); (case aO => exact HO.out); (case aS => exact HB.out.size); (case aL => have := hl3.out; omega); intro v9 w9 ho hb hg hat; have HK2 := Aside0.mk (Kept.of_grown (S := P0) hg HK.out (fun k e_ => HO.out.1 k e_)); clear hg hat HK; replace HO := Aside0.mk ho; replace HB := Aside0.mk hb; clear ho hb)
    go_ret
    refine ⟨_, rfl, ?_, HB.out, HK2.out⟩
    have := HO.out
    rw [HL3.out, HL2.out] at this
    rw [lzLit, show l0 ++ lzHead l1.length m :: ((if 15 ≤ l1.length then lzLay (l1.length - 15) else []) ++ l1) = l0 ++ [lzHead l1.length m] ++ (if 15 ≤ l1.length then lzLay (l1.length - 15) else []) ++ l1 by simp]
    exact this
open Go.Maps
/-! The map: at each key the last place below s with these four bytes. -/
def keyAt (l : List Int) (i : Nat) : Int := rd l i + 256 * rd l (i + 1) + 65536 * rd l (i + 2) + 16777216 * rd l (i + 3)
def lastKey (l : List Int) : Nat → Int → Option Nat
  | 0, _ => none
  | s + 1, q => if keyAt l s = q then some s else lastKey l s q
theorem lastKey_lt (l : List Int) (q : Int) : ∀ s i, lastKey l s q = some i → i < s
  | 0, _, h => by cases h
  | s + 1, i, h => by
    rw [lastKey] at h
    split at h
    · cases h; omega
    · have := lastKey_lt l q s i h; omega
def MapIs (D : DataW Unit) (l : List Int) (s : Nat) : Prop :=
  IsMap D ∧ ∀ q : Int, has D (.int .u32 q) = (lastKey l s q).isSome ∧ ∀ i, lastKey l s q = some i → ∀ z, D.atKey (.int .u32 q) z = .lit (.int .i64 i)
theorem MapIs.start (l : List Int) : MapIs (.map []) l 0 := ⟨isMap_empty, fun q => ⟨rfl, fun i h => by cases h⟩⟩
theorem MapIs.step {D : DataW Unit} {l : List Int} {s : Nat} (h : MapIs D l s) : MapIs (D.put (.int .u32 (keyAt l s)) (.lit (.int .i64 s))) l (s + 1) := by
  refine ⟨h.1.put _ _, fun q => ?_⟩
  rw [lastKey]
  by_cases hq : keyAt l s = q
  · subst hq
    rw [if_pos rfl]
    refine ⟨has_put_same h.1 (show WideAt.IsKeyLit (.int .u32 _) from trivial) _, fun i hi z => ?_⟩
    cases hi
    exact atKey_put_same h.1 (show WideAt.IsKeyLit (.int .u32 _) from trivial) _ z
  · rw [if_neg hq]
    have hne : (Lit.int .u32 q) ≠ .int .u32 (keyAt l s) := by
      intro e
      injection e with _ e
      exact hq e.symm
    rw [has_put_other hne]
    refine ⟨(h.2 q).1, fun i hi z => ?_⟩
    rw [atKey_put_other hne]
    exact (h.2 q).2 i hi z
theorem law35 : Keyed Try.prog 35 := int_keyed Try.underlying35
theorem zero3 (w : World) : (zeroValue 3).run Try.prog w = .ok (.int .i64 0) w := by kernel_rfl
theorem u32_wf {q : Int} (h0 : 0 ≤ q) (h1 : q < 4294967296) : (Lit.int .u32 q).wf = true := by
  simp [Lit.wf, IntKind.min, IntKind.max, IntKind.signed, IntKind.bits]
  omega
theorem i64_wf {q : Int} (h0 : 0 ≤ q) (h1 : q < 4294967296) : (Lit.int .i64 q).wf = true := by
  simp [Lit.wf, IntKind.min, IntKind.max, IntKind.signed, IntKind.bits]
  omega
theorem keyAt_bt {l : List Int} (h : Bts l) {i : Nat} (hi : i + 4 ≤ l.length) : 0 ≤ keyAt l i ∧ keyAt l i < 4294967296 := by
  have h0 := h.at i (by omega) (by omega)
  have h1 := h.at (i + 1) (by omega) (by omega)
  have h2 := h.at (i + 2) (by omega) (by omega)
  have h3 := h.at (i + 3) (by omega) (by omega)
  unfold keyAt
  omega
theorem wraps_u32 (n : Int) (h₀ : 0 ≤ n) (h₁ : n < 2 ^ 32) : IntKind.u32.wrap n = n := by rw [IntKind.wrap_u32]; omega
theorem or32 (i : Nat) (x y : Int) (hx : 0 ≤ x ∧ x < 2 ^ i) (hy : 0 ≤ y) (hd : y % 2 ^ i = 0) (hlt : y < 4294967296) (hxl : x < 4294967296) : Go.bits .or .u32 x y = x + y := by
  rw [bits_or_swap, bits_join .u32 32 (by decide) wraps_u32 i y x hy hd (by simpa using hlt) hx.1 hx.2 (by simpa using hxl)]
  omega
theorem rd_drop (l : List Int) (i : Nat) (j : Nat) : rd (l.drop i) (j : Int) = rd l ((i : Int) + j) := by
  unfold rd
  rw [List.getD_eq_getElem?_getD, List.getD_eq_getElem?_getD, List.getElem?_drop, show ((i : Int) + (j : Int)).toNat = i + ((j : Int)).toNat by omega]
theorem key_f {l : List Int} (h : Bts l) {i : Nat} (hi : i + 4 ≤ l.length) : lz_key.f (l.drop i) = some (keyAt l i) := by
  have h0 := h.at i (by omega) (by omega)
  have h1 := h.at (i + 1) (by omega) (by omega)
  have h2 := h.at (i + 2) (by omega) (by omega)
  have h3 := h.at (i + 3) (by omega) (by omega)
  have hl : (l.drop i).length = l.length - i := List.length_drop
  have e0 : rd (l.drop i) 0 = rd l i := by have := rd_drop l i 0; simpa using this
  have e1 : rd (l.drop i) 1 = rd l (i + 1) := rd_drop l i 1
  have e2 : rd (l.drop i) 2 = rd l (i + 2) := rd_drop l i 2
  have e3 : rd (l.drop i) 3 = rd l (i + 3) := rd_drop l i 3
  unfold lz_key.f keyAt
  rw [if_pos (by omega), if_pos (by omega), if_pos (by omega), if_pos (by omega), e0, e1, e2, e3]
  generalize rd l i = a at *
  generalize rd l (i + 1) = b at *
  generalize rd l (i + 2) = c at *
  generalize rd l (i + 3) = d at *
  have q0 : a % 4294967296 = a := by omega
  have q1 : b % 4294967296 * 256 % 4294967296 = b * 256 := by omega
  have q2 : c % 4294967296 * 65536 % 4294967296 = c * 65536 := by omega
  have q3 : d % 4294967296 * 16777216 % 4294967296 = d * 16777216 := by omega
  rw [q0, q1, q2, q3]
  rw [or32 8 a (b * 256) (by constructor <;> omega) (by omega) (by omega) (by omega) (by omega)]
  rw [or32 16 (a + b * 256) (c * 65536) (by constructor <;> omega) (by omega) (by omega) (by omega) (by omega)]
  rw [or32 24 (a + b * 256 + c * 65536) (d * 16777216) (by constructor <;> omega) (by omega) (by omega) (by omega) (by omega)]
  rw [Option.some.injEq]
  omega
def ext (l : List Int) (at_ k : Nat) : Nat → Nat → Nat
  | 0, n => n
  | f + 1, n => if at_ + n < l.length ∧ rd l (at_ + n : Nat) = rd l (k + n : Nat) then ext l at_ k f (n + 1) else n
def lzBack (d : Nat) : List Int := [((d % 256 : Nat) : Int), ((d / 256 : Nat) : Int)]
def lzPart (l : List Int) (frm at_ k n : Nat) : List Int :=
  lzLit ((l.take at_).drop frm) (n - 4) ++ lzBack (at_ - k) ++ (if 19 ≤ n then lzLay (n - 19) else [])
def pk (l : List Int) : Nat → Nat → Nat → List Int → List Int
  | 0, _, frm, out => out ++ lzLit (l.drop frm) 0
  | f + 1, at_, frm, out => if at_ + 4 ≤ l.length then
      match lastKey l at_ (keyAt l at_) with
      | some k => if at_ - k ≤ 65535 then pk l f (at_ + ext l at_ k l.length 4) (at_ + ext l at_ k l.length 4) (out ++ lzPart l frm at_ k (ext l at_ k l.length 4))
        else pk l f (at_ + 1) frm out
      | none => pk l f (at_ + 1) frm out
    else out ++ lzLit (l.drop frm) 0
def lzPack (l : List Int) : List Int := pk l (l.length + 1) 0 0 []
def lz_Pack.f (l0 : List Int) : Option (List Int) := if l0.length < 1048577 ∧ Bts l0 then some (lzPack l0) else none
theorem ownsMap_Kept {P : Program} {k : TypeId} {R : Value → Option (DataW Unit × List MemPlace)} {W W' : World} {b n : Nat} {D : DataW Unit} {S : Nat → Prop} (h : W.ownsMap P k R b n D) (hk : Kept W W' S) (hn : ¬ S b) : W'.ownsMap P k R b n D := by
  have hlt := h.lt
  obtain ⟨es, clock, hb, r⟩ := h
  exact ⟨es, clock, (hk.2 b hlt hn).trans hb, r⟩
theorem ownsMap_below {P : Program} {k : TypeId} {R : Value → Option (DataW Unit × List MemPlace)} {W W' : World} {b n : Nat} {D : DataW Unit} (h : W.ownsMap P k R b n D) (hk : Below W.heap.size W W') : W'.ownsMap P k R b n D :=
  ownsMap_Kept h (Kept.of_below hk (fun _ => False)) (fun h => h)
theorem const_reads (W : World) (xs : List Int) (e : TypeId) (fr : Nat × Nat) (h : xs.length ≤ 9223372036854775807) : (Kd.int .u8).C (W.alloc (.cells (xs.map (Value.int .u8)).toArray e fr)) (some ⟨W.heap.size, 0, none⟩) xs.length xs := by
  refine Kd.C_of_reads (enc := Value.int .u8) (d := (0 : Int)) (h1 := fun _ => rfl) ⟨rfl, h, fun hp => ⟨_, rfl, fun i hi => ?_⟩⟩
  rw [add_plain]
  rw [World.cell?_alloc_mark, List.getElem?_toArray, List.getElem?_map, List.getElem?_eq_getElem hi, List.getD_eq_getElem?_getD, List.getElem?_eq_getElem hi]
  rfl
theorem ext_le (l : List Int) (at_ k : Nat) : ∀ f n, at_ + n ≤ l.length → n ≤ ext l at_ k f n ∧ at_ + ext l at_ k f n ≤ l.length
  | 0, n, h => ⟨Nat.le_refl _, h⟩
  | f + 1, n, h => by
    rw [ext]
    split
    · rename_i hc
      have := ext_le l at_ k f (n + 1) (by omega)
      omega
    · exact ⟨Nat.le_refl _, h⟩
theorem lzLit_len (lits : List Int) (m : Nat) : (lzLit lits m).length ≤ 3 + 2 * lits.length := by
  unfold lzLit
  split <;> simp [lzLay] <;> omega
set_option maxHeartbeats 4000000 in
set_option maxRecDepth 100000 in
theorem lz_Pack.calls (A0 : Option Addr) (c0 : Nat) (l0 : List Int) (r : List Int) (w : World) (hr0 : Kd.C (Kd.int .u8) w A0 l0.length l0) (hc0 : l0.length ≤ c0) (h : lz_Pack.f l0 = some r) :
    Calls Try.prog 10 #[.slice A0 l0.length c0] w fun e w' => ∃ v0_ : Value, e = .returned (v0_) ∧ Kd.R (Kd.int .u8) 5 w' w.heap.size (fun _ => True) v0_ r ∧ Below w.heap.size w w' := by
  unfold lz_Pack.f at h
  by_cases hg : l0.length < 1048577 ∧ Bts l0
  · rw [if_pos hg] at h
    obtain ⟨hl, hbt⟩ := hg
    obtain rfl := Option.some.inj h
    have HBT := Aside0.mk hbt
    have HC := Aside0.mk hc0
    have HR := Aside0.mk hr0
    clear h hbt hc0 hr0
    have hmm := @run_makeMap Try.prog
    have HB0 := Aside0.mk (below_alloc (Below.refl w.heap.size w) (.map #[] 0))
    have HM0 := Aside0.mk (World.ownsMap_made w Try.prog 35 (plainElem (H := Unit) Try.prog 3))
    go_enter Try.func10, Try.ntmps10
    go_wp2
    clear hmm
    go_loopw [3, 5, 6, 7] (fun v3 v5 v6 v7 w' => ∃ (at_ frm seen f : Nat) (out : List Int) (D : DataW Unit), v5 = .int .i64 seen ∧ v6 = .int .i64 frm ∧ v7 = .int .i64 at_ ∧ seen ≤ at_ ∧ frm ≤ at_ ∧ at_ ≤ l0.length ∧ l0.length < at_ + f ∧ out.length ≤ 4 * frm ∧ Aside0 (pk l0 f at_ frm out = lzPack l0) ∧ Aside0 (Kd.R (Kd.int .u8) 5 w' w.heap.size (fun k => k ≠ w.heap.size) v3 out) ∧ Aside0 (w'.ownsMap Try.prog 35 (plainElem (H := Unit) Try.prog 3) w.heap.size seen D) ∧ Aside0 (MapIs D l0 seen) ∧ Aside0 (Below w.heap.size w w')) (fun _ _ _ v7 _ => l0.length + 1 - (intOf v7).toNat)
    case atStart => exact ⟨0, 0, 0, l0.length + 1, [], .map [], rfl, rfl, rfl, Nat.le_refl _, Nat.le_refl _, Nat.zero_le _, by omega, by simp, ⟨rfl⟩, ⟨Kd.R_nil _ _ _ _ _⟩, HM0, ⟨MapIs.start l0⟩, HB0⟩
    case round =>
      clear HB0 HM0
      obtain ⟨at_, frm, seen, f, out, D, rfl, rfl, rfl, hsa, hfa, hal, hf, hout, HPK, HO, HM, HMI, HB⟩ := hrel
      obtain ⟨f, rfl⟩ : ∃ f', f = f' + 1 := ⟨f - 1, by omega⟩
      by_cases c1 : at_ + 4 ≤ l0.length
      · have c1i : (4 : Int) ≤ (l0.length : Int) - (at_ : Int) := by omega
        have H := HPK.out
        rw [pk, if_pos c1] at H
        replace HPK := Aside0.mk H
        clear H
        go_wp2
        go_loopw [5] (fun v5 w' => ∃ (s : Nat) (D : DataW Unit), v5 = .int .i64 s ∧ s ≤ at_ ∧ Aside0 (Kd.R (Kd.int .u8) 5 w' w.heap.size (fun k => k ≠ w.heap.size) u3 out) ∧ Aside0 (w'.ownsMap Try.prog 35 (plainElem (H := Unit) Try.prog 3) w.heap.size s D) ∧ Aside0 (MapIs D l0 s) ∧ Aside0 (Below w.heap.size w w')) (fun v5 _ => at_ - (intOf v5).toNat)
        case atStart => exact ⟨seen, D, rfl, hsa, HO, HM, HMI, HB⟩
        case round =>
          clear HO HM HMI HB
          obtain ⟨s, D, rfl, hs, HO, HM, HMI, HB⟩ := hrel
          by_cases c2 : s < at_
          · have hky := Aside0.mk (keyAt_bt HBT.out (i := s) (by omega))
            obtain ⟨i0, hi0, _, hsz0, _⟩ := info_parts info5
            obtain ⟨A1, hcut, hA1, hC1⟩ := print_drop_of (P := Try.prog) (Value.int .u8) 0 22 5 .i64 Try.underlying22 hi0 hsz0 A0 c0 l0 (s : Int) (by omega) (by omega) HC.out
            have HR1 := Aside0.mk (Kd.C_of_reads (h1 := fun _ => rfl) (hA1 _ (Kd.reads_of_C HR.out)))
            have HC1 := Aside0.mk hC1
            have HK1 := Aside0.mk (key_f HBT.out (i := s) (by omega))
            rw [Int.toNat_natCast] at HR1 hcut HC1
            clear hA1 hC1 hi0 hsz0
            generalize l0.drop s = t at *
            go_wp2_with (first
              | (go_at_call 15; refine (lz_key.calls A1 _ t _ _ (Kd.C_below HR1.out HB.out) HC1.out HK1.out).mono ?_; rintro e w1 ⟨rfl, hd⟩; have HO1 := Aside0.mk (Kd.R_below HO.out hd.below); have HM1 := Aside0.mk (ownsMap_below HM.out hd.below); have HB1 := Aside0.mk (below_step HB.out hd.below); clear hd)
              | (at_mapUpdate; refine wpList_mapUpdate_own _ rfl _ _ _ 34 rfl 35 3 law35 Try.underlying34 (plainElem (H := Unit) Try.prog 3) w.heap.size s D rfl HM1.out (by unfold maxLen; omega) _ _ (.int .u32 (keyAt l0 s)) rfl rfl (keyOf_int_mk Try.underlying35 (u32_wf hky.out.1 hky.out.2)) (.lit (.int .i64 s)) [] (plainElem_int Try.underlying3 (i64_wf (by omega) (by omega))) ?_; intro w2 hown hgrow; have HM2 := Aside0.mk hown; have HO2 := Aside0.mk (Kd.R_grown HO1.out hgrow (fun k hk e => hk (by injection e))); have HB2 := Aside0.mk (HB1.out.grown hgrow HB1.out.size (fun k e => by injection e with e; omega)); clear hown hgrow))
            go_roundw
            case rel => exact ⟨s + 1, _, by go_num, by omega, HO2, HM2, ⟨MapIs.step HMI.out⟩, HB2⟩
            case measure => simp [intOf]; omega
          · obtain rfl : s = at_ := by omega
            have hky := Aside0.mk (keyAt_bt HBT.out (i := s) c1)
            obtain ⟨i0, hi0, _, hsz0, _⟩ := info_parts info5
            obtain ⟨A1, hcut, hA1, hC1⟩ := print_drop_of (P := Try.prog) (Value.int .u8) 0 22 5 .i64 Try.underlying22 hi0 hsz0 A0 c0 l0 (s : Int) (by omega) (by omega) HC.out
            have HR1 := Aside0.mk (Kd.C_of_reads (h1 := fun _ => rfl) (hA1 _ (Kd.reads_of_C HR.out)))
            have HC1 := Aside0.mk hC1
            have HK1 := Aside0.mk (key_f HBT.out (i := s) c1)
            rw [Int.toNat_natCast] at HR1 hcut HC1
            clear hA1 hC1 hi0 hsz0
            generalize l0.drop s = t at *
            have hhas := (HMI.out.2 (keyAt l0 s)).1
            cases hlk : lastKey l0 s (keyAt l0 s) with
            | none =>
              have H := HPK.out
              rw [hlk] at H
              replace HPK := Aside0.mk H
              clear H
              rw [hlk, Option.isSome_none] at hhas
              go_wp2_with (first
                | (go_at_call 15; refine (lz_key.calls A1 _ t _ _ (Kd.C_below HR1.out HB.out) HC1.out HK1.out).mono ?_; rintro e w1 ⟨rfl, hd⟩; have HO1 := Aside0.mk (Kd.R_below HO.out hd.below); have HM1 := Aside0.mk (ownsMap_below HM.out hd.below); have HB1 := Aside0.mk (below_step HB.out hd.below); clear hd)
                | (at_lookup; refine wpList_lookup_own_ok_int _ rfl _ _ 34 rfl 35 3 .i64 law35 Try.underlying34 Try.underlying3 (zero3 _) w.heap.size s D rfl HM1.out _ (.int .u32 (keyAt l0 s)) rfl (keyOf_int_mk Try.underlying35 (u32_wf hky.out.1 hky.out.2)) ?_; intro c hat hwc; clear hat hwc; rw [hhas]))
              go_roundw
              case rel => exact ⟨s + 1, frm, s, f, out, D, rfl, rfl, by go_num, by omega, by omega, by omega, by omega, hout, HPK, HO1, HM1, HMI, HB1⟩
              case measure => simp [intOf]; omega
            | some k =>
              have hks := lastKey_lt _ _ _ _ hlk
              have hatk := Aside0.mk ((HMI.out.2 (keyAt l0 s)).2 k hlk (.lit (.int .i64 0)))
              have H := HPK.out
              rw [hlk] at H
              replace HPK := Aside0.mk H
              clear H
              rw [hlk, Option.isSome_some] at hhas
              by_cases c3 : s - k ≤ 65535
              · have c3i : ¬ (65535 : Int) < (s : Int) - (k : Int) := by omega
                have H := HPK.out
                dsimp only at H
                rw [if_pos c3] at H
                replace HPK := Aside0.mk H
                clear H
                go_wp2_with (first
                  | (go_at_call 15; refine (lz_key.calls A1 _ t _ _ (Kd.C_below HR1.out HB.out) HC1.out HK1.out).mono ?_; rintro e w1 ⟨rfl, hd⟩; have HO1 := Aside0.mk (Kd.R_below HO.out hd.below); have HM1 := Aside0.mk (ownsMap_below HM.out hd.below); have HB1 := Aside0.mk (below_step HB.out hd.below); clear hd)
                  | (at_lookup; refine wpList_lookup_own_ok_int _ rfl _ _ 34 rfl 35 3 .i64 law35 Try.underlying34 Try.underlying3 (zero3 _) w.heap.size s D rfl HM1.out _ (.int .u32 (keyAt l0 s)) rfl (keyOf_int_mk Try.underlying35 (u32_wf hky.out.1 hky.out.2)) ?_; intro c hat hwc; (obtain rfl : (k : Int) = c := (by have := hatk.out.symm.trans hat; injection this with this; injection this)); clear hat hwc; rw [hhas]))
                clear HO HM HB
                go_loopw [10] (fun v10 w' => ∃ (n g : Nat), v10 = .int .i64 n ∧ 4 ≤ n ∧ s + n ≤ l0.length ∧ l0.length ≤ s + n + g ∧ Aside0 (ext l0 s k g n = ext l0 s k l0.length 4) ∧ Aside0 (Kd.R (Kd.int .u8) 5 w' w.heap.size (fun k => k ≠ w.heap.size) u3 out) ∧ Aside0 (w'.ownsMap Try.prog 35 (plainElem (H := Unit) Try.prog 3) w.heap.size s D) ∧ Aside0 (Below w.heap.size w w')) (fun v10 _ => l0.length - (intOf v10).toNat)
                case atStart => exact ⟨4, l0.length, rfl, Nat.le_refl _, by omega, by omega, ⟨rfl⟩, HO1, HM1, HB1⟩
                case round =>
                  clear HO1 HM1 HB1
                  obtain ⟨n, g, rfl, hn4, hsn, hg, HX, HO, HM, HB⟩ := hrel
                  have hsn0 : 0 ≤ (s : Int) + n := by omega
                  have hkn0 : 0 ≤ (k : Int) + n := by omega
                  have hw1 : IntKind.i64.wrap ((s : Int) + n) = (s : Int) + n := by rw [IntKind.wrap_i64]; omega
                  have hw2 : IntKind.i64.wrap ((k : Int) + n) = (k : Int) + n := by rw [IntKind.wrap_i64]; omega
                  by_cases c4 : s + n < l0.length
                  · have c4i : (s : Int) + n < l0.length := by omega
                    have c4k : (k : Int) + n < l0.length := by omega
                    obtain ⟨ad, rfl, hx1⟩ := Kd.at_int (Kd.C_below HR.out HB.out) ((s : Int) + n) hsn0 c4i
                    obtain ⟨ad', he, hx2⟩ := Kd.at_int (Kd.C_below HR.out HB.out) ((k : Int) + n) hkn0 c4k
                    obtain rfl : ad = ad' := by injection he
                    clear he
                    obtain ⟨g, rfl⟩ : ∃ g', g = g' + 1 := ⟨g - 1, by omega⟩
                    have c4b : decide ((s : Int) + n < l0.length) = true := decide_eq_true c4i
                    have p1 := eq_true hsn0
                    have p2 := eq_true hkn0
                    have q1 := eq_true c4i
                    have q2 := eq_true c4k
                    clear hsn0 hkn0 c4i c4k
                    by_cases c5 : rd l0 ((s : Int) + n) = rd l0 ((k : Int) + n)
                    · have hXn : ext l0 s k (g + 1) n = ext l0 s k g (n + 1) := by rw [ext, if_pos ⟨c4, by rw [Int.natCast_add, Int.natCast_add]; exact c5⟩]
                      have c5b : (rd l0 ((s : Int) + n) == rd l0 ((k : Int) + n)) = true := beq_iff_eq.mpr c5
                      have HXn := Aside0.mk (hXn.symm.trans HX.out)
                      clear hXn c5
                      generalize rd l0 ((s : Int) + n) = x1 at *
                      generalize rd l0 ((k : Int) + n) = x2 at *
                      go_wp2
                      repeat (go_quiet (fail); try go_wp2)
                      go_roundw
                      case rel => exact ⟨n + 1, g, by go_num, by omega, by omega, by omega, HXn, ⟨Kd.R_drewN HO.out _⟩, ⟨ownsMap_below HM.out (pw_below_drewN (Below.refl _ _) _)⟩, ⟨pw_below_drewN HB.out _⟩⟩
                      case measure => simp [intOf]; omega
                    · have hXn : ext l0 s k (g + 1) n = n := by rw [ext, if_neg]; rintro ⟨_, h⟩; rw [Int.natCast_add, Int.natCast_add] at h; exact c5 h
                      have c5b : (rd l0 ((s : Int) + n) == rd l0 ((k : Int) + n)) = false := beq_eq_false_iff_ne.mpr c5
                      clear c5
                      generalize rd l0 ((s : Int) + n) = x1 at *
                      generalize rd l0 ((k : Int) + n) = x2 at *
                      go_upto_if 67 with (fail)
                      repeat (go_quiet (fail); go_upto_if 67 with (fail))
                      replace HO := Aside0.mk (Kd.R_drewN HO.out nq)
                      replace HM := Aside0.mk (ownsMap_below HM.out (pw_below_drewN (Below.refl _ _) nq))
                      replace HB := Aside0.mk (pw_below_drewN HB.out nq)
                      clear hx1 hx2
                      generalize wr.drewN nq = W2 at *
                      clear hcut
                      have hN : ext l0 s k l0.length 4 = n := HX.out.symm.trans hXn
                      have H := HPK.out
                      rw [hN] at H
                      replace HPK := Aside0.mk H
                      clear H hN hXn HX
                      obtain ⟨i0, hi0, _, hsz0, _⟩ := info_parts info5
                      obtain ⟨Ap, hcutp, hAp, hCp⟩ := print_mid_of (P := Try.prog) (Value.int .u8) 0 22 5 .i64 .i64 Try.underlying22 hi0 hsz0 (some ad) c0 l0 (frm : Int) (s : Int) (by omega) (by omega) (by omega) HC.out
                      have HRp := Aside0.mk (Kd.C_of_reads (h1 := fun _ => rfl) (hAp _ (Kd.reads_of_C HR.out)))
                      rw [Int.toNat_natCast, Int.toNat_natCast] at HRp hcutp
                      obtain ⟨p, hp⟩ : ∃ p, p = (l0.take s).drop frm := ⟨_, rfl⟩
                      have hpl : p.length = s - frm := by rw [hp, List.length_drop, List.length_take]; omega
                      rw [← hp] at HRp hcutp
                      have HP := Aside0.mk hp
                      have HPL := Aside0.mk hpl
                      have hll := Aside0.mk (lzLit_len p (n - 4))
                      clear hAp hCp hi0 hsz0 hp hpl
                      have hn4i : ((n : Int) - 4) = ((n - 4 : Nat) : Int) := by omega
                      have hskb : 0 ≤ (s : Int) - k ∧ (s : Int) - k ≤ 65535 := by omega
                      have hbk := Aside0.mk (show lzBack (s - k) = [((s : Int) - k) % 256, ((s : Int) - k) / 256] by rw [lzBack, show (((s - k) % 256 : Nat) : Int) = ((s : Int) - k) % 256 by omega, show (((s - k) / 256 : Nat) : Int) = ((s : Int) - k) / 256 by omega])
                      by_cases c6 : 19 ≤ n
                      · have c6i : (15 : Int) ≤ (n : Int) - 4 := by omega
                        have c6j : (15 : Int) ≤ ((n - 4 : Nat) : Int) := by omega
                        have hn19 : ((n : Int) - 4 - 15) = ((n - 19 : Nat) : Int) := by omega
                        have hn19' : (((n - 4 : Nat) : Int) - 15) = ((n - 19 : Nat) : Int) := by omega
                        go_wp2_with (first
                          | (go_at_call 16; refine (literals_calls _ _ out Ap _ p (n - 4) w _ HB.out HO.out HRp.out (by have := HPL.out; omega) (by omega)).mono ?_; rintro e w' ⟨v', rfl, ho, hb, hk⟩; have HO2 := Aside0.mk (Kd.R_mono ho (ok' := fun k => k ≠ w.heap.size) (fun k hk => hk.elim (fun h => h) (fun h e => by have := HM.out.lt; omega))); have HM2 := Aside0.mk (ownsMap_Kept HM.out hk (fun h => h rfl)); have HB2 := Aside0.mk hb; clear ho hb hk)
                          | ((with_reducible refine gate_builtin (b := .append) (xs := #[.tmp 78, .tmp 88]) rfl ?_); at_builtin; refine Kd.R_append_rows (Kd.int .u8) (w0 := w) w.heap.size rfl (.tmp 78) (.tmp 88) 22 5 (.int .u8 0) 1 rfl Try.underlying22 info5 rfl (by decide) (by omega) _ (out ++ lzLit p (n - 4)) [((s : Int) - k) % 256, ((s : Int) - k) / 256] _ _ _ (fun k => k ≠ w.heap.size) (fun _ => False) rfl rfl ?aO ?aR (fun _ _ h => h) (fun _ h => h.elim) ?aF ?aB ?aS ?aL ?_; (case aR => exact const_reads _ [((s : Int) - k) % 256, ((s : Int) - k) / 256] _ _ (by simp)); (case aB => exact below_alloc HB2.out _); (case aF => exact fun k hk e => absurd (Nat.lt_of_lt_of_le (HM2.out.alloc _).lt hk) (by rw [e]; exact Nat.lt_irrefl _)); (case aO => exact Kd.R_alloc HO2.out _); (case aS => exact (below_alloc HB2.out _).size); (case aL => have := hll.out; have := HPL.out; simp; omega); intro v9 w9 ho hb hg hat; have HM3 := Aside0.mk (World.ownsMap.kept (HM2.out.alloc _) hg (fun e => HO2.out.1 _ e.symm rfl)); have HO3 := Aside0.mk ho; have HB3 := Aside0.mk hb; clear ho hb hg hat)
                          | (go_at_call 17; (try rw [hn19]); refine (lay_calls _ _ (out ++ lzLit p (n - 4) ++ [((s : Int) - k) % 256, ((s : Int) - k) / 256]) (n - 19) w _ HB3.out HO3.out (by have := hll.out; have := HPL.out; simp; omega)).mono ?_; rintro e w' ⟨v', rfl, ho, hb, hk⟩; have HO4 := Aside0.mk (Kd.R_mono ho (ok' := fun k => k ≠ w.heap.size) (fun k hk => hk.elim (fun h => h) (fun h e => by have := HM3.out.lt; omega))); have HM4 := Aside0.mk (ownsMap_Kept HM3.out hk (fun h => h rfl)); have HB4 := Aside0.mk hb; clear ho hb hk))
                        go_roundw
                        case rel =>
                          have e1 : out ++ lzPart l0 frm s k n = out ++ lzLit p (n - 4) ++ [((s : Int) - k) % 256, ((s : Int) - k) / 256] ++ lzLay (n - 19) := by rw [lzPart, ← HP.out, hbk.out, if_pos c6]; simp
                          have HPK2 := HPK.out
                          rw [e1] at HPK2
                          exact ⟨s + n, s + n, s, f, _, D, rfl, by go_num, by go_num, by omega, by omega, hsn, by omega, by have := hll.out; have := HPL.out; simp [lzLay]; omega, ⟨HPK2⟩, HO4, HM4, HMI, HB4⟩
                        case measure => simp [intOf]; omega
                      · have c6i : ¬ (15 : Int) ≤ (n : Int) - 4 := by omega
                        have c6j : ¬ (15 : Int) ≤ ((n - 4 : Nat) : Int) := by omega
                        go_wp2_with (first
                          | (go_at_call 16; refine (literals_calls _ _ out Ap _ p (n - 4) w _ HB.out HO.out HRp.out (by have := HPL.out; omega) (by omega)).mono ?_; rintro e w' ⟨v', rfl, ho, hb, hk⟩; have HO2 := Aside0.mk (Kd.R_mono ho (ok' := fun k => k ≠ w.heap.size) (fun k hk => hk.elim (fun h => h) (fun h e => by have := HM.out.lt; omega))); have HM2 := Aside0.mk (ownsMap_Kept HM.out hk (fun h => h rfl)); have HB2 := Aside0.mk hb; clear ho hb hk)
                          | ((with_reducible refine gate_builtin (b := .append) (xs := #[.tmp 78, .tmp 88]) rfl ?_); at_builtin; refine Kd.R_append_rows (Kd.int .u8) (w0 := w) w.heap.size rfl (.tmp 78) (.tmp 88) 22 5 (.int .u8 0) 1 rfl Try.underlying22 info5 rfl (by decide) (by omega) _ (out ++ lzLit p (n - 4)) [((s : Int) - k) % 256, ((s : Int) - k) / 256] _ _ _ (fun k => k ≠ w.heap.size) (fun _ => False) rfl rfl ?aO ?aR (fun _ _ h => h) (fun _ h => h.elim) ?aF ?aB ?aS ?aL ?_; (case aR => exact const_reads _ [((s : Int) - k) % 256, ((s : Int) - k) / 256] _ _ (by simp)); (case aB => exact below_alloc HB2.out _); (case aF => exact fun k hk e => absurd (Nat.lt_of_lt_of_le (HM2.out.alloc _).lt hk) (by rw [e]; exact Nat.lt_irrefl _)); (case aO => exact Kd.R_alloc HO2.out _); (case aS => exact (below_alloc HB2.out _).size); (case aL => have := hll.out; have := HPL.out; simp; omega); intro v9 w9 ho hb hg hat; have HM3 := Aside0.mk (World.ownsMap.kept (HM2.out.alloc _) hg (fun e => HO2.out.1 _ e.symm rfl)); have HO3 := Aside0.mk ho; have HB3 := Aside0.mk hb; clear ho hb hg hat))
                        go_roundw
                        case rel =>
                          have e1 : out ++ lzPart l0 frm s k n = out ++ lzLit p (n - 4) ++ [((s : Int) - k) % 256, ((s : Int) - k) / 256] := by rw [lzPart, ← HP.out, hbk.out, if_neg c6]; simp
                          have HPK2 := HPK.out
                          rw [e1] at HPK2
                          exact ⟨s + n, s + n, s, f, _, D, rfl, by go_num, by go_num, by omega, by omega, hsn, by omega, by have := hll.out; have := HPL.out; simp ; omega, ⟨HPK2⟩, HO3, HM3, HMI, HB3⟩
                        case measure => simp [intOf]; omega
                  · have hXn : ext l0 s k g n = n := by
                      cases g with
                      | zero => rfl
                      | succ g => rw [ext, if_neg]; rintro ⟨h, _⟩; exact c4 h
                    have c4i : ¬ (s : Int) + n < l0.length := by omega
                    have c4b : decide ((s : Int) + n < l0.length) = false := decide_eq_false c4i
                    go_upto_if 67 with (fail)
                    repeat (go_quiet (fail); go_upto_if 67 with (fail))
                    replace HO := Aside0.mk (Kd.R_drewN HO.out nq)
                    replace HM := Aside0.mk (ownsMap_below HM.out (pw_below_drewN (Below.refl _ _) nq))
                    replace HB := Aside0.mk (pw_below_drewN HB.out nq)
                    generalize wr.drewN nq = W2 at *
                    clear hcut
                    have hN : ext l0 s k l0.length 4 = n := HX.out.symm.trans hXn
                    have H := HPK.out
                    rw [hN] at H
                    replace HPK := Aside0.mk H
                    clear H hN hXn HX
                    obtain ⟨i0, hi0, _, hsz0, _⟩ := info_parts info5
                    obtain ⟨Ap, hcutp, hAp, hCp⟩ := print_mid_of (P := Try.prog) (Value.int .u8) 0 22 5 .i64 .i64 Try.underlying22 hi0 hsz0 A0 c0 l0 (frm : Int) (s : Int) (by omega) (by omega) (by omega) HC.out
                    have HRp := Aside0.mk (Kd.C_of_reads (h1 := fun _ => rfl) (hAp _ (Kd.reads_of_C HR.out)))
                    rw [Int.toNat_natCast, Int.toNat_natCast] at HRp hcutp
                    obtain ⟨p, hp⟩ : ∃ p, p = (l0.take s).drop frm := ⟨_, rfl⟩
                    have hpl : p.length = s - frm := by rw [hp, List.length_drop, List.length_take]; omega
                    rw [← hp] at HRp hcutp
                    have HP := Aside0.mk hp
                    have HPL := Aside0.mk hpl
                    have hll := Aside0.mk (lzLit_len p (n - 4))
                    clear hAp hCp hi0 hsz0 hp hpl
                    have hn4i : ((n : Int) - 4) = ((n - 4 : Nat) : Int) := by omega
                    have hskb : 0 ≤ (s : Int) - k ∧ (s : Int) - k ≤ 65535 := by omega
                    have hbk := Aside0.mk (show lzBack (s - k) = [((s : Int) - k) % 256, ((s : Int) - k) / 256] by rw [lzBack, show (((s - k) % 256 : Nat) : Int) = ((s : Int) - k) % 256 by omega, show (((s - k) / 256 : Nat) : Int) = ((s : Int) - k) / 256 by omega])
                    by_cases c6 : 19 ≤ n
                    · have c6i : (15 : Int) ≤ (n : Int) - 4 := by omega
                      have c6j : (15 : Int) ≤ ((n - 4 : Nat) : Int) := by omega
                      have hn19 : ((n : Int) - 4 - 15) = ((n - 19 : Nat) : Int) := by omega
                      have hn19' : (((n - 4 : Nat) : Int) - 15) = ((n - 19 : Nat) : Int) := by omega
                      go_wp2_with (first
                        | (go_at_call 16; refine (literals_calls _ _ out Ap _ p (n - 4) w _ HB.out HO.out HRp.out (by have := HPL.out; omega) (by omega)).mono ?_; rintro e w' ⟨v', rfl, ho, hb, hk⟩; have HO2 := Aside0.mk (Kd.R_mono ho (ok' := fun k => k ≠ w.heap.size) (fun k hk => hk.elim (fun h => h) (fun h e => by have := HM.out.lt; omega))); have HM2 := Aside0.mk (ownsMap_Kept HM.out hk (fun h => h rfl)); have HB2 := Aside0.mk hb; clear ho hb hk)
                        | ((with_reducible refine gate_builtin (b := .append) (xs := #[.tmp 78, .tmp 88]) rfl ?_); at_builtin; refine Kd.R_append_rows (Kd.int .u8) (w0 := w) w.heap.size rfl (.tmp 78) (.tmp 88) 22 5 (.int .u8 0) 1 rfl Try.underlying22 info5 rfl (by decide) (by omega) _ (out ++ lzLit p (n - 4)) [((s : Int) - k) % 256, ((s : Int) - k) / 256] _ _ _ (fun k => k ≠ w.heap.size) (fun _ => False) rfl rfl ?aO ?aR (fun _ _ h => h) (fun _ h => h.elim) ?aF ?aB ?aS ?aL ?_; (case aR => exact const_reads _ [((s : Int) - k) % 256, ((s : Int) - k) / 256] _ _ (by simp)); (case aB => exact below_alloc HB2.out _); (case aF => exact fun k hk e => absurd (Nat.lt_of_lt_of_le (HM2.out.alloc _).lt hk) (by rw [e]; exact Nat.lt_irrefl _)); (case aO => exact Kd.R_alloc HO2.out _); (case aS => exact (below_alloc HB2.out _).size); (case aL => have := hll.out; have := HPL.out; simp; omega); intro v9 w9 ho hb hg hat; have HM3 := Aside0.mk (World.ownsMap.kept (HM2.out.alloc _) hg (fun e => HO2.out.1 _ e.symm rfl)); have HO3 := Aside0.mk ho; have HB3 := Aside0.mk hb; clear ho hb hg hat)
                        | (go_at_call 17; (try rw [hn19]); refine (lay_calls _ _ (out ++ lzLit p (n - 4) ++ [((s : Int) - k) % 256, ((s : Int) - k) / 256]) (n - 19) w _ HB3.out HO3.out (by have := hll.out; have := HPL.out; simp; omega)).mono ?_; rintro e w' ⟨v', rfl, ho, hb, hk⟩; have HO4 := Aside0.mk (Kd.R_mono ho (ok' := fun k => k ≠ w.heap.size) (fun k hk => hk.elim (fun h => h) (fun h e => by have := HM3.out.lt; omega))); have HM4 := Aside0.mk (ownsMap_Kept HM3.out hk (fun h => h rfl)); have HB4 := Aside0.mk hb; clear ho hb hk))
                      go_roundw
                      case rel =>
                        have e1 : out ++ lzPart l0 frm s k n = out ++ lzLit p (n - 4) ++ [((s : Int) - k) % 256, ((s : Int) - k) / 256] ++ lzLay (n - 19) := by rw [lzPart, ← HP.out, hbk.out, if_pos c6]; simp
                        have HPK2 := HPK.out
                        rw [e1] at HPK2
                        exact ⟨s + n, s + n, s, f, _, D, rfl, by go_num, by go_num, by omega, by omega, hsn, by omega, by have := hll.out; have := HPL.out; simp [lzLay]; omega, ⟨HPK2⟩, HO4, HM4, HMI, HB4⟩
                      case measure => simp [intOf]; omega
                    · have c6i : ¬ (15 : Int) ≤ (n : Int) - 4 := by omega
                      have c6j : ¬ (15 : Int) ≤ ((n - 4 : Nat) : Int) := by omega
                      go_wp2_with (first
                        | (go_at_call 16; refine (literals_calls _ _ out Ap _ p (n - 4) w _ HB.out HO.out HRp.out (by have := HPL.out; omega) (by omega)).mono ?_; rintro e w' ⟨v', rfl, ho, hb, hk⟩; have HO2 := Aside0.mk (Kd.R_mono ho (ok' := fun k => k ≠ w.heap.size) (fun k hk => hk.elim (fun h => h) (fun h e => by have := HM.out.lt; omega))); have HM2 := Aside0.mk (ownsMap_Kept HM.out hk (fun h => h rfl)); have HB2 := Aside0.mk hb; clear ho hb hk)
                        | ((with_reducible refine gate_builtin (b := .append) (xs := #[.tmp 78, .tmp 88]) rfl ?_); at_builtin; refine Kd.R_append_rows (Kd.int .u8) (w0 := w) w.heap.size rfl (.tmp 78) (.tmp 88) 22 5 (.int .u8 0) 1 rfl Try.underlying22 info5 rfl (by decide) (by omega) _ (out ++ lzLit p (n - 4)) [((s : Int) - k) % 256, ((s : Int) - k) / 256] _ _ _ (fun k => k ≠ w.heap.size) (fun _ => False) rfl rfl ?aO ?aR (fun _ _ h => h) (fun _ h => h.elim) ?aF ?aB ?aS ?aL ?_; (case aR => exact const_reads _ [((s : Int) - k) % 256, ((s : Int) - k) / 256] _ _ (by simp)); (case aB => exact below_alloc HB2.out _); (case aF => exact fun k hk e => absurd (Nat.lt_of_lt_of_le (HM2.out.alloc _).lt hk) (by rw [e]; exact Nat.lt_irrefl _)); (case aO => exact Kd.R_alloc HO2.out _); (case aS => exact (below_alloc HB2.out _).size); (case aL => have := hll.out; have := HPL.out; simp; omega); intro v9 w9 ho hb hg hat; have HM3 := Aside0.mk (World.ownsMap.kept (HM2.out.alloc _) hg (fun e => HO2.out.1 _ e.symm rfl)); have HO3 := Aside0.mk ho; have HB3 := Aside0.mk hb; clear ho hb hg hat))
                      go_roundw
                      case rel =>
                        have e1 : out ++ lzPart l0 frm s k n = out ++ lzLit p (n - 4) ++ [((s : Int) - k) % 256, ((s : Int) - k) / 256] := by rw [lzPart, ← HP.out, hbk.out, if_neg c6]; simp
                        have HPK2 := HPK.out
                        rw [e1] at HPK2
                        exact ⟨s + n, s + n, s, f, _, D, rfl, by go_num, by go_num, by omega, by omega, hsn, by omega, by have := hll.out; have := HPL.out; simp ; omega, ⟨HPK2⟩, HO3, HM3, HMI, HB3⟩
                      case measure => simp [intOf]; omega
              · have c3i : (65535 : Int) < (s : Int) - (k : Int) := by omega
                have H := HPK.out
                dsimp only at H
                rw [if_neg c3] at H
                replace HPK := Aside0.mk H
                clear H
                go_wp2_with (first
                  | (go_at_call 15; refine (lz_key.calls A1 _ t _ _ (Kd.C_below HR1.out HB.out) HC1.out HK1.out).mono ?_; rintro e w1 ⟨rfl, hd⟩; have HO1 := Aside0.mk (Kd.R_below HO.out hd.below); have HM1 := Aside0.mk (ownsMap_below HM.out hd.below); have HB1 := Aside0.mk (below_step HB.out hd.below); clear hd)
                  | (at_lookup; refine wpList_lookup_own_ok_int _ rfl _ _ 34 rfl 35 3 .i64 law35 Try.underlying34 Try.underlying3 (zero3 _) w.heap.size s D rfl HM1.out _ (.int .u32 (keyAt l0 s)) rfl (keyOf_int_mk Try.underlying35 (u32_wf hky.out.1 hky.out.2)) ?_; intro c hat hwc; (obtain rfl : (k : Int) = c := (by have := hatk.out.symm.trans hat; injection this with this; injection this)); clear hat hwc; rw [hhas]))
                go_roundw
                case rel => exact ⟨s + 1, frm, s, f, out, D, rfl, rfl, by go_num, by omega, by omega, by omega, by omega, hout, HPK, HO1, HM1, HMI, HB1⟩
                case measure => simp [intOf]; omega
      · have c1i : (l0.length : Int) - (at_ : Int) < 4 := by omega
        have H := HPK.out
        rw [pk, if_neg c1] at H
        obtain ⟨i0, hi0, _, hsz0, _⟩ := info_parts info5
        obtain ⟨A1, hcut, hA1, hC1⟩ := print_drop_of (P := Try.prog) (Value.int .u8) 0 22 5 .i64 Try.underlying22 hi0 hsz0 A0 c0 l0 (frm : Int) (by omega) (by omega) HC.out
        have HR1 := Aside0.mk (Kd.C_of_reads (h1 := fun _ => rfl) (hA1 _ (Kd.reads_of_C HR.out)))
        rw [Int.toNat_natCast] at HR1 hcut
        have hld := Aside0.mk (show (l0.drop frm).length = l0.length - frm from List.length_drop)
        have H' := Aside0.mk H
        clear hA1 hC1 hi0 hsz0 H
        generalize l0.drop frm = t at *
        go_wp2_with (go_at_call 16; refine (literals_calls _ _ out A1 _ t 0 w _ HB.out HO.out HR1.out (by have := hld.out; omega) (by omega)).mono ?_; rintro e w' ⟨v', rfl, ho, hb, hk⟩; have HO2 := Aside0.mk ho; have HB2 := Aside0.mk hb; clear ho hb hk)
        go_ret
        exact ⟨_, rfl, by rw [← H'.out]; exact Kd.R_mono HO2.out (fun _ _ => trivial), HB2.out⟩
  · rw [if_neg hg] at h
    cases h

/-! ### dragnetref01_Same: function 11 -/
def dragnetref01_Same.f (l0 : List Int) (l1 : List Int) : Option (Bool) := some ((strOfNums l0).toList == (strOfNums l1).toList)
set_option maxHeartbeats 8000000 in
set_option maxRecDepth 100000 in
theorem dragnetref01_Same.calls (A0 : Option Addr) (c0 : Nat) (l0 : List Int) (A1 : Option Addr) (c1 : Nat) (l1 : List Int) (r : Bool) (w : World) (hr0 : Kd.C (Kd.int .u8) w A0 l0.length l0) (hc0 : l0.length ≤ c0) (hr1 : Kd.C (Kd.int .u8) w A1 l1.length l1) (hc1 : l1.length ≤ c1) (h : dragnetref01_Same.f l0 l1 = some r) :
    Calls Try.prog 11 #[.slice A0 l0.length c0, .slice A1 l1.length c1] w fun e w' => e = .returned (.bool r) ∧ Drawn0 w w' := by
  have HR0 := Aside0.mk hr0
  have HC0 := Aside0.mk hc0
  clear hr0 hc0
  have HR1 := Aside0.mk hr1
  have HC1 := Aside0.mk hc1
  clear hr1 hc1
  have H : (some ((strOfNums l0).toList == (strOfNums l1).toList)) = some r := h
  clear h
  obtain rfl := Option.some.inj H
  have hcv3 := Kd.C_string (P := Try.prog) (A := A0) (c := c0) Try.underlying22 Try.underlying5 Try.underlying9 HR0.out
  have hcv4 := Kd.C_string (P := Try.prog) (A := A1) (c := c1) Try.underlying22 Try.underlying5 Try.underlying9 HR1.out
  go_enter Try.func11, Try.ntmps11
  go_wp2
  go_ret
  exact ⟨by first | rfl | (simp; done) | (simp [*]; done), by repeat (first | exact Drawn0.refl _ | apply Drawn0.step)⟩

/-! ### dragnetlaw05_alive: function 8 -/
theorem alive_pack : lz_Pack.f [97, 98, 99, 97, 98, 99, 97, 98, 99] = some [50, 97, 98, 99, 3, 0, 0] := by decide +kernel
theorem alive_unpack : lz_Unpack.f [50, 97, 98, 99, 3, 0, 0] 9 = some ([97, 98, 99, 97, 98, 99, 97, 98, 99], 0) := by decide +kernel
theorem alive_str : strOfNums [97, 98, 99, 97, 98, 99, 97, 98, 99] = ⟨#[97, 98, 99, 97, 98, 99, 97, 98, 99]⟩ := by decide +kernel
theorem alive_same : dragnetref01_Same.f [50, 97, 98, 99, 3, 0, 0] [50, 97, 98, 99, 3, 0, 0] = some true := by
  unfold dragnetref01_Same.f
  rw [beq_self_eq_true]
def dragnetlaw05_alive.f : Option Bool := some true
set_option maxHeartbeats 1600000 in
set_option maxRecDepth 100000 in
theorem dragnetlaw05_alive.calls (r : Bool) (w : World) (h : dragnetlaw05_alive.f = some r) :
    Calls Try.prog 8 #[] w fun e w' => e = .returned (.bool r) ∧ Below w.heap.size w w' := by
  obtain rfl := Option.some.inj h
  clear h
  have kc := fun (w : World) (C : Array Value) (n c : Nat) => Lib.run_convert_bytes_const (P := Try.prog) w 22 5 C n c Try.underlying22 Try.underlying5
  go_enter Try.func8, Try.ntmps8
  go_wp2_with fail
  refine (lz_Pack.calls _ _ [97, 98, 99, 97, 98, 99, 97, 98, 99] _ _ (const_reads w [97, 98, 99, 97, 98, 99, 97, 98, 99] _ _ (by decide)) (Nat.le_refl _) alive_pack).mono ?_
  rintro e w1 ⟨v, rfl, ho, hb⟩
  have HB := Aside0.mk (below_step (below_alloc (Below.refl _ _) _) (hb.mono (Nat.le_refl _)))
  obtain ⟨Ao, co, rfl⟩ := Kd.R_slice ho
  have HC := Aside0.mk (Kd.R_reads' ho).2.2
  have HCc := Aside0.mk (Kd.R_reads' ho).2.1
  clear hb ho
  go_wp2_with fail
  refine (lz_Unpack.calls _ _ [50, 97, 98, 99, 3, 0, 0] 9 _ _ _ (const_reads w1 [50, 97, 98, 99, 3, 0, 0] _ _ (by decide)) (Nat.le_refl _) alive_unpack).mono ?_
  rintro e w2 ⟨v, rfl, ho, hb⟩
  have HB2 := Aside0.mk (below_step (below_alloc HB.out _) hb)
  have HC2 := Aside0.mk (Kd.C_below (Kd.C_alloc HC.out _) hb)
  obtain ⟨Au, cu, rfl⟩ := Kd.V_slice ho
  have HU := Aside0.mk (Kd.V_reads' ho).2.2
  clear hb ho HC
  go_wp2_with fail
  refine (dragnetref01_Same.calls Ao co [50, 97, 98, 99, 3, 0, 0] _ 7 [50, 97, 98, 99, 3, 0, 0] true _ (Kd.C_alloc HC2.out _) HCc.out (const_reads w2 [50, 97, 98, 99, 3, 0, 0] _ _ (by decide)) (Nat.le_refl _) alive_same).mono ?_
  rintro e w3 ⟨rfl, hd⟩
  have HB3 := Aside0.mk (below_step (below_alloc HB2.out _) hd.below)
  have hcv := Kd.C_string (P := Try.prog) (A := Au) (c := cu) Try.underlying22 Try.underlying5 Try.underlying9 (Kd.C_below (Kd.C_alloc HU.out _) hd.below)
  rw [alive_str] at hcv
  have hcv : (convert 22 9 (.slice Au 9 cu)).run Try.prog w3 = .ok (.string ⟨#[97, 98, 99, 97, 98, 99, 97, 98, 99]⟩) w3 := hcv
  clear hd
  go_wp2
  go_ret
  exact ⟨rfl, HB3.out⟩

/-! ### dragnetref01_Copy: function 9 -/
def dragnetref01_Copy.f (l0 : List Int) : Option (List Int) := (some (([] : List Int) : List Int)).bind fun y105 => (if y105.length + l0.length < 140737488355328 then (some (y105 ++ l0)) else (none))
set_option maxHeartbeats 8000000 in
set_option maxRecDepth 100000 in
theorem dragnetref01_Copy.calls (A0 : Option Addr) (c0 : Nat) (l0 : List Int) (r : List Int) (w : World) (hr0 : Kd.C (Kd.int .u8) w A0 l0.length l0) (hc0 : l0.length ≤ c0) (h : dragnetref01_Copy.f l0 = some r) :
    Calls Try.prog 9 #[.slice A0 l0.length c0] w fun e w' => ∃ v0_ : Value, e = .returned (v0_) ∧ Kd.R (Kd.int .u8) 5 w' w.heap.size (fun _ => True) v0_ r ∧ Below w.heap.size w w' := by
  have HR0 := Aside0.mk hr0
  have HC0 := Aside0.mk hc0
  clear hr0 hc0
  have HB := Aside0.mk (Below.refl w.heap.size w)
  have H : ((some (([] : List Int) : List Int)).bind fun y105 => (if y105.length + l0.length < 140737488355328 then (some (y105 ++ l0)) else (none))) = some r := h
  clear h
  obtain ⟨y105, hy105⟩ : ∃ y_ : List Int, y_ = (([] : List Int)) := ⟨_, rfl⟩
  replace H : (if y105.length + l0.length < 140737488355328 then (some (y105 ++ l0)) else (none)) = some r := by first | (rw [hy105]; with_reducible exact H) | (have H2_ := (Option.bind_some _ _).symm.trans H; rw [hy105]; with_reducible exact H2_) | (have H2_ := (Option.bind_some _ _).symm.trans H; with_reducible exact H2_) | with_reducible exact H | (rw [hy105]; exact H) | exact H
  have Ny105 := Aside0.mk hy105
  clear hy105
  by_cases c2 : y105.length + l0.length < 140737488355328
  · rw [if_pos c2] at H
    have LMc2 := Aside0.mk c2
    clear c2
    obtain ⟨y108, hy108⟩ : ∃ y_ : List Int, y_ = (y105 ++ l0) := ⟨_, rfl⟩
    replace H : (some y108) = some r := by first | (rw [hy108]; with_reducible exact H) | (have H2_ := (Option.bind_some _ _).symm.trans H; rw [hy108]; with_reducible exact H2_) | (have H2_ := (Option.bind_some _ _).symm.trans H; with_reducible exact H2_) | with_reducible exact H | (rw [hy108]; exact H) | exact H
    have Ny108 := Aside0.mk hy108
    clear hy108
    obtain rfl := Option.some.inj H
    go_enter Try.func9, Try.ntmps9
    go_wp2_with (first | ((with_reducible refine gate_dst (N := 3) rfl ?_); refine Kd.R_lit (Kd.int .u8) _ 5 ?hg (N := 3) ?hd (xs := ([] : List Int)) (inner := []) (ok := fun _ => True) (okp := fun _ => True) ?hr ?hp (fun _ hk => hk) trivial (Below.refl _ _) (Nat.le_refl _) (by simp) ?_; (case hd => rfl); (case hg => rfl); (case hr => first | (go_simp; done) | (go_simp; rfl)); (case hp => exact (Reps.none _ _)); intro v106 w3 ho4 hb hg_ hnew_; clear hg_ hnew_; (first | rw [← Ny105.out] at ho4 | (simp only [Int.reduceToNat] at ho4; rw [← Ny105.out] at ho4)); have n0_ := Aside0.mk (Kd.R_lower ho4 (below_size (by repeat (first | (with_reducible first | exact HB.out | apply below_alloc | apply pw_below_drewN | apply below_drew1) | exact HB.out)))); have n1_ := Aside0.mk (below_step (by repeat (first | (with_reducible first | exact HB.out | apply below_alloc | apply pw_below_drewN | apply below_drew1) | exact HB.out)) hb); clear HB; have HO107 := n0_; have HB := n1_; clear n0_ n1_; clear hb ho4) | ((with_reducible refine gate_builtin (b := .append) (xs := #[.tmp 3, .tmp 4]) rfl ?_); at_builtin; refine Kd.R_append_rows (Kd.int .u8) (w0 := w) w.heap.size rfl (.tmp 3) (.tmp 4) 22 5 (.int .u8 0) 1 rfl Try.underlying22 info5 rfl (by decide) (by omega) v106 y105 l0 _ _ _ (fun _ => True) (fun _ => False) rfl rfl ?aO ?aR (fun _ _ h => h) (fun _ h => h.elim) ?aF ?aB ?aS ?aL ?_; (case aR => repeat (first | exact (Kd.C_below HR0.out HB.out) | (with_reducible refine Kd.C_alloc ?_ _) | (with_reducible refine Kd.C_drewN ?_ _) | (with_reducible refine Kd.C_drew ?_))); (case aB => exact (by repeat (first | (with_reducible first | exact HB.out | apply below_alloc | apply pw_below_drewN | apply below_drew1) | exact HB.out))); (case aF => exact (fun _ _ => trivial)); (case aO => exact (by (with_reducible repeat (first | apply Kd.R_alloc | apply Kd.R_drewN | apply Kd.R_drew)); exact HO107.out)); (case aS => exact (below_size (by repeat (first | (with_reducible first | exact HB.out | apply below_alloc | apply pw_below_drewN | apply below_drew1) | exact HB.out)))); (case aL => have := LMc2.out; omega); intro v109 w5 ho hb hg hat; rw [← Ny108.out] at ho; have n0_ := Aside0.mk (hb); have n1_ := Aside0.mk (ho); clear HB; clear HO107; have HB := n0_; have HO110 := n1_; clear n0_ n1_; clear ho hb hg hat))
    go_ret
    exact ⟨_, by first | rfl | (simp [errW_none, errW_some] <;> rfl) | (simp [*, errW_none, errW_some] <;> rfl), by (with_reducible repeat (first | apply Kd.R_alloc | apply Kd.R_drewN | apply Kd.R_drew)); exact HO110.out, by repeat (first | (with_reducible first | exact HB.out | apply below_alloc | apply pw_below_drewN | apply below_drew1) | exact HB.out)⟩
  · rw [if_neg c2] at H
    exact absurd H (by simp)

/-! ### dragnetref05_four: function 23 -/
def dragnetref05_four.f (l0 : List Int) (a1 : Int) (a2 : Int) : Option (Bool) := if 0 ≤ a1 then (if a1 < (l0.length : Int) then (if 0 ≤ a2 then (if a2 < (l0.length : Int) then (if (rd l0 a1) = (rd l0 a2) then (if 0 ≤ (wrap64 (a1 + 1)) then (if (wrap64 (a1 + 1)) < (l0.length : Int) then (if 0 ≤ (wrap64 (a2 + 1)) then (if (wrap64 (a2 + 1)) < (l0.length : Int) then (if (rd l0 (wrap64 (a1 + 1))) = (rd l0 (wrap64 (a2 + 1))) then (if 0 ≤ (wrap64 (a1 + 2)) then (if (wrap64 (a1 + 2)) < (l0.length : Int) then (if 0 ≤ (wrap64 (a2 + 2)) then (if (wrap64 (a2 + 2)) < (l0.length : Int) then (if (rd l0 (wrap64 (a1 + 2))) = (rd l0 (wrap64 (a2 + 2))) then (if 0 ≤ (wrap64 (a1 + 3)) then (if (wrap64 (a1 + 3)) < (l0.length : Int) then (if 0 ≤ (wrap64 (a2 + 3)) then (if (wrap64 (a2 + 3)) < (l0.length : Int) then (some ((rd l0 (wrap64 (a1 + 3))) == (rd l0 (wrap64 (a2 + 3))))) else (none)) else (none)) else (none)) else (none)) else (some false)) else (none)) else (none)) else (none)) else (none)) else (some false)) else (none)) else (none)) else (none)) else (none)) else (some false)) else (none)) else (none)) else (none)) else (none)
set_option maxHeartbeats 8000000 in
set_option maxRecDepth 100000 in
theorem dragnetref05_four.calls (A0 : Option Addr) (c0 : Nat) (l0 : List Int) (a1 : Int) (a2 : Int) (r : Bool) (w : World) (hr0 : Kd.C (Kd.int .u8) w A0 l0.length l0) (hc0 : l0.length ≤ c0) (h : dragnetref05_four.f l0 a1 a2 = some r) :
    Calls Try.prog 23 #[.slice A0 l0.length c0, .int .i64 a1, .int .i64 a2] w fun e w' => e = .returned (.bool r) ∧ Drawn0 w w' := by
  have HR0 := Aside0.mk hr0
  have HC0 := Aside0.mk hc0
  clear hr0 hc0
  have H : (if 0 ≤ a1 then (if a1 < (l0.length : Int) then (if 0 ≤ a2 then (if a2 < (l0.length : Int) then (if (rd l0 a1) = (rd l0 a2) then (if 0 ≤ (wrap64 (a1 + 1)) then (if (wrap64 (a1 + 1)) < (l0.length : Int) then (if 0 ≤ (wrap64 (a2 + 1)) then (if (wrap64 (a2 + 1)) < (l0.length : Int) then (if (rd l0 (wrap64 (a1 + 1))) = (rd l0 (wrap64 (a2 + 1))) then (if 0 ≤ (wrap64 (a1 + 2)) then (if (wrap64 (a1 + 2)) < (l0.length : Int) then (if 0 ≤ (wrap64 (a2 + 2)) then (if (wrap64 (a2 + 2)) < (l0.length : Int) then (if (rd l0 (wrap64 (a1 + 2))) = (rd l0 (wrap64 (a2 + 2))) then (if 0 ≤ (wrap64 (a1 + 3)) then (if (wrap64 (a1 + 3)) < (l0.length : Int) then (if 0 ≤ (wrap64 (a2 + 3)) then (if (wrap64 (a2 + 3)) < (l0.length : Int) then (some ((rd l0 (wrap64 (a1 + 3))) == (rd l0 (wrap64 (a2 + 3))))) else (none)) else (none)) else (none)) else (none)) else (some false)) else (none)) else (none)) else (none)) else (none)) else (some false)) else (none)) else (none)) else (none)) else (none)) else (some false)) else (none)) else (none)) else (none)) else (none)) = some r := h
  clear h
  by_cases c4 : 0 ≤ a1
  · rw [if_pos c4] at H
    have c4b0 : decide (0 ≤ a1) = true := decide_eq_true c4
    clear c4
    by_cases c5 : a1 < (l0.length : Int)
    · rw [if_pos c5] at H
      have c5b0 : decide (a1 < (l0.length : Int)) = true := decide_eq_true c5
      clear c5
      by_cases c6 : 0 ≤ a2
      · rw [if_pos c6] at H
        have c6b0 : decide (0 ≤ a2) = true := decide_eq_true c6
        clear c6
        by_cases c7 : a2 < (l0.length : Int)
        · rw [if_pos c7] at H
          have c7b0 : decide (a2 < (l0.length : Int)) = true := decide_eq_true c7
          clear c7
          by_cases c8 : (rd l0 a1) = (rd l0 a2)
          · rw [if_pos c8] at H
            have c8b0 : ((rd l0 a1) == (rd l0 a2)) = true := beq_iff_eq.mpr c8
            have c8b1 : ((rd l0 a1) != (rd l0 a2)) = false := bne_eq_false_iff_eq.mpr c8
            clear c8
            obtain ⟨ji9, hji9⟩ : ∃ j_ : Int, (wrap64 (a1 + 1)) = j_ := ⟨_, rfl⟩
            replace H : (if 0 ≤ (ji9) then (if (ji9) < (l0.length : Int) then (if 0 ≤ (wrap64 (a2 + 1)) then (if (wrap64 (a2 + 1)) < (l0.length : Int) then (if (rd l0 (ji9)) = (rd l0 (wrap64 (a2 + 1))) then (if 0 ≤ (wrap64 (a1 + 2)) then (if (wrap64 (a1 + 2)) < (l0.length : Int) then (if 0 ≤ (wrap64 (a2 + 2)) then (if (wrap64 (a2 + 2)) < (l0.length : Int) then (if (rd l0 (wrap64 (a1 + 2))) = (rd l0 (wrap64 (a2 + 2))) then (if 0 ≤ (wrap64 (a1 + 3)) then (if (wrap64 (a1 + 3)) < (l0.length : Int) then (if 0 ≤ (wrap64 (a2 + 3)) then (if (wrap64 (a2 + 3)) < (l0.length : Int) then (some ((rd l0 (wrap64 (a1 + 3))) == (rd l0 (wrap64 (a2 + 3))))) else (none)) else (none)) else (none)) else (none)) else (some false)) else (none)) else (none)) else (none)) else (none)) else (some false)) else (none)) else (none)) else (none)) else (none)) = some r := by first | (rw [hji9] at H; exact H) | (simp only [hji9] at H ⊢; exact H)
            have hji9w : (IntKind.i64.wrap (a1 + 1)) = ji9 := (i64_w _).trans hji9
            by_cases c10 : 0 ≤ (ji9)
            · rw [if_pos c10] at H
              have c10b0 : decide (0 ≤ (ji9)) = true := decide_eq_true c10
              clear c10
              by_cases c11 : (ji9) < (l0.length : Int)
              · rw [if_pos c11] at H
                have c11b0 : decide ((ji9) < (l0.length : Int)) = true := decide_eq_true c11
                clear c11
                obtain ⟨ji12, hji12⟩ : ∃ j_ : Int, (wrap64 (a2 + 1)) = j_ := ⟨_, rfl⟩
                replace H : (if 0 ≤ (ji12) then (if (ji12) < (l0.length : Int) then (if (rd l0 (ji9)) = (rd l0 (ji12)) then (if 0 ≤ (wrap64 (a1 + 2)) then (if (wrap64 (a1 + 2)) < (l0.length : Int) then (if 0 ≤ (wrap64 (a2 + 2)) then (if (wrap64 (a2 + 2)) < (l0.length : Int) then (if (rd l0 (wrap64 (a1 + 2))) = (rd l0 (wrap64 (a2 + 2))) then (if 0 ≤ (wrap64 (a1 + 3)) then (if (wrap64 (a1 + 3)) < (l0.length : Int) then (if 0 ≤ (wrap64 (a2 + 3)) then (if (wrap64 (a2 + 3)) < (l0.length : Int) then (some ((rd l0 (wrap64 (a1 + 3))) == (rd l0 (wrap64 (a2 + 3))))) else (none)) else (none)) else (none)) else (none)) else (some false)) else (none)) else (none)) else (none)) else (none)) else (some false)) else (none)) else (none)) = some r := by first | (rw [hji12] at H; exact H) | (simp only [hji12] at H ⊢; exact H)
                have hji12w : (IntKind.i64.wrap (a2 + 1)) = ji12 := (i64_w _).trans hji12
                by_cases c13 : 0 ≤ (ji12)
                · rw [if_pos c13] at H
                  have c13b0 : decide (0 ≤ (ji12)) = true := decide_eq_true c13
                  clear c13
                  by_cases c14 : (ji12) < (l0.length : Int)
                  · rw [if_pos c14] at H
                    have c14b0 : decide ((ji12) < (l0.length : Int)) = true := decide_eq_true c14
                    clear c14
                    by_cases c15 : (rd l0 (ji9)) = (rd l0 (ji12))
                    · rw [if_pos c15] at H
                      have c15b0 : ((rd l0 (ji9)) == (rd l0 (ji12))) = true := beq_iff_eq.mpr c15
                      have c15b1 : ((rd l0 (ji9)) != (rd l0 (ji12))) = false := bne_eq_false_iff_eq.mpr c15
                      clear c15
                      obtain ⟨ji16, hji16⟩ : ∃ j_ : Int, (wrap64 (a1 + 2)) = j_ := ⟨_, rfl⟩
                      replace H : (if 0 ≤ (ji16) then (if (ji16) < (l0.length : Int) then (if 0 ≤ (wrap64 (a2 + 2)) then (if (wrap64 (a2 + 2)) < (l0.length : Int) then (if (rd l0 (ji16)) = (rd l0 (wrap64 (a2 + 2))) then (if 0 ≤ (wrap64 (a1 + 3)) then (if (wrap64 (a1 + 3)) < (l0.length : Int) then (if 0 ≤ (wrap64 (a2 + 3)) then (if (wrap64 (a2 + 3)) < (l0.length : Int) then (some ((rd l0 (wrap64 (a1 + 3))) == (rd l0 (wrap64 (a2 + 3))))) else (none)) else (none)) else (none)) else (none)) else (some false)) else (none)) else (none)) else (none)) else (none)) = some r := by first | (rw [hji16] at H; exact H) | (simp only [hji16] at H ⊢; exact H)
                      have hji16w : (IntKind.i64.wrap (a1 + 2)) = ji16 := (i64_w _).trans hji16
                      by_cases c17 : 0 ≤ (ji16)
                      · rw [if_pos c17] at H
                        have c17b0 : decide (0 ≤ (ji16)) = true := decide_eq_true c17
                        clear c17
                        by_cases c18 : (ji16) < (l0.length : Int)
                        · rw [if_pos c18] at H
                          have c18b0 : decide ((ji16) < (l0.length : Int)) = true := decide_eq_true c18
                          clear c18
                          obtain ⟨ji19, hji19⟩ : ∃ j_ : Int, (wrap64 (a2 + 2)) = j_ := ⟨_, rfl⟩
                          replace H : (if 0 ≤ (ji19) then (if (ji19) < (l0.length : Int) then (if (rd l0 (ji16)) = (rd l0 (ji19)) then (if 0 ≤ (wrap64 (a1 + 3)) then (if (wrap64 (a1 + 3)) < (l0.length : Int) then (if 0 ≤ (wrap64 (a2 + 3)) then (if (wrap64 (a2 + 3)) < (l0.length : Int) then (some ((rd l0 (wrap64 (a1 + 3))) == (rd l0 (wrap64 (a2 + 3))))) else (none)) else (none)) else (none)) else (none)) else (some false)) else (none)) else (none)) = some r := by first | (rw [hji19] at H; exact H) | (simp only [hji19] at H ⊢; exact H)
                          have hji19w : (IntKind.i64.wrap (a2 + 2)) = ji19 := (i64_w _).trans hji19
                          by_cases c20 : 0 ≤ (ji19)
                          · rw [if_pos c20] at H
                            have c20b0 : decide (0 ≤ (ji19)) = true := decide_eq_true c20
                            clear c20
                            by_cases c21 : (ji19) < (l0.length : Int)
                            · rw [if_pos c21] at H
                              have c21b0 : decide ((ji19) < (l0.length : Int)) = true := decide_eq_true c21
                              clear c21
                              by_cases c22 : (rd l0 (ji16)) = (rd l0 (ji19))
                              · rw [if_pos c22] at H
                                have c22b0 : ((rd l0 (ji16)) == (rd l0 (ji19))) = true := beq_iff_eq.mpr c22
                                have c22b1 : ((rd l0 (ji16)) != (rd l0 (ji19))) = false := bne_eq_false_iff_eq.mpr c22
                                clear c22
                                obtain ⟨ji23, hji23⟩ : ∃ j_ : Int, (wrap64 (a1 + 3)) = j_ := ⟨_, rfl⟩
                                replace H : (if 0 ≤ (ji23) then (if (ji23) < (l0.length : Int) then (if 0 ≤ (wrap64 (a2 + 3)) then (if (wrap64 (a2 + 3)) < (l0.length : Int) then (some ((rd l0 (ji23)) == (rd l0 (wrap64 (a2 + 3))))) else (none)) else (none)) else (none)) else (none)) = some r := by first | (rw [hji23] at H; exact H) | (simp only [hji23] at H ⊢; exact H)
                                have hji23w : (IntKind.i64.wrap (a1 + 3)) = ji23 := (i64_w _).trans hji23
                                by_cases c24 : 0 ≤ (ji23)
                                · rw [if_pos c24] at H
                                  have c24b0 : decide (0 ≤ (ji23)) = true := decide_eq_true c24
                                  clear c24
                                  by_cases c25 : (ji23) < (l0.length : Int)
                                  · rw [if_pos c25] at H
                                    have c25b0 : decide ((ji23) < (l0.length : Int)) = true := decide_eq_true c25
                                    clear c25
                                    obtain ⟨ji26, hji26⟩ : ∃ j_ : Int, (wrap64 (a2 + 3)) = j_ := ⟨_, rfl⟩
                                    replace H : (if 0 ≤ (ji26) then (if (ji26) < (l0.length : Int) then (some ((rd l0 (ji23)) == (rd l0 (ji26)))) else (none)) else (none)) = some r := by first | (rw [hji26] at H; exact H) | (simp only [hji26] at H ⊢; exact H)
                                    have hji26w : (IntKind.i64.wrap (a2 + 3)) = ji26 := (i64_w _).trans hji26
                                    by_cases c27 : 0 ≤ (ji26)
                                    · rw [if_pos c27] at H
                                      have c27b0 : decide (0 ≤ (ji26)) = true := decide_eq_true c27
                                      clear c27
                                      by_cases c28 : (ji26) < (l0.length : Int)
                                      · rw [if_pos c28] at H
                                        have c28b0 : decide ((ji26) < (l0.length : Int)) = true := decide_eq_true c28
                                        clear c28
                                        obtain rfl := Option.some.inj H
                                        have p111 : 0 ≤ (a1 : Int) := of_decide_eq_true (by first | (with_reducible assumption) | assumption)
                                        have q111 : a1 < (l0.length : Int) := of_decide_eq_true (by first | (with_reducible assumption) | assumption)
                                        obtain ⟨ad111, e111, hx111_0⟩ := Kd.at_int HR0.out a1 p111 q111
                                        cases e111
                                        replace p111 := eq_true p111
                                        replace q111 := eq_true q111
                                        have p112 : 0 ≤ (a2 : Int) := of_decide_eq_true (by first | (with_reducible assumption) | assumption)
                                        have q112 : a2 < (l0.length : Int) := of_decide_eq_true (by first | (with_reducible assumption) | assumption)
                                        obtain ⟨ad112, e112, hx112_0⟩ := Kd.at_int HR0.out a2 p112 q112
                                        obtain rfl : ad111 = ad112 := (by injection e112)
                                        replace p112 := eq_true p112
                                        replace q112 := eq_true q112
                                        have p113 : 0 ≤ ((ji9) : Int) := of_decide_eq_true (by first | (with_reducible assumption) | assumption)
                                        have q113 : (ji9) < (l0.length : Int) := of_decide_eq_true (by first | (with_reducible assumption) | assumption)
                                        obtain ⟨ad113, e113, hx113_0⟩ := Kd.at_int HR0.out (ji9) p113 q113
                                        obtain rfl : ad111 = ad113 := (by injection e113)
                                        replace p113 := eq_true p113
                                        replace q113 := eq_true q113
                                        have p114 : 0 ≤ ((ji12) : Int) := of_decide_eq_true (by first | (with_reducible assumption) | assumption)
                                        have q114 : (ji12) < (l0.length : Int) := of_decide_eq_true (by first | (with_reducible assumption) | assumption)
                                        obtain ⟨ad114, e114, hx114_0⟩ := Kd.at_int HR0.out (ji12) p114 q114
                                        obtain rfl : ad111 = ad114 := (by injection e114)
                                        replace p114 := eq_true p114
                                        replace q114 := eq_true q114
                                        have p115 : 0 ≤ ((ji16) : Int) := of_decide_eq_true (by first | (with_reducible assumption) | assumption)
                                        have q115 : (ji16) < (l0.length : Int) := of_decide_eq_true (by first | (with_reducible assumption) | assumption)
                                        obtain ⟨ad115, e115, hx115_0⟩ := Kd.at_int HR0.out (ji16) p115 q115
                                        obtain rfl : ad111 = ad115 := (by injection e115)
                                        replace p115 := eq_true p115
                                        replace q115 := eq_true q115
                                        have p116 : 0 ≤ ((ji19) : Int) := of_decide_eq_true (by first | (with_reducible assumption) | assumption)
                                        have q116 : (ji19) < (l0.length : Int) := of_decide_eq_true (by first | (with_reducible assumption) | assumption)
                                        obtain ⟨ad116, e116, hx116_0⟩ := Kd.at_int HR0.out (ji19) p116 q116
                                        obtain rfl : ad111 = ad116 := (by injection e116)
                                        replace p116 := eq_true p116
                                        replace q116 := eq_true q116
                                        have p117 : 0 ≤ ((ji23) : Int) := of_decide_eq_true (by first | (with_reducible assumption) | assumption)
                                        have q117 : (ji23) < (l0.length : Int) := of_decide_eq_true (by first | (with_reducible assumption) | assumption)
                                        obtain ⟨ad117, e117, hx117_0⟩ := Kd.at_int HR0.out (ji23) p117 q117
                                        obtain rfl : ad111 = ad117 := (by injection e117)
                                        replace p117 := eq_true p117
                                        replace q117 := eq_true q117
                                        have p118 : 0 ≤ ((ji26) : Int) := of_decide_eq_true (by first | (with_reducible assumption) | assumption)
                                        have q118 : (ji26) < (l0.length : Int) := of_decide_eq_true (by first | (with_reducible assumption) | assumption)
                                        obtain ⟨ad118, e118, hx118_0⟩ := Kd.at_int HR0.out (ji26) p118 q118
                                        obtain rfl : ad111 = ad118 := (by injection e118)
                                        replace p118 := eq_true p118
                                        replace q118 := eq_true q118
                                        go_enter Try.func23, Try.ntmps23
                                        go_wp2
                                        repeat (go_quiet (fail); try go_wp2)
                                        go_ret
                                        exact ⟨by first | rfl | (simp; done) | (simp only [← hji9, ← hji12, ← hji16, ← hji19, ← hji23, ← hji26] <;> (first | rfl | simp)) | (simp [*]; done), by repeat (first | exact Drawn0.refl _ | apply Drawn0.step)⟩
                                      · rw [if_neg c28] at H
                                        exact absurd H (by simp)
                                    · rw [if_neg c27] at H
                                      exact absurd H (by simp)
                                  · rw [if_neg c25] at H
                                    exact absurd H (by simp)
                                · rw [if_neg c24] at H
                                  exact absurd H (by simp)
                              · rw [if_neg c22] at H
                                have c22b0 : ((rd l0 (ji16)) == (rd l0 (ji19))) = false := beq_eq_false_iff_ne.mpr c22
                                have c22b1 : ((rd l0 (ji16)) != (rd l0 (ji19))) = true := bne_iff_ne.mpr c22
                                obtain rfl := Option.some.inj H
                                have p111 : 0 ≤ (a1 : Int) := of_decide_eq_true (by first | (with_reducible assumption) | assumption)
                                have q111 : a1 < (l0.length : Int) := of_decide_eq_true (by first | (with_reducible assumption) | assumption)
                                obtain ⟨ad111, e111, hx111_0⟩ := Kd.at_int HR0.out a1 p111 q111
                                cases e111
                                replace p111 := eq_true p111
                                replace q111 := eq_true q111
                                have p112 : 0 ≤ (a2 : Int) := of_decide_eq_true (by first | (with_reducible assumption) | assumption)
                                have q112 : a2 < (l0.length : Int) := of_decide_eq_true (by first | (with_reducible assumption) | assumption)
                                obtain ⟨ad112, e112, hx112_0⟩ := Kd.at_int HR0.out a2 p112 q112
                                obtain rfl : ad111 = ad112 := (by injection e112)
                                replace p112 := eq_true p112
                                replace q112 := eq_true q112
                                have p113 : 0 ≤ ((ji9) : Int) := of_decide_eq_true (by first | (with_reducible assumption) | assumption)
                                have q113 : (ji9) < (l0.length : Int) := of_decide_eq_true (by first | (with_reducible assumption) | assumption)
                                obtain ⟨ad113, e113, hx113_0⟩ := Kd.at_int HR0.out (ji9) p113 q113
                                obtain rfl : ad111 = ad113 := (by injection e113)
                                replace p113 := eq_true p113
                                replace q113 := eq_true q113
                                have p114 : 0 ≤ ((ji12) : Int) := of_decide_eq_true (by first | (with_reducible assumption) | assumption)
                                have q114 : (ji12) < (l0.length : Int) := of_decide_eq_true (by first | (with_reducible assumption) | assumption)
                                obtain ⟨ad114, e114, hx114_0⟩ := Kd.at_int HR0.out (ji12) p114 q114
                                obtain rfl : ad111 = ad114 := (by injection e114)
                                replace p114 := eq_true p114
                                replace q114 := eq_true q114
                                have p115 : 0 ≤ ((ji16) : Int) := of_decide_eq_true (by first | (with_reducible assumption) | assumption)
                                have q115 : (ji16) < (l0.length : Int) := of_decide_eq_true (by first | (with_reducible assumption) | assumption)
                                obtain ⟨ad115, e115, hx115_0⟩ := Kd.at_int HR0.out (ji16) p115 q115
                                obtain rfl : ad111 = ad115 := (by injection e115)
                                replace p115 := eq_true p115
                                replace q115 := eq_true q115
                                have p116 : 0 ≤ ((ji19) : Int) := of_decide_eq_true (by first | (with_reducible assumption) | assumption)
                                have q116 : (ji19) < (l0.length : Int) := of_decide_eq_true (by first | (with_reducible assumption) | assumption)
                                obtain ⟨ad116, e116, hx116_0⟩ := Kd.at_int HR0.out (ji19) p116 q116
                                obtain rfl : ad111 = ad116 := (by injection e116)
                                replace p116 := eq_true p116
                                replace q116 := eq_true q116
                                go_enter Try.func23, Try.ntmps23
                                go_wp2
                                repeat (go_quiet (fail); try go_wp2)
                                go_ret
                                exact ⟨by first | rfl | (simp; done) | (simp only [← hji9, ← hji12, ← hji16, ← hji19] <;> (first | rfl | simp)) | (simp [*]; done), by repeat (first | exact Drawn0.refl _ | apply Drawn0.step)⟩
                            · rw [if_neg c21] at H
                              exact absurd H (by simp)
                          · rw [if_neg c20] at H
                            exact absurd H (by simp)
                        · rw [if_neg c18] at H
                          exact absurd H (by simp)
                      · rw [if_neg c17] at H
                        exact absurd H (by simp)
                    · rw [if_neg c15] at H
                      have c15b0 : ((rd l0 (ji9)) == (rd l0 (ji12))) = false := beq_eq_false_iff_ne.mpr c15
                      have c15b1 : ((rd l0 (ji9)) != (rd l0 (ji12))) = true := bne_iff_ne.mpr c15
                      obtain rfl := Option.some.inj H
                      have p111 : 0 ≤ (a1 : Int) := of_decide_eq_true (by first | (with_reducible assumption) | assumption)
                      have q111 : a1 < (l0.length : Int) := of_decide_eq_true (by first | (with_reducible assumption) | assumption)
                      obtain ⟨ad111, e111, hx111_0⟩ := Kd.at_int HR0.out a1 p111 q111
                      cases e111
                      replace p111 := eq_true p111
                      replace q111 := eq_true q111
                      have p112 : 0 ≤ (a2 : Int) := of_decide_eq_true (by first | (with_reducible assumption) | assumption)
                      have q112 : a2 < (l0.length : Int) := of_decide_eq_true (by first | (with_reducible assumption) | assumption)
                      obtain ⟨ad112, e112, hx112_0⟩ := Kd.at_int HR0.out a2 p112 q112
                      obtain rfl : ad111 = ad112 := (by injection e112)
                      replace p112 := eq_true p112
                      replace q112 := eq_true q112
                      have p113 : 0 ≤ ((ji9) : Int) := of_decide_eq_true (by first | (with_reducible assumption) | assumption)
                      have q113 : (ji9) < (l0.length : Int) := of_decide_eq_true (by first | (with_reducible assumption) | assumption)
                      obtain ⟨ad113, e113, hx113_0⟩ := Kd.at_int HR0.out (ji9) p113 q113
                      obtain rfl : ad111 = ad113 := (by injection e113)
                      replace p113 := eq_true p113
                      replace q113 := eq_true q113
                      have p114 : 0 ≤ ((ji12) : Int) := of_decide_eq_true (by first | (with_reducible assumption) | assumption)
                      have q114 : (ji12) < (l0.length : Int) := of_decide_eq_true (by first | (with_reducible assumption) | assumption)
                      obtain ⟨ad114, e114, hx114_0⟩ := Kd.at_int HR0.out (ji12) p114 q114
                      obtain rfl : ad111 = ad114 := (by injection e114)
                      replace p114 := eq_true p114
                      replace q114 := eq_true q114
                      go_enter Try.func23, Try.ntmps23
                      go_wp2
                      repeat (go_quiet (fail); try go_wp2)
                      go_ret
                      exact ⟨by first | rfl | (simp; done) | (simp only [← hji9, ← hji12] <;> (first | rfl | simp)) | (simp [*]; done), by repeat (first | exact Drawn0.refl _ | apply Drawn0.step)⟩
                  · rw [if_neg c14] at H
                    exact absurd H (by simp)
                · rw [if_neg c13] at H
                  exact absurd H (by simp)
              · rw [if_neg c11] at H
                exact absurd H (by simp)
            · rw [if_neg c10] at H
              exact absurd H (by simp)
          · rw [if_neg c8] at H
            have c8b0 : ((rd l0 a1) == (rd l0 a2)) = false := beq_eq_false_iff_ne.mpr c8
            have c8b1 : ((rd l0 a1) != (rd l0 a2)) = true := bne_iff_ne.mpr c8
            obtain rfl := Option.some.inj H
            have p111 : 0 ≤ (a1 : Int) := of_decide_eq_true (by first | (with_reducible assumption) | assumption)
            have q111 : a1 < (l0.length : Int) := of_decide_eq_true (by first | (with_reducible assumption) | assumption)
            obtain ⟨ad111, e111, hx111_0⟩ := Kd.at_int HR0.out a1 p111 q111
            cases e111
            replace p111 := eq_true p111
            replace q111 := eq_true q111
            have p112 : 0 ≤ (a2 : Int) := of_decide_eq_true (by first | (with_reducible assumption) | assumption)
            have q112 : a2 < (l0.length : Int) := of_decide_eq_true (by first | (with_reducible assumption) | assumption)
            obtain ⟨ad112, e112, hx112_0⟩ := Kd.at_int HR0.out a2 p112 q112
            obtain rfl : ad111 = ad112 := (by injection e112)
            replace p112 := eq_true p112
            replace q112 := eq_true q112
            go_enter Try.func23, Try.ntmps23
            go_wp2
            repeat (go_quiet (fail); try go_wp2)
            go_ret
            exact ⟨by first | rfl | (simp; done) | (simp [*]; done), by repeat (first | exact Drawn0.refl _ | apply Drawn0.step)⟩
        · rw [if_neg c7] at H
          exact absurd H (by simp)
      · rw [if_neg c6] at H
        exact absurd H (by simp)
    · rw [if_neg c5] at H
      exact absurd H (by simp)
  · rw [if_neg c4] at H
    exact absurd H (by simp)

end Go.Proofs.Ytjgbimlogenodaa.P
