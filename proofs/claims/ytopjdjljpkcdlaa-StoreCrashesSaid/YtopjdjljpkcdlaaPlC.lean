/- The plain law behind the printed walk (namespace C): what the functions come to. -/
import Derived.Test.YtopjdjljpkcdlaaCx10
namespace Go.Proofs.Ytopjdjljpkcdlaa.C
open Go.RowKit Go.Proofs.YtopjdjljpkcdlaaW.PrintWords Go.Proofs.YtopjdjljpkcdlaaW.PrintLast Go.Proofs.YtopjdjljpkcdlaaW.PrintMore
open Go.Maps
set_option linter.unusedVariables false
set_option linter.unusedSimpArgs false
/-! The plain law of StoreCrashes. -/
theorem rdm (l : List S61) (i : Nat) (h : i < l.length) : rd_T61 l (i : Int) ∈ l := by
  unfold rd_T61
  rw [Int.toNat_natCast, List.getD_eq_getElem?_getD, List.getElem?_eq_getElem h]
  exact List.getElem_mem h
theorem take_snoc (l : List S61) (i : Nat) (h : i < l.length) : l.take i ++ [rd_T61 l (i : Int)] = l.take (i + 1) := by
  unfold rd_T61
  rw [Int.toNat_natCast, List.getD_eq_getElem?_getD, List.getElem?_eq_getElem h, List.take_succ_eq_append_getElem h]
  rfl
def Reach (l : List S61) : Prop := l.length < 2932031007402 ∧ ∀ x ∈ l, x.f1.length ≤ 140737488351232
theorem Reach.small {l : List S61} (h : Reach l) : SmallD l := ⟨by have := h.1; omega, h.2⟩
theorem copy1 (l : List Int) (h : l.length ≤ 140737488351232) : dragnetref01_Copy.f l = some l := by
  unfold dragnetref01_Copy.f
  rw [Option.bind_some, if_pos (by simp; omega)]
  rfl
theorem copy_l0 (room : Int) (l : List S61) (hr : Reach l) : ∀ m i : Nat, l.length - i = m → i ≤ l.length → dragnetref16_Copy.l0 (m + 1) (i : Int) room l room (l.take i) = some (room, l)
  | 0, i, hm, hi => by
    obtain rfl : i = l.length := by omega
    rw [dragnetref16_Copy.l0, if_neg (Int.lt_irrefl _), List.take_length]
  | m + 1, i, hm, hi => by
    have hlt : i < l.length := by omega
    have h1 := hr.1
    rw [dragnetref16_Copy.l0, if_pos (by omega), if_pos (by omega), copy1 _ (hr.2 _ (rdm l i hlt)), Option.bind_some, if_pos (by rw [List.length_take]; omega), wr64 (by omega)]
    rw [show (⟨(rd_T61 l (i : Int)).f0, (rd_T61 l (i : Int)).f1, (rd_T61 l (i : Int)).f2⟩ : S61) = rd_T61 l (i : Int) from rfl, take_snoc l i hlt, show (i : Int) + 1 = ((i + 1 : Nat) : Int) by omega]
    exact copy_l0 room l hr m (i + 1) (by omega) hlt
theorem copy_plain (room : Int) (l : List S61) (hr : Reach l) : dragnetref16_Copy.f (l.length + 1) room l = some (room, l) := copy_l0 room l hr l.length 0 (by omega) (by omega)
theorem same1 (l : List Int) : dragnetref01_Same.f l l = some true := by
  unfold dragnetref01_Same.f
  rw [beq_self_eq_true]
theorem same_l0 (room : Int) (l : List S61) (hl : l.length < 2932031007402) : ∀ m i : Nat, l.length - i = m → i ≤ l.length → dragnetref16_Same.l0 (2 * m + 1) (i : Int) room l room l = some true
  | 0, i, hm, hi => by
    obtain rfl : i = l.length := by omega
    rw [dragnetref16_Same.l0, if_neg (Int.lt_irrefl _)]
  | m + 1, i, hm, hi => by
    have hlt : i < l.length := by omega
    rw [show 2 * (m + 1) + 1 = (2 * m + 1) + 1 + 1 by omega, dragnetref16_Same.l0, if_pos (by omega), if_pos (by omega), if_pos (by omega), if_pos rfl, if_pos rfl, same1, Option.bind_some, dragnetref16_Same.j2, if_neg (by decide), wr64 (by omega), show (i : Int) + 1 = ((i + 1 : Nat) : Int) by omega]
    exact same_l0 room l hl m (i + 1) (by omega) hlt
theorem same_plain (room : Int) (l : List S61) (hl : l.length < 2932031007402) : dragnetref16_Same.f (2 * l.length + 2) room l room l = some true := by
  unfold dragnetref16_Same.f
  rw [if_pos rfl, show 2 * l.length + 2 = (2 * l.length + 1) + 1 by omega, dragnetref16_Same.j0, bne_self_eq_false, if_neg (by decide)]
  exact same_l0 room l hl l.length 0 (by omega) (by omega)
theorem toList_inj {a b : ByteArray} (h : a.toList = b.toList) : a = b := by
  rw [Lib.toList_data, Lib.toList_data] at h
  cases a
  cases b
  congr 1
  exact Array.toList_inj.1 h
theorem rc_step (keeps : List S59) (l : List S61) (i : Nat) (hi : i < l.length) (hx : 0 ≤ (rd_T61 l (i : Int)).f2 ∧ (rd_T61 l (i : Int)).f2 ≤ (rd_T61 l (i : Int)).f1.length) (hb : (rd_T61 l (i : Int)).f1.length ≤ 140737488351232) : 
    0 ≤ leftOf keeps (rd_T61 l (i : Int)) ∧ leftOf keeps (rd_T61 l (i : Int)) ≤ (rd_T61 l (i : Int)).f1.length := by
  unfold leftOf
  omega
theorem rc_l1 (room : Int) (keeps : List S59) (hk : KeepsOK keeps) (l : List S61) (i : Nat) (m : Nat) (hi : i < m) (hm : m = (mixL keeps l i).length) (x : S61) (hxe : rd_T61 (mixL keeps l i) (i : Int) = x) (hx : 0 ≤ x.f2 ∧ x.f2 ≤ x.f1.length) (hb : x.f1.length ≤ 140737488351232) (K : Nat) :
    ∀ d s : Nat, keeps.length - s = d → s ≤ keeps.length →
      dragnetref16_Crash.l1 (K + d + 1) keeps (i : Int) (max 0 (lastN keeps s x.f0)) (s : Int) room (mixL keeps l i) = dragnetref16_Crash.l0 K keeps (wrap64 ((i : Int) + 1)) room ((mixL keeps l i).set i (crashF keeps x))
  | 0, s, hd, hs => by
    obtain rfl : s = keeps.length := by omega
    have hlf : leftOf keeps x = x.f2 + mn (max 0 (lastN keeps keeps.length x.f0)) ((x.f1.length : Int) - x.f2) := by
      unfold leftOf mn
      split <;> omega
    have hl2 : 0 ≤ leftOf keeps x ∧ leftOf keeps x ≤ x.f1.length := by unfold leftOf; omega
    rw [Nat.add_zero, dragnetref16_Crash.l1, if_neg (Int.lt_irrefl _), if_pos (by omega), if_pos (by omega), hxe, wr64 (x := (x.f1.length : Int) - x.f2) (by omega), ← hlf, wr64 (x := leftOf keeps x) (by omega), if_pos hl2.1, if_pos hl2.2, Option.bind_some]
    have hil : i < (mixL keeps l i).length := by omega
    have hset : (mixL keeps l i).set (i : Int).toNat (⟨x.f0, x.f1.take (leftOf keeps x).toNat, x.f2⟩ : S61) = (mixL keeps l i).set i ⟨x.f0, x.f1.take (leftOf keeps x).toNat, x.f2⟩ := by rw [Int.toNat_natCast]
    rw [hset]
    have hrd : rd_T61 ((mixL keeps l i).set i ⟨x.f0, x.f1.take (leftOf keeps x).toNat, x.f2⟩) (i : Int) = ⟨x.f0, x.f1.take (leftOf keeps x).toNat, x.f2⟩ := by
      unfold rd_T61
      rw [Int.toNat_natCast, List.getD_eq_getElem?_getD, List.getElem?_set_self hil]
      rfl
    rw [hrd, Int.toNat_natCast, List.set_set]
    rfl
  | d + 1, s, hd, hs => by
    have hlt : s < keeps.length := by omega
    have hkl := hk.1
    rw [show K + (d + 1) + 1 = (K + d + 1) + 1 by omega, dragnetref16_Crash.l1, if_pos (by omega), if_pos (by omega), if_pos (by omega), if_pos (by omega), hxe, wr64 (by omega), show (s : Int) + 1 = ((s + 1 : Nat) : Int) by omega]
    have ih := rc_l1 room keeps hk l i m hi hm x hxe hx hb K d (s + 1) (by omega) hlt
    by_cases hq : (rd_T59 keeps (s : Int)).f0 = x.f0
    · rw [if_pos (by rw [hq])]
      rw [lastN, if_pos hq] at ih
      rw [show mx 0 (rd_T59 keeps (s : Int)).f1 = max 0 (rd_T59 keeps (s : Int)).f1 by unfold mx; split <;> omega]
      exact ih
    · rw [if_neg (fun h => hq (toList_inj h))]
      rw [lastN, if_neg hq] at ih
      exact ih
theorem rc_l0 (room : Int) (keeps : List S59) (hk : KeepsOK keeps) (l : List S61) (hl : l.length < 2932031007402) (hx : ∀ i : Nat, i < l.length → 0 ≤ (rd_T61 l (i : Int)).f2 ∧ (rd_T61 l (i : Int)).f2 ≤ (rd_T61 l (i : Int)).f1.length ∧ (rd_T61 l (i : Int)).f1.length ≤ 140737488351232) :
    ∀ d i : Nat, l.length - i = d → i ≤ l.length → dragnetref16_Crash.l0 (d * (keeps.length + 2) + 1) keeps (i : Int) room (mixL keeps l i) = some (room, l.map (crashF keeps), 0)
  | 0, i, hd, hi => by
    obtain rfl : i = l.length := by omega
    rw [Nat.zero_mul, dragnetref16_Crash.l0, mixL_length, if_neg (Int.lt_irrefl _), mixL_all]
  | d + 1, i, hd, hi => by
    have hlt : i < l.length := by omega
    have h1 := hx i hlt
    have hxe : rd_T61 (mixL keeps l i) (i : Int) = rd_T61 l (i : Int) := by
      unfold rd_T61
      rw [Int.toNat_natCast, mixL_at keeps l i _ hlt]
    rw [Nat.succ_mul, show d * (keeps.length + 2) + (keeps.length + 2) + 1 = (d * (keeps.length + 2) + 1) + keeps.length + 1 + 1 by omega, dragnetref16_Crash.l0, mixL_length, if_pos (by omega)]
    have h2 := rc_l1 room keeps hk l i l.length hlt (mixL_length keeps l i).symm _ hxe ⟨h1.1, h1.2.1⟩ h1.2.2 (d * (keeps.length + 2) + 1) keeps.length 0 (by omega) (by omega)
    refine h2.trans ?_
    have hset := mixL_set keeps l i z61 hlt
    rw [show rd_T61 l (i : Int) = l.getD i z61 by unfold rd_T61; rw [Int.toNat_natCast], hset, wr64 (by omega), show (i : Int) + 1 = ((i + 1 : Nat) : Int) by omega]
    exact rc_l0 room keeps hk l hl hx d (i + 1) (by omega) hlt
theorem law (a0_0 : Int) (l0_1 : List S61) (l1 : List S59) (hr : Reach l0_1) (hk : KeepsOK l1) : ∃ k, dragnetlaw16_StoreCrashes.f k a0_0 l0_1 l1 = some true := by
  obtain ⟨K, hK⟩ : ∃ K, K = (l0_1.length + 1) + (2 * l0_1.length + 2) + (l0_1.length * (l1.length + 2) + 1) + 2 := ⟨_, rfl⟩
  have hcopy : dragnetref16_Copy.f K a0_0 l0_1 = some (a0_0, l0_1) := at_rounds (fun k => dragnetref16_Copy.mono _ _ k) (by omega) (copy_plain a0_0 l0_1 hr)
  have hsame : ∀ (r : Int) (l : List S61), l.length ≤ l0_1.length → dragnetref16_Same.f K r l r l = some true := fun r l hl => at_rounds (fun k => dragnetref16_Same.mono _ _ _ _ k) (by omega) (same_plain r l (by have := hr.1; omega))
  refine ⟨K, ?_⟩
  unfold dragnetlaw16_StoreCrashes.f dragnetlaw16_alive.f
  rw [Option.bind_some, if_pos rfl, hcopy, Option.bind_some]
  simp only []
  have hcr : store_Crash.f a0_0 l0_1 l1 = some (if FormedR a0_0 l0_1 then (a0_0, l0_1.map (crashF l1), 0) else (0, [], 1)) := by unfold store_Crash.f; rw [if_pos ⟨hr.small, hk⟩]
  have href : dragnetref16_Crash.f K a0_0 l0_1 l1 = some (if FormedR a0_0 l0_1 then (a0_0, l0_1.map (crashF l1), 0) else (0, [], 1)) := by
    unfold dragnetref16_Crash.f dragnetref16_Formed.f
    rw [if_pos (by have := hr.1; omega), Option.bind_some]
    by_cases hf : FormedR a0_0 l0_1
    · rw [if_pos hf, decide_eq_true hf, if_pos rfl, hcopy, Option.bind_some]
      have h := rc_l0 a0_0 l1 hk l0_1 hr.1 (fun i hi => by
        have h1 := ((formed_iff _ _).1 hf).1 i hi
        exact ⟨h1.2.1, h1.2.2.1, hr.2 _ (rdm l0_1 i hi)⟩) l0_1.length 0 (by omega) (by omega)
      rw [mixL_zero] at h
      exact at_rounds (fun k => (dragnetref16_Crash.mono_l k).1 _ _ _ _) (by omega) h
    · rw [if_neg hf, decide_eq_false hf, if_neg (by decide)]
  rw [hcr, Option.bind_some, href, Option.bind_some]
  by_cases hf : FormedR a0_0 l0_1
  · rw [if_pos hf]
    simp only []
    rw [hsame _ _ (by rw [List.length_map]; exact Nat.le_refl _), Option.bind_some, if_pos rfl, if_pos trivial, hsame _ _ (Nat.le_refl _), Option.bind_some]
  · rw [if_neg hf]
    simp only []
    rw [hsame _ _ (Nat.zero_le _), Option.bind_some, if_pos rfl, if_pos trivial, hsame _ _ (Nat.le_refl _), Option.bind_some]
def QF (x : S61) : Prop := x.f0.size ≤ 140737488351232 ∧ (x.f1.length * Try.prog.bytesOf 5 ≤ 140737488351232 ∧ ∀ u ∈ x.f1, (Lit.int .u8 u).wf = true) ∧ (Lit.int .i64 x.f2).wf = true
def QD (room : Int) (l : List S61) : Prop := (Lit.int .i64 room).wf = true ∧ (l.length * Try.prog.bytesOf 61 ≤ 140737488351232 ∧ ∀ x ∈ l, QF x)
theorem bytes61 : Try.prog.bytesOf 61 = 48 := by kernel_rfl
theorem bytes5 : Try.prog.bytesOf 5 = 1 := by kernel_rfl
theorem reach_q {room : Int} {l : List S61} (h : QD room l) : Reach l := by
  obtain ⟨_, h1, h2⟩ := h
  rw [bytes61] at h1
  refine ⟨by omega, fun x hx => ?_⟩
  have h3 := (h2 x hx).2.1.1
  rw [bytes5] at h3
  omega
def QK (l : List S59) : Prop := l.length * Try.prog.bytesOf 59 ≤ 140737488351232 ∧ ∀ x ∈ l, x.f0.size ≤ 140737488351232 ∧ (Lit.int .i64 x.f1).wf = true
theorem bytes59 : Try.prog.bytesOf 59 = 24 := by kernel_rfl
theorem wf64 {q : Int} (h : (Lit.int .i64 q).wf = true) : -9223372036854775808 ≤ q ∧ q ≤ 9223372036854775807 := by
  simp [Lit.wf, IntKind.min, IntKind.max, IntKind.signed, IntKind.bits] at h
  omega
theorem keeps_q {l : List S59} (h : QK l) : KeepsOK l := by
  obtain ⟨h1, h2⟩ := h
  rw [bytes59] at h1
  exact ⟨by omega, fun x hx => ⟨(h2 x hx).1, wf64 (h2 x hx).2⟩⟩
theorem law_q (a0_0 : Int) (l0_1 : List S61) (l1 : List S59) (hq0 : QD a0_0 l0_1) (hq1 : QK l1) : ∃ k, dragnetlaw16_StoreCrashes.f k a0_0 l0_1 l1 = some true := law a0_0 l0_1 l1 (reach_q hq0) (keeps_q hq1)
end Go.Proofs.Ytopjdjljpkcdlaa.C
