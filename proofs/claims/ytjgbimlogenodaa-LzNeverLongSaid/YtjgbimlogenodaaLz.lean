/- lz, plainly: what Unpack's parts come to; more room, errors. -/
import Derived.Test.YtjgbimlogenodaaPx6
namespace Go.Proofs.Ytjgbimlogenodaa.P
open Go.RowKit Go.Proofs.YtjgbimlogenodaaW.PrintWords Go.Proofs.YtjgbimlogenodaaW.PrintLast Go.Proofs.YtjgbimlogenodaaW.PrintMore
set_option linter.unusedVariables false
theorem bts_of {l : List Int} (h : ∀ x ∈ l, (Lit.int .u8 x).wf = true) : Bts l := fun c hc => by
  have := h c hc
  simp [Lit.wf, IntKind.min, IntKind.max, IntKind.signed, IntKind.bits] at this
  omega
theorem wf64 {x : Int} (h : (Lit.int .i64 x).wf = true) : -9223372036854775808 ≤ x ∧ x ≤ 9223372036854775807 := by
  simp [Lit.wf, IntKind.min, IntKind.max, IntKind.signed, IntKind.bits] at h
  omega
theorem wf16 {x : Int} (h : (Lit.int .u16 x).wf = true) : 0 ≤ x ∧ x ≤ 65535 := by
  simp [Lit.wf, IntKind.min, IntKind.max, IntKind.signed, IntKind.bits] at h
  omega
theorem wf8 {x : Int} (h : (Lit.int .u8 x).wf = true) : 0 ≤ x ∧ x ≤ 255 := by
  simp [Lit.wf, IntKind.min, IntKind.max, IntKind.signed, IntKind.bits] at h
  omega
theorem w64 {x : Int} (h : -9223372036854775808 ≤ x ∧ x ≤ 9223372036854775807) : wrap64 x = x := by
  unfold wrap64
  omega
/-! What holds of a part holds of all: a relation between what comes out with room m and with room m'. -/
section
variable {K K' : List Int → List Int → List Int × Int} {m m' : Int}
theorem lzD_room (hm : m ≤ m') (hK : ∀ rest out x, K rest out = (x, 0) → K' rest out = (x, 0)) {n d : Int} {rest out x : List Int} (h : lzD K m n d rest out = (x, 0)) : lzD K' m' n d rest out = (x, 0) := by
  unfold lzD at h ⊢
  split at h
  · simp at h
  · rw [if_neg (by omega)]
    exact hK _ _ _ h
theorem lzC_room (hm : m ≤ m') (hK : ∀ rest out x, K rest out = (x, 0) → K' rest out = (x, 0)) {n : Int} {rest out x : List Int} (h : lzC K m n rest out = (x, 0)) : lzC K' m' n rest out = (x, 0) := by
  unfold lzC at h ⊢
  split at h
  · rename_i c
    rw [if_pos c]
    exact h
  · rename_i c
    rw [if_neg c]
    split at h
    · simp at h
    · rename_i c
      rw [if_neg c]
      split at h
      · simp at h
      · rename_i c
        rw [if_neg c]
        split at h
        · rename_i c
          rw [if_pos c]
          split at h
          · simp at h
          · exact lzD_room hm hK h
        · rename_i c
          rw [if_neg c]
          exact lzD_room hm hK h
theorem lzB_room (hm : m ≤ m') (hK : ∀ rest out x, K rest out = (x, 0) → K' rest out = (x, 0)) {n q : Int} {rest out x : List Int} (h : lzB K m n q rest out = (x, 0)) : lzB K' m' n q rest out = (x, 0) := by
  unfold lzB at h ⊢
  split at h
  · simp at h
  · rw [if_neg (by omega)]
    split at h
    · simp at h
    · rename_i c
      rw [if_neg c]
      exact lzC_room hm hK h
theorem lzA_room (hm : m ≤ m') (hK : ∀ rest out x, K rest out = (x, 0) → K' rest out = (x, 0)) {rest out x : List Int} (h : lzA K m rest out = (x, 0)) : lzA K' m' rest out = (x, 0) := by
  unfold lzA at h ⊢
  split at h
  · simp at h
  · rename_i c
    rw [if_neg c]
    split at h
    · rename_i c
      rw [if_pos c]
      split at h
      · simp at h
      · exact lzB_room hm hK h
    · rename_i c
      rw [if_neg c]
      exact lzB_room hm hK h
theorem parts_room (hm : m ≤ m') : ∀ (k : Nat) (rest out x : List Int), lzParts m k rest out = (x, 0) → lzParts m' k rest out = (x, 0)
  | 0, _, _, _, h => by simp [lzParts] at h
  | k + 1, _, _, _, h => lzA_room hm (parts_room hm k) h
end
/-! What comes out: nothing with an error; no more than the room. -/
section
variable {K : List Int → List Int → List Int × Int} {m : Int}
def Fine (m : Int) (out : List Int) (r : List Int × Int) : Prop := (r.2 ≠ 0 → r.1 = []) ∧ ((out.length : Int) ≤ m → r.2 = 0 → (r.1.length : Int) ≤ m)
theorem fine_err {out : List Int} {e : Int} (h : e ≠ 0) : Fine m out ([], e) := ⟨fun _ => rfl, fun _ h2 => absurd h2 h⟩
theorem lzD_fine (hK : ∀ rest out, Bts rest → Fine m out (K rest out)) (n d : Int) (rest out : List Int) (hn : 0 ≤ n) (hb : Bts rest) : Fine m out (lzD K m n d rest out) := by
  unfold lzD
  split
  · exact fine_err (by decide)
  · refine ⟨(hK _ _ hb).1, fun h0 h2 => (hK _ _ hb).2 ?_ h2⟩
    rw [lzRep_len]
    omega
theorem cnt_nn : ∀ (l : List Int) (a n : Int) (r : List Int), Bts l → 0 ≤ a → lzCnt l a = some (n, r) → 0 ≤ n ∧ ∃ k, r = l.drop k ∧ k ≤ l.length ∧ 0 < k
  | [], _, _, _, _, _, h => by simp [lzCnt] at h
  | c :: t, a, n, r, hb, ha, h => by
    have hc := hb c (List.mem_cons_self)
    rw [lzCnt] at h
    split at h
    · obtain ⟨h1, k, h2, h3, h4⟩ := cnt_nn t (a + c) n r (fun x hx => hb x (List.mem_cons_of_mem _ hx)) (by omega) h
      exact ⟨h1, k + 1, by rw [h2]; rfl, by simp; omega, by omega⟩
    · simp only [Option.some.injEq, Prod.mk.injEq] at h
      obtain ⟨rfl, rfl⟩ := h
      exact ⟨by omega, 1, rfl, by simp, by omega⟩
theorem lzC_fine (hK : ∀ rest out, Bts rest → Fine m out (K rest out)) (n : Int) (rest out : List Int) (hn : 0 ≤ n) (hb : Bts rest) : Fine m out (lzC K m n rest out) := by
  unfold lzC
  split
  · split
    · exact fine_err (by decide)
    · exact ⟨fun h => absurd rfl h, fun h _ => h⟩
  · split
    · exact fine_err (by decide)
    · split
      · exact fine_err (by decide)
      · split
        · split
          · exact fine_err (by decide)
          · rename_i e
            obtain ⟨h1, k, rfl, _⟩ := cnt_nn _ _ _ _ (hb.drop 2) (by decide) e
            exact lzD_fine hK _ _ _ _ h1 ((hb.drop 2).drop k)
        · exact lzD_fine hK _ _ _ _ hn (hb.drop 2)
theorem lzB_fine (hK : ∀ rest out, Bts rest → Fine m out (K rest out)) (n q : Int) (rest out : List Int) (hn : 0 ≤ n) (hq : 0 ≤ q) (hb : Bts rest) : Fine m out (lzB K m n q rest out) := by
  unfold lzB
  split
  · exact fine_err (by decide)
  · split
    · exact fine_err (by decide)
    · have h := lzC_fine hK q (rest.drop n.toNat) (out ++ rest.take n.toNat) hq (hb.drop _)
      refine ⟨h.1, fun h0 h2 => h.2 ?_ h2⟩
      rw [List.length_append, List.length_take]
      omega
theorem lzA_fine (hK : ∀ rest out, Bts rest → Fine m out (K rest out)) (rest out : List Int) (hb : Bts rest) : Fine m out (lzA K m rest out) := by
  unfold lzA
  split
  · exact fine_err (by decide)
  · have h0 := hb.at 0 (by omega) (by omega)
    split
    · split
      · exact fine_err (by decide)
      · rename_i e
        obtain ⟨h1, k, rfl, _⟩ := cnt_nn _ _ _ _ (hb.drop 1) (by decide) e
        exact lzB_fine hK _ _ _ _ h1 (by omega) ((hb.drop 1).drop k)
    · exact lzB_fine hK _ _ _ _ (by omega) (by omega) (hb.drop 1)
theorem parts_fine : ∀ (k : Nat) (rest out : List Int), Bts rest → Fine m out (lzParts m k rest out)
  | 0, _, _, _ => fine_err (by decide)
  | k + 1, rest, out, hb => lzA_fine (parts_fine k) rest out hb
end
theorem unp_f {l : List Int} {a : Int} (hl : l.length < 140737488355328) (ha : a < 70368744177664) (hb : Bts l) : lz_Unpack.f l a = some (lzUnp l a) := if_pos ⟨hl, ha, hb⟩
theorem same_refl (l : List Int) : dragnetref01_Same.f l l = some true := by
  unfold dragnetref01_Same.f
  rw [beq_self_eq_true]
theorem lzRoom_pure (l0 : List Int) (a1 a2 : Int) (hl : l0.length * 1 ≤ 140737488351232) (hb : ∀ x ∈ l0, (Lit.int .u8 x).wf = true) (h1 : (Lit.int .i64 a1).wf = true) (h2 : (Lit.int .u16 a2).wf = true) : dragnetlaw05_LzRoom.f l0 a1 a2 = some true := by
  unfold dragnetlaw05_LzRoom.f dragnetlaw05_alive.f
  simp only [Option.bind_some, if_true]
  by_cases hm : a1 > 1048576
  · rw [if_pos hm]
  · rw [if_neg hm]
    have hbt := bts_of hb
    have w1 := wf64 h1
    have w2 := wf16 h2
    rw [unp_f (by omega) (by omega) hbt, w64 (x := a2) (by omega), w64 (x := a1 + a2) (by omega)]
    simp only [Option.bind_some]
    have hfine : Fine a1 [] (lzUnp l0 a1) := by
      unfold lzUnp
      split
      · exact fine_err (by decide)
      · exact parts_fine _ _ _ hbt
    by_cases he : (lzUnp l0 a1).2 = 0
    · rw [if_pos he, unp_f (by omega) (by omega) hbt]
      simp only [Option.bind_some]
      have hnn : ¬ a1 < 0 := by
        intro hn
        unfold lzUnp at he
        rw [if_pos hn] at he
        simp at he
      have e1 : lzUnp l0 (a1 + a2) = lzUnp l0 a1 := by
        have := parts_room (m := a1) (m' := a1 + a2) (by omega) (l0.length + 1) l0 [] (lzUnp l0 a1).1 (by
          rw [← he]
          unfold lzUnp
          rw [if_neg hnn])
        unfold lzUnp at this ⊢
        rw [if_neg hnn] at this ⊢
        rw [if_neg (by omega), this]
        unfold lzUnp at he
        rw [if_neg hnn] at he
        rw [← he]
      rw [e1, if_pos he, if_pos (hfine.2 (by simp; omega) he), same_refl]
      rfl
    · rw [if_neg he, hfine.1 he]
      rfl
end Go.Proofs.Ytjgbimlogenodaa.P
