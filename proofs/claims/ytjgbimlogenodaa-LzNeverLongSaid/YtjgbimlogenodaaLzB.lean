/- lz, plainly: what is packed is unpacked as it was, and is never long; the laws LzBack and LzNeverLong. -/
import Derived.Test.YtjgbimlogenodaaLzP
namespace Go.Proofs.Ytjgbimlogenodaa.P
open Go.RowKit Go.Proofs.YtjgbimlogenodaaW.PrintWords Go.Proofs.YtjgbimlogenodaaW.PrintLast Go.Proofs.YtjgbimlogenodaaW.PrintMore
set_option linter.unusedVariables false
def pkT (l : List Int) : Nat → Nat → Nat → List Int
  | 0, _, frm => lzLit (l.drop frm) 0
  | f + 1, at_, frm => if at_ + 4 ≤ l.length then
      match lastKey l at_ (keyAt l at_) with
      | some k => if at_ - k ≤ 65535 then lzPart l frm at_ k (ext l at_ k l.length 4) ++ pkT l f (at_ + ext l at_ k l.length 4) (at_ + ext l at_ k l.length 4)
        else pkT l f (at_ + 1) frm
      | none => pkT l f (at_ + 1) frm
    else lzLit (l.drop frm) 0
theorem pk_eq (l : List Int) : ∀ (f at_ frm : Nat) (out : List Int), pk l f at_ frm out = out ++ pkT l f at_ frm
  | 0, _, _, _ => rfl
  | f + 1, at_, frm, out => by
    rw [pk, pkT]
    by_cases c : at_ + 4 ≤ l.length
    · rw [if_pos c, if_pos c]
      cases hk : lastKey l at_ (keyAt l at_) with
      | none => exact pk_eq l f _ _ _
      | some k =>
        dsimp only
        by_cases c2 : at_ - k ≤ 65535
        · rw [if_pos c2, if_pos c2, pk_eq l f, List.append_assoc]
        · rw [if_neg c2, if_neg c2]
          exact pk_eq l f _ _ _
    · rw [if_neg c, if_neg c]
theorem cnt_lay : ∀ (n : Nat) (acc : Int) (r : List Int), lzCnt (lzLay n ++ r) acc = some (acc + n, r) := by
  intro n
  induction n using Nat.strongRecOn with
  | _ n ih =>
    intro acc r
    by_cases c : 255 ≤ n
    · rw [lay_step c, List.cons_append, lzCnt, if_pos rfl, ih (n - 255) (by omega)]
      congr 2
      omega
    · rw [lay_small (by omega), List.cons_append, List.nil_append, lzCnt, if_neg (by omega)]
theorem rd_zero (c : Int) (t : List Int) : rd (c :: t) 0 = c := rfl
section
variable {K : List Int → List Int → List Int × Int} {most : Int}
theorem lzA_lit (lits rest out : List Int) (m : Nat) : lzA K most (lzLit lits m ++ rest) out = lzB K most lits.length ((min 15 m : Nat) : Int) (lits ++ rest) out := by
  have hh := head_bt lits.length m
  have h16 : lzHead lits.length m / 16 = ((min 15 lits.length : Nat) : Int) := by unfold lzHead; omega
  have hm16 : lzHead lits.length m % 16 = ((min 15 m : Nat) : Int) := by unfold lzHead; omega
  unfold lzLit
  rw [List.cons_append]
  unfold lzA
  rw [if_neg (by simp), rd_zero, h16, hm16, List.drop_succ_cons, List.drop_zero]
  by_cases c : 15 ≤ lits.length
  · rw [if_pos (by omega), if_pos c, List.append_assoc, cnt_lay]
    show lzB K most (15 + ((lits.length - 15 : Nat) : Int)) _ _ _ = _
    rw [show (15 : Int) + ((lits.length - 15 : Nat) : Int) = lits.length by omega]
  · rw [if_neg (by omega), if_neg c, show ((min 15 lits.length : Nat) : Int) = lits.length by omega]
    rfl
theorem lzB_lit (lits rest out : List Int) (q : Int) : lzB K most lits.length q (lits ++ rest) out = if (lits.length : Int) > most - out.length then ([], 5) else lzC K most q rest (out ++ lits) := by
  unfold lzB
  split
  · rfl
  · rw [if_neg (by simp; omega), Int.toNat_natCast, List.drop_left, List.take_left]
theorem lzC_back (d n : Nat) (tl out : List Int) (hd : 0 < d) (hd1 : d ≤ 65535) (ho : d ≤ out.length) (hn : 4 ≤ n) :
    lzC K most ((min 15 (n - 4) : Nat) : Int) (lzBack d ++ ((if 19 ≤ n then lzLay (n - 19) else []) ++ tl)) out = lzD K most ((n - 4 : Nat) : Int) d tl out := by
  have hdist : ∀ t, lzDist (lzBack d ++ t) = d := by
    intro t
    show ((d % 256 : Nat) : Int) + 256 * ((d / 256 : Nat) : Int) = d
    omega
  have hlen : ∀ t : List Int, (lzBack d ++ t).length = t.length + 2 := fun t => by simp [lzBack]
  have hdrop : ∀ t : List Int, (lzBack d ++ t).drop 2 = t := fun t => rfl
  unfold lzC
  rw [hdist, hdrop, if_neg (by rw [hlen]; omega), if_neg (by rw [hlen]; omega), if_neg (by omega)]
  by_cases c : 19 ≤ n
  · rw [if_pos (by omega), if_pos c, cnt_lay]
    show lzD K most (15 + ((n - 19 : Nat) : Int)) _ _ _ = _
    rw [show (15 : Int) + ((n - 19 : Nat) : Int) = ((n - 4 : Nat) : Int) by omega]
  · rw [if_neg (by omega), if_neg c, show ((min 15 (n - 4) : Nat) : Int) = ((n - 4 : Nat) : Int) by omega]
    rfl
end
theorem take_rd (l : List Int) (a : Nat) (h : a < l.length) : l.take a ++ [rd l a] = l.take (a + 1) := by
  rw [List.take_succ_eq_append_getElem h]
  simp [rd, List.getD_eq_getElem?_getD, h]
theorem rd_take (l : List Int) (a i : Nat) (h : i < a) : rd (l.take a) (i : Int) = rd l i := by
  unfold rd
  rw [List.getD_eq_getElem?_getD, List.getD_eq_getElem?_getD, List.getElem?_take, if_pos (by omega)]
theorem rep_take (l : List Int) (d : Nat) : ∀ (c a : Nat), a + c ≤ l.length → 0 < d → d ≤ a → (∀ j, j < c → rd l (a + j : Nat) = rd l (a + j - d : Nat)) → lzRep d c (l.take a) = l.take (a + c)
  | 0, a, _, _, _, _ => rfl
  | c + 1, a, h, hd, hda, he => by
    have hl : (l.take a).length = a := by rw [List.length_take]; omega
    have e0 := he 0 (by omega)
    rw [lzRep, hl, show (a : Int) - (d : Int) = ((a - d : Nat) : Int) by omega, rd_take l a (a - d) (by omega), show a - d = a + 0 - d by omega, ← e0, Nat.add_zero, take_rd l a (by omega), rep_take l d c (a + 1) (by omega) hd (by omega) (fun j hj => by
      have := he (j + 1) (by omega)
      rw [show a + 1 + j = a + (j + 1) by omega]
      exact this)]
    rw [show a + 1 + c = a + (c + 1) by omega]
theorem ext_eq (l : List Int) (at_ k : Nat) : ∀ f n j, n ≤ j → j < ext l at_ k f n → rd l (at_ + j : Nat) = rd l (k + j : Nat)
  | 0, n, j, h1, h2 => by
    rw [ext] at h2
    omega
  | f + 1, n, j, h1, h2 => by
    rw [ext] at h2
    split at h2
    · rename_i c
      by_cases e : j = n
      · subst e
        exact c.2
      · exact ext_eq l at_ k f (n + 1) j (by omega) h2
    · omega
theorem lastKey_key (l : List Int) (q : Int) : ∀ s i, lastKey l s q = some i → keyAt l i = q
  | 0, _, h => by cases h
  | s + 1, i, h => by
    rw [lastKey] at h
    split at h
    · cases h
      assumption
    · exact lastKey_key l q s i h
theorem key_four {l : List Int} (hb : Bts l) {i j : Nat} (hi : i + 4 ≤ l.length) (hj : j + 4 ≤ l.length) (h : keyAt l i = keyAt l j) (q : Nat) (hq : q < 4) : rd l (i + q : Nat) = rd l (j + q : Nat) := by
  have a0 := hb.at i (by omega) (by omega)
  have a1 := hb.at ((i : Int) + 1) (by omega) (by omega)
  have a2 := hb.at ((i : Int) + 2) (by omega) (by omega)
  have a3 := hb.at ((i : Int) + 3) (by omega) (by omega)
  have b0 := hb.at j (by omega) (by omega)
  have b1 := hb.at ((j : Int) + 1) (by omega) (by omega)
  have b2 := hb.at ((j : Int) + 2) (by omega) (by omega)
  have b3 := hb.at ((j : Int) + 3) (by omega) (by omega)
  unfold keyAt at h
  rcases (show q = 0 ∨ q = 1 ∨ q = 2 ∨ q = 3 by omega) with rfl | rfl | rfl | rfl
  · show rd l (i : Int) = rd l (j : Int)
    omega
  · show rd l ((i : Int) + 1) = rd l ((j : Int) + 1)
    omega
  · show rd l ((i : Int) + 2) = rd l ((j : Int) + 2)
    omega
  · show rd l ((i : Int) + 3) = rd l ((j : Int) + 3)
    omega
theorem lit_pos (lits : List Int) (m : Nat) : 0 < (lzLit lits m).length := by
  unfold lzLit
  simp
theorem back_ev {l : List Int} (hb : Bts l) (most : Int) (hm : most = l.length ∨ most = (l.length : Int) - 1) : ∀ (f at_ frm n : Nat), frm ≤ at_ → at_ ≤ l.length → l.length < at_ + f → (frm : Int) ≤ most → (pkT l f at_ frm).length < n →
    lzParts most n (pkT l f at_ frm) (l.take frm) = if most = l.length then (l, 0) else ([], 5)
  | 0, _, _, _, _, _, h, _, _ => by omega
  | f + 1, at_, frm, n, hfa, hal, hf, hfm, hn => by
    obtain ⟨n, rfl⟩ : ∃ n', n = n' + 1 := ⟨n - 1, by omega⟩
    rw [pkT] at hn ⊢
    have hlf : (l.take frm).length = frm := by rw [List.length_take]; omega
    have last : (lzLit (l.drop frm) 0).length < n + 1 → lzParts most (n + 1) (lzLit (l.drop frm) 0) (l.take frm) = if most = l.length then (l, 0) else ([], 5) := by
      intro _
      have e := lzA_lit (K := lzParts most n) (most := most) (l.drop frm) [] (l.take frm) 0
      rw [List.append_nil] at e
      rw [lzParts, e, lzB_lit, hlf, List.length_drop]
      by_cases c : most = l.length
      · rw [if_neg (by omega), if_pos c]
        unfold lzC
        rw [if_pos (show ([] : List Int).length = 0 from rfl), if_neg (show ¬ ((min 15 0 : Nat) : Int) ≠ 0 by decide), List.take_append_drop]
      · rw [if_pos (by omega), if_neg c]
    by_cases c : at_ + 4 ≤ l.length
    · rw [if_pos c] at hn ⊢
      cases hk : lastKey l at_ (keyAt l at_) with
      | none =>
        rw [hk] at hn
        exact back_ev hb most hm f (at_ + 1) frm (n + 1) (by omega) (by omega) (by omega) hfm hn
      | some k =>
        rw [hk] at hn
        dsimp only at hn ⊢
        by_cases c2 : at_ - k ≤ 65535
        · rw [if_pos c2] at hn ⊢
          have hkl := lastKey_lt _ _ _ _ hk
          have hkk := lastKey_key _ _ _ _ hk
          have hx := ext_le l at_ k l.length 4 c
          have hxe := ext_eq l at_ k l.length 4
          generalize ext l at_ k l.length 4 = N at *
          have hla : (l.take at_).length = at_ := by rw [List.length_take]; omega
          have hsplit : l.take frm ++ (l.take at_).drop frm = l.take at_ := by
            have := List.take_append_drop frm (l.take at_)
            rw [List.take_take, Nat.min_eq_left hfa] at this
            exact this
          have hpl : ((l.take at_).drop frm).length = at_ - frm := by rw [List.length_drop, hla]
          have hrep : lzRep ((at_ - k : Nat) : Int) N (l.take at_) = l.take (at_ + N) := rep_take l (at_ - k) N at_ hx.2 (by omega) (by omega) (fun j hj => by
            rw [show at_ + j - (at_ - k) = k + j by omega]
            by_cases c4 : j < 4
            · exact key_four hb c (by omega) hkk.symm j c4
            · exact hxe j (by omega) hj)
          have hlen := lit_pos ((l.take at_).drop frm) (N - 4)
          have ih := back_ev hb most hm f (at_ + N) (at_ + N) n (Nat.le_refl _) hx.2 (by omega)
          generalize pkT l f (at_ + N) (at_ + N) = T at *
          unfold lzPart at hn ⊢
          rw [show lzLit ((l.take at_).drop frm) (N - 4) ++ lzBack (at_ - k) ++ (if 19 ≤ N then lzLay (N - 19) else []) ++ T = lzLit ((l.take at_).drop frm) (N - 4) ++ (lzBack (at_ - k) ++ ((if 19 ≤ N then lzLay (N - 19) else []) ++ T)) by simp only [List.append_assoc]]
          rw [lzParts, lzA_lit, lzB_lit, hlf, hpl, if_neg (by omega), hsplit, lzC_back (at_ - k) N T (l.take at_) (by omega) c2 (by rw [hla]; omega) hx.1]
          unfold lzD
          rw [hla]
          by_cases c5 : ((N - 4 : Nat) : Int) + 4 > most - at_
          · rw [if_pos c5, if_neg (by omega)]
          · rw [if_neg c5, show (((N - 4 : Nat) : Int) + 4).toNat = N by omega, hrep]
            exact ih (by omega) (by simp only [List.length_append] at hn; omega)
        · rw [if_neg c2] at hn ⊢
          exact back_ev hb most hm f (at_ + 1) frm (n + 1) (by omega) (by omega) (by omega) hfm hn
    · rw [if_neg c] at hn ⊢
      exact last hn
theorem lzPack_eq (l : List Int) : lzPack l = pkT l (l.length + 1) 0 0 := by
  unfold lzPack
  rw [pk_eq]
  rfl
theorem unp_pack {l : List Int} (hb : Bts l) : lzUnp (lzPack l) l.length = (l, 0) := by
  unfold lzUnp
  rw [if_neg (by omega), lzPack_eq]
  have h := back_ev hb l.length (.inl rfl) (l.length + 1) 0 0 ((pkT l (l.length + 1) 0 0).length + 1) (Nat.le_refl _) (Nat.zero_le _) (by omega) (by omega) (Nat.lt_succ_self _)
  rw [if_pos rfl] at h
  exact h
theorem unp_short {l : List Int} (hb : Bts l) : lzUnp (lzPack l) ((l.length : Int) - 1) = ([], if l.length = 0 then 1 else 5) := by
  unfold lzUnp
  by_cases c : l.length = 0
  · rw [if_pos (by omega), if_pos c]
  · rw [if_neg (by omega), if_neg c, lzPack_eq]
    have h := back_ev hb ((l.length : Int) - 1) (.inr rfl) (l.length + 1) 0 0 ((pkT l (l.length + 1) 0 0).length + 1) (Nat.le_refl _) (Nat.zero_le _) (by omega) (by omega) (Nat.lt_succ_self _)
    rw [if_neg (by omega)] at h
    exact h
/-! Bytes, and how many. -/
theorem lay_bts (n : Nat) : Bts (lzLay n) := by
  intro c hc
  unfold lzLay at hc
  rcases List.mem_append.1 hc with h | h
  · rw [List.eq_of_mem_replicate h]
    decide
  · rw [List.mem_singleton] at h
    omega
theorem lit_bts {lits : List Int} (h : Bts lits) (m : Nat) : Bts (lzLit lits m) := by
  intro c hc
  unfold lzLit at hc
  rcases List.mem_cons.1 hc with h1 | h1
  · rw [h1]
    exact head_bt _ _
  · rcases List.mem_append.1 h1 with h2 | h2
    · split at h2
      · exact lay_bts _ c h2
      · cases h2
    · exact h c h2
theorem part_bts {l : List Int} (h : Bts l) (frm at_ k n : Nat) (hd : at_ - k ≤ 65535) : Bts (lzPart l frm at_ k n) := by
  intro c hc
  unfold lzPart at hc
  rcases List.mem_append.1 hc with h1 | h1
  · rcases List.mem_append.1 h1 with h2 | h2
    · exact lit_bts ((h.take _).drop _) _ c h2
    · unfold lzBack at h2
      simp only [List.mem_cons, List.not_mem_nil, or_false] at h2
      rcases h2 with h2 | h2 <;> omega
  · split at h1
    · exact lay_bts _ c h1
    · cases h1
theorem lit_len (lits : List Int) (m : Nat) : (lzLit lits m).length ≤ 1 + lits.length + (lits.length + 240) / 255 := by
  unfold lzLit
  split <;> simp [lzLay] <;> omega
theorem pkT_fine {l : List Int} (hb : Bts l) : ∀ (f at_ frm : Nat), frm ≤ at_ → at_ ≤ l.length → Bts (pkT l f at_ frm) ∧ (pkT l f at_ frm).length ≤ (l.length - frm) + (l.length - frm) / 255 + 2
  | 0, at_, frm, h1, h2 => by
    have h := lit_len (l.drop frm) 0
    rw [List.length_drop] at h
    exact ⟨lit_bts (hb.drop _) _, by rw [pkT]; omega⟩
  | f + 1, at_, frm, h1, h2 => by
    have last : Bts (lzLit (l.drop frm) 0) ∧ (lzLit (l.drop frm) 0).length ≤ (l.length - frm) + (l.length - frm) / 255 + 2 := by
      have h := lit_len (l.drop frm) 0
      rw [List.length_drop] at h
      exact ⟨lit_bts (hb.drop _) _, by omega⟩
    rw [pkT]
    by_cases c : at_ + 4 ≤ l.length
    · rw [if_pos c]
      cases hk : lastKey l at_ (keyAt l at_) with
      | none => exact pkT_fine hb f (at_ + 1) frm (by omega) (by omega)
      | some k =>
        dsimp only
        by_cases c2 : at_ - k ≤ 65535
        · rw [if_pos c2]
          have hx := ext_le l at_ k l.length 4 c
          generalize ext l at_ k l.length 4 = N at *
          have ih := pkT_fine hb f (at_ + N) (at_ + N) (Nat.le_refl _) hx.2
          refine ⟨fun x hx => (List.mem_append.1 hx).elim (part_bts hb _ _ _ _ c2 x) (ih.1 x), ?_⟩
          have h := lit_len ((l.take at_).drop frm) (N - 4)
          have hpl : ((l.take at_).drop frm).length = at_ - frm := by rw [List.length_drop, List.length_take]; omega
          rw [hpl] at h
          have hp : (lzPart l frm at_ k N).length ≤ 1 + (at_ - frm) + (at_ - frm + 240) / 255 + 2 + (if 19 ≤ N then (N - 19) / 255 + 1 else 0) := by
            unfold lzPart
            have h2 : (lzBack (at_ - k)).length = 2 := rfl
            split <;> simp [h2, lzLay] <;> omega
          rw [List.length_append]
          have ih2 := ih.2
          split at hp <;> omega
        · rw [if_neg c2]
          exact pkT_fine hb f (at_ + 1) frm (by omega) (by omega)
    · rw [if_neg c]
      exact last
theorem pack_fine {l : List Int} (hb : Bts l) : Bts (lzPack l) ∧ (lzPack l).length ≤ l.length + l.length / 255 + 2 := by
  rw [lzPack_eq]
  have := pkT_fine hb (l.length + 1) 0 0 (Nat.le_refl _) (Nat.zero_le _)
  simpa using this
theorem lzBack_pure (l0 : List Int) (hl : l0.length * 1 ≤ 140737488351232) (hb : ∀ x ∈ l0, (Lit.int .u8 x).wf = true) : dragnetlaw05_LzBack.f l0 = some true := by
  unfold dragnetlaw05_LzBack.f dragnetlaw05_alive.f
  simp only [Option.bind_some, if_true]
  by_cases hm : (l0.length : Int) > 131072
  · rw [if_pos hm]
  · have hbt := bts_of hb
    have hp := pack_fine hbt
    rw [if_neg hm, pack_f (by omega) hbt]
    simp only [Option.bind_some]
    rw [unp_f (by omega) (by omega) hp.1, unp_pack hbt]
    simp only [Option.bind_some, if_true]
    rw [same_refl]
    simp only [Option.bind_some, if_true]
    rw [w64 (by omega), unp_f (by omega) (by omega) hp.1, unp_short hbt]
    simp only [Option.bind_some]
    by_cases c : l0.length = 0
    · rw [if_pos c, if_neg (by decide), if_pos (by omega)]
      rfl
    · rw [if_neg c, if_pos rfl]
theorem long_ev {l : List Int} (hb : Bts l) (hl : l.length ≤ 16384) (a1 : Int) (ha : 0 ≤ a1 ∧ a1 ≤ 255) : ∀ (d i : Nat) (all : List Int), (i : Int) + d = a1 % 4 + 1 → all.length = i * l.length → Bts all → Ev (fun k => dragnetlaw05_LzNeverLong.l0 k l a1 all i) true
  | 0, i, all, hi, hal, hba => by
    have hi4 : i ≤ 4 := by omega
    have hla : all.length ≤ 4 * 16384 := by rw [hal]; exact Nat.mul_le_mul hi4 hl
    have hp := pack_fine hba
    refine ev_now fun k => ?_
    rw [dragnetlaw05_LzNeverLong.l0, w64 (x := a1) (by omega), Int.tmod_eq_emod_of_nonneg ha.1, if_neg (by omega), pack_f (by omega) hba, Option.bind_some, w64 (x := (all.length : Int) / 255) (by omega), w64 (x := (all.length : Int) + (all.length : Int) / 255) (by omega), w64 (by omega), if_neg (by omega), unp_f (by omega) (by omega) hp.1, unp_pack hba]
    simp only [Option.bind_some, if_true]
    rw [same_refl]
    rfl
  | d + 1, i, all, hi, hal, hba => by
    have hi4 : i ≤ 3 := by omega
    have hla : all.length ≤ 3 * 16384 := by rw [hal]; exact Nat.mul_le_mul hi4 hl
    have ih := long_ev hb hl a1 ha d (i + 1) (all ++ l) (by omega) (by rw [List.length_append, hal, Nat.add_mul, Nat.one_mul]) (fun x hx => (List.mem_append.1 hx).elim (hba x) (hb x))
    refine ev_step ih fun k => ?_
    rw [dragnetlaw05_LzNeverLong.l0, w64 (x := a1) (by omega), Int.tmod_eq_emod_of_nonneg ha.1, if_pos (by omega), if_pos (by omega), w64 (by omega)]
    rfl
theorem lzNeverLong_pure (l0 : List Int) (a1 : Int) (hl : l0.length * 1 ≤ 140737488351232) (hb : ∀ x ∈ l0, (Lit.int .u8 x).wf = true) (h1 : (Lit.int .u8 a1).wf = true) : ∃ k, dragnetlaw05_LzNeverLong.f k l0 a1 = some true := by
  unfold dragnetlaw05_LzNeverLong.f dragnetlaw05_alive.f
  simp only [Option.bind_some, if_true]
  by_cases hm : (l0.length : Int) > 16384
  · exact ⟨0, by rw [if_pos hm]⟩
  · have w1 := wf8 h1
    obtain ⟨K, hK⟩ := long_ev (bts_of hb) (by omega) a1 w1 (a1 % 4 + 1).toNat 0 [] (by omega) (by simp) (fun x hx => by cases hx)
    exact ⟨K, by rw [if_neg hm]; exact hK K (Nat.le_refl _)⟩
end Go.Proofs.Ytjgbimlogenodaa.P
