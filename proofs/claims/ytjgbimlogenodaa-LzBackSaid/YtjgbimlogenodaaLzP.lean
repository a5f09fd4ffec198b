/- lz, plainly: the reference's Pack is the program's; the law LzPacks. -/
import Derived.Test.YtjgbimlogenodaaLzU
namespace Go.Proofs.Ytjgbimlogenodaa.P
open Go.RowKit Go.Proofs.YtjgbimlogenodaaW.PrintWords Go.Proofs.YtjgbimlogenodaaW.PrintLast Go.Proofs.YtjgbimlogenodaaW.PrintMore
set_option linter.unusedVariables false
theorem four_f {l : List Int} (hb : Bts l) (hl : l.length < 140737488355328) (i j : Nat) (hi : i + 4 ≤ l.length) (hj : j + 4 ≤ l.length) : dragnetref05_four.f l i j = some (decide (keyAt l i = keyAt l j)) := by
  have a0 := hb.at i (by omega) (by omega)
  have a1 := hb.at ((i : Int) + 1) (by omega) (by omega)
  have a2 := hb.at ((i : Int) + 2) (by omega) (by omega)
  have a3 := hb.at ((i : Int) + 3) (by omega) (by omega)
  have b0 := hb.at j (by omega) (by omega)
  have b1 := hb.at ((j : Int) + 1) (by omega) (by omega)
  have b2 := hb.at ((j : Int) + 2) (by omega) (by omega)
  have b3 := hb.at ((j : Int) + 3) (by omega) (by omega)
  unfold dragnetref05_four.f keyAt
  rw [w64 (x := (i : Int) + 1) (by omega), w64 (x := (i : Int) + 2) (by omega), w64 (x := (i : Int) + 3) (by omega), w64 (x := (j : Int) + 1) (by omega), w64 (x := (j : Int) + 2) (by omega), w64 (x := (j : Int) + 3) (by omega)]
  rw [if_pos (by omega), if_pos (by omega), if_pos (by omega), if_pos (by omega)]
  by_cases c0 : rd l i = rd l j
  · rw [if_pos c0, if_pos (by omega), if_pos (by omega), if_pos (by omega), if_pos (by omega)]
    by_cases c1 : rd l ((i : Int) + 1) = rd l ((j : Int) + 1)
    · rw [if_pos c1, if_pos (by omega), if_pos (by omega), if_pos (by omega), if_pos (by omega)]
      by_cases c2 : rd l ((i : Int) + 2) = rd l ((j : Int) + 2)
      · rw [if_pos c2, if_pos (by omega), if_pos (by omega), if_pos (by omega), if_pos (by omega)]
        congr 1
        by_cases c3 : rd l ((i : Int) + 3) = rd l ((j : Int) + 3)
        · rw [beq_iff_eq.mpr c3, decide_eq_true (by omega)]
        · rw [beq_eq_false_iff_ne.mpr c3, decide_eq_false (by omega)]
      · rw [if_neg c2, decide_eq_false (by omega)]
    · rw [if_neg c1, decide_eq_false (by omega)]
  · rw [if_neg c0, decide_eq_false (by omega)]
def befo (o : Option Nat) : Int := match o with | none => -1 | some i => i
theorem before_ev {l : List Int} (hb : Bts l) (at_ : Nat) (hat : at_ + 4 ≤ l.length) (hl : l.length ≤ 3000) : ∀ i : Nat, i ≤ at_ → Ev (fun k => dragnetref05_before.l0 k l at_ ((i : Int) - 1)) (befo (lastKey l i (keyAt l at_)))
  | 0, _ => by
    refine ev_step (g' := fun k => dragnetref05_before.j1 k l at_ (-1) false) ?_ (fun k => by rw [dragnetref05_before.l0, if_neg (by omega)]; rfl)
    refine ev_now fun k => ?_
    rw [dragnetref05_before.j1, if_neg (by decide)]
    rfl
  | i + 1, hi => by
    have ih := before_ev hb at_ hat hl i (by omega)
    have e : ((i + 1 : Nat) : Int) - 1 = (i : Int) := by omega
    rw [e, lastKey]
    refine ev_step (g' := fun k => dragnetref05_before.j1 k l at_ (i : Int) true) ?_ (fun k => by rw [dragnetref05_before.l0, if_pos (by omega), w64 (by omega), decide_eq_true (by omega)])
    by_cases c : keyAt l i = keyAt l at_
    · rw [if_pos c]
      refine ev_now fun k => ?_
      rw [dragnetref05_before.j1, if_pos rfl, four_f hb (by omega) i at_ (by omega) hat, Option.bind_some, if_pos (decide_eq_true c)]
      rfl
    · rw [if_neg c]
      refine ev_step ih fun k => ?_
      rw [dragnetref05_before.j1, if_pos rfl, four_f hb (by omega) i at_ (by omega) hat, Option.bind_some, if_neg (by rw [decide_eq_true_eq]; exact c), w64 (by omega)]
theorem lay_step {n : Nat} (h : 255 ≤ n) : lzLay n = 255 :: lzLay (n - 255) := by
  unfold lzLay
  rw [show n / 255 = (n - 255) / 255 + 1 by omega, show (n - 255) % 255 = n % 255 by omega, List.replicate_succ]
  rfl
theorem lay_small {n : Nat} (h : n < 255) : lzLay n = [(n : Int)] := by
  unfold lzLay
  rw [show n / 255 = 0 by omega, show n % 255 = n by omega]
  rfl
theorem more_ev : ∀ (n : Nat) (acc : List Int), n < 70368744177664 → acc.length + n < 140737488355328 → Ev (fun k => dragnetref05_more.l0 k n acc) (acc ++ lzLay n) := by
  intro n
  induction n using Nat.strongRecOn with
  | _ n ih =>
    intro acc hn ha
    by_cases c : 255 ≤ n
    · have h := ih (n - 255) (by omega) (acc ++ [255]) (by omega) (by simp; omega)
      rw [lay_step c]
      rw [List.append_assoc] at h
      refine ev_step h fun k => ?_
      rw [dragnetref05_more.l0, if_pos (by omega), if_pos (by omega), w64 (by omega), show (n : Int) - 255 = ((n - 255 : Nat) : Int) by omega]
    · rw [lay_small (by omega)]
      refine ev_now fun k => ?_
      rw [dragnetref05_more.l0, if_neg (by omega), if_pos (by omega), show (n : Int) % 256 = n by omega]
theorem mn15 (a : Nat) : mn 15 (a : Int) = ((min 15 a : Nat) : Int) := by unfold mn; split <;> omega
theorem head_eq (a m : Nat) : wrap64 (wrap64 (16 * ((min 15 a : Nat) : Int)) + ((min 15 m : Nat) : Int)) % 256 = lzHead a m := by
  unfold lzHead
  rw [w64 (x := 16 * ((min 15 a : Nat) : Int)) (by omega), w64 (by omega)]
  omega
theorem part_ev (lits : List Int) (hl : lits.length ≤ 3000) (d n m : Nat) (hd : d ≤ 65535) (hn : n ≤ 3000) (hm : m = if 0 < d then n - 4 else 0) (h4 : 0 < d → 4 ≤ n) :
    Ev (fun k => dragnetref05_part.f k lits d n) (lzLit lits m ++ (if 0 < d then lzBack d ++ (if 15 ≤ m then lzLay (m - 15) else []) else [])) := by
  have j1 : ∀ y : List Int, y.length ≤ 6000 → Ev (fun k => dragnetref05_part.j1 k lits d n ((min 15 m : Nat) : Int) y) (y ++ lits ++ (if 0 < d then lzBack d ++ (if 15 ≤ m then lzLay (m - 15) else []) else [])) := by
    intro y hy
    by_cases c : 0 < d
    · have hm4 : m = n - 4 := by rw [hm, if_pos c]
      have hback : ([(Int.tmod (d : Int) 256) % 256, (wrap64 (Int.tdiv (d : Int) 256)) % 256] : List Int) = lzBack d := by
        unfold lzBack
        rw [Int.tmod_eq_emod_of_nonneg (by omega), Int.tdiv_eq_ediv_of_nonneg (by omega), w64 (by omega), show (d : Int) % 256 % 256 = ((d % 256 : Nat) : Int) by omega, show (d : Int) / 256 % 256 = ((d / 256 : Nat) : Int) by omega]
      have hbl : (lzBack d).length = 2 := rfl
      rw [if_pos c]
      by_cases c2 : 15 ≤ m
      · rw [if_pos c2]
        have hmn : m - 15 = n - 19 := by rw [hm, if_pos c]; omega
        have h := more_ev (n - 19) [] (by omega) (by simp; omega)
        rw [List.nil_append] at h
        refine ev_step (g' := fun k => (dragnetref05_more.f k ((n - 19 : Nat) : Int)).bind fun t => some (y ++ lits ++ lzBack d ++ t)) ?_ ?_
        · rw [hmn, ← List.append_assoc]
          exact ev_bind h ⟨0, fun k _ => rfl⟩
        · intro k
          have hlay : ∀ t, dragnetref05_more.f k ((n - 19 : Nat) : Int) = some t → t.length ≤ 3000 := by
            intro t ht
            obtain ⟨K, hK⟩ := h
            have h1 := at_rounds (g := fun k => dragnetref05_more.f k ((n - 19 : Nat) : Int)) (dragnetref05_more.mono _) (Nat.le_max_left k K) ht
            have h2 := hK (max k K) (Nat.le_max_right k K)
            have h3 : some t = some (lzLay (n - 19)) := h1.symm.trans h2
            cases h3
            simp [lzLay]
            omega
          rw [dragnetref05_part.j1, if_pos (by omega), Option.bind_some, if_neg (by omega), hback, Option.bind_some, if_pos (by simp [hbl]; omega), Option.bind_some, if_pos (by omega), w64 (by omega), show (n : Int) - 19 = ((n - 19 : Nat) : Int) by omega]
          cases ht : dragnetref05_more.f k ((n - 19 : Nat) : Int) with
          | none => rfl
          | some t =>
            have := hlay t ht
            rw [Option.bind_some, Option.bind_some, if_pos (by simp [hbl]; omega)]
      · rw [if_neg c2, List.append_nil]
        refine ev_now fun k => ?_
        have hmin : ¬ ((min 15 m : Nat) : Int) = 15 := by omega
        rw [dragnetref05_part.j1, if_pos (by omega), Option.bind_some, if_neg (by omega), hback, Option.bind_some, if_pos (by simp [hbl]; omega), Option.bind_some, if_neg hmin]
    · rw [if_neg c, List.append_nil]
      refine ev_now fun k => ?_
      rw [dragnetref05_part.j1, if_pos (by omega), Option.bind_some, if_pos (by omega)]
  have j0 : Ev (fun k => dragnetref05_part.j0 k lits d n ((min 15 lits.length : Nat) : Int) ((min 15 m : Nat) : Int)) (lzLit lits m ++ (if 0 < d then lzBack d ++ (if 15 ≤ m then lzLay (m - 15) else []) else [])) := by
    by_cases c : 15 ≤ lits.length
    · have h := more_ev (lits.length - 15) [] (by omega) (by simp; omega)
      rw [List.nil_append] at h
      have e : lzLit lits m = [lzHead lits.length m] ++ lzLay (lits.length - 15) ++ lits := by
        unfold lzLit
        rw [if_pos c]
        simp
      rw [e]
      refine ev_step (g' := fun k => (dragnetref05_more.f k ((lits.length - 15 : Nat) : Int)).bind fun t => if ([lzHead lits.length m]).length + t.length < 140737488355328 then dragnetref05_part.j1 k lits d n ((min 15 m : Nat) : Int) ([lzHead lits.length m] ++ t) else none) ?_ ?_
      · refine ev_bind h ?_
        refine ev_of (j1 ([lzHead lits.length m] ++ lzLay (lits.length - 15)) (by simp [lzLay]; omega)) fun k => ?_
        rw [if_pos (by simp [lzLay]; omega)]
      · intro k
        rw [dragnetref05_part.j0, head_eq, Option.bind_some, if_pos (by omega), w64 (by omega), show (lits.length : Int) - 15 = ((lits.length - 15 : Nat) : Int) by omega]
    · have e : lzLit lits m = [lzHead lits.length m] ++ lits := by
        unfold lzLit
        rw [if_neg c]
        rfl
      rw [e]
      refine ev_step (j1 [lzHead lits.length m] (by simp)) fun k => ?_
      rw [dragnetref05_part.j0, head_eq, Option.bind_some, if_neg (by omega)]
  refine ev_of j0 fun k => ?_
  unfold dragnetref05_part.f
  by_cases c : 0 < d
  · rw [if_pos (by omega), mn15, w64 (by omega), show (n : Int) - 4 = ((n - 4 : Nat) : Int) by omega, mn15, hm, if_pos c]
  · rw [if_neg (by omega), mn15, hm, if_neg c]
    rfl
theorem ext_ge (l : List Int) (at_ k : Nat) : ∀ f n, n ≤ ext l at_ k f n
  | 0, n => Nat.le_refl _
  | f + 1, n => by
    rw [ext]
    split
    · have := ext_ge l at_ k f (n + 1)
      omega
    · exact Nat.le_refl _
theorem lzPart_len (l : List Int) (frm at_ k n : Nat) (h : frm ≤ at_) (ha : at_ ≤ l.length) (hn : 4 ≤ n) : (lzPart l frm at_ k n).length + 4 * frm ≤ 4 * (at_ + n) := by
  have h1 := lzLit_len ((l.take at_).drop frm) (n - 4)
  rw [List.length_drop, List.length_take] at h1
  unfold lzPart
  have h2 : (lzBack (at_ - k)).length = 2 := rfl
  split <;> simp [h2, lzLay] <;> omega
theorem pack_ev {l : List Int} (hb : Bts l) (hl : l.length ≤ 3000) : ∀ (f at_ frm : Nat) (out : List Int), frm ≤ at_ → at_ ≤ l.length → l.length < at_ + f → out.length ≤ 4 * frm →
    Ev (fun k => dragnetref05_Pack.l0 k l out frm at_) (pk l f at_ frm out)
  | 0, _, _, _, _, _, h, _ => by omega
  | f + 1, at_, frm, out, hfa, hal, hf, hout => by
    have ih := pack_ev hb hl f
    rw [pk]
    by_cases c : at_ + 4 ≤ l.length
    · rw [if_pos c]
      have hbe := before_ev hb at_ c hl at_ (Nat.le_refl _)
      have hst : ∀ k, dragnetref05_Pack.l0 (k + 1) l out frm at_ = (dragnetref05_before.l0 k l at_ ((at_ : Int) - 1)).bind fun t => if t < 0 then dragnetref05_Pack.l0 k l out frm ((at_ + 1 : Nat) : Int) else dragnetref05_Pack.l1 k l out frm at_ t 4 := by
        intro k
        rw [dragnetref05_Pack.l0, if_pos (by rw [w64 (by omega)]; omega), w64 (x := (at_ : Int) + 1) (by omega)]
        unfold dragnetref05_before.f
        rw [w64 (x := (at_ : Int) - 1) (by omega)]
        rfl
      cases hk : lastKey l at_ (keyAt l at_) with
      | none =>
        rw [hk] at hbe
        refine ev_step (g' := fun k => (dragnetref05_before.l0 k l at_ ((at_ : Int) - 1)).bind fun t => if t < 0 then dragnetref05_Pack.l0 k l out frm ((at_ + 1 : Nat) : Int) else dragnetref05_Pack.l1 k l out frm at_ t 4) ?_ hst
        refine ev_bind hbe ?_
        exact ev_of (ih (at_ + 1) frm out (by omega) (by omega) (by omega) hout) fun k => if_pos (by decide)
      | some kk =>
        have hkl := lastKey_lt _ _ _ _ hk
        rw [hk] at hbe
        dsimp only
        rw [if_pos (by omega)]
        refine ev_step (g' := fun k => (dragnetref05_before.l0 k l at_ ((at_ : Int) - 1)).bind fun t => if t < 0 then dragnetref05_Pack.l0 k l out frm ((at_ + 1 : Nat) : Int) else dragnetref05_Pack.l1 k l out frm at_ t 4) ?_ hst
        refine ev_bind hbe ?_
        have hl1 : ∀ (g n : Nat), 4 ≤ n → at_ + n ≤ l.length → l.length ≤ at_ + n + g → Ev (fun k => dragnetref05_Pack.l1 k l out frm at_ kk n) (pk l f (at_ + ext l at_ kk g n) (at_ + ext l at_ kk g n) (out ++ lzPart l frm at_ kk (ext l at_ kk g n))) := by
          intro g
          have fin : ∀ n : Nat, 4 ≤ n → at_ + n ≤ l.length → Ev (fun k => (dragnetref05_part.f k ((l.take ((at_ : Int)).toNat).drop ((frm : Int)).toNat) (wrap64 ((at_ : Int) - kk)) n).bind fun t => if out.length + t.length < 140737488355328 then dragnetref05_Pack.l0 k l (out ++ t) (wrap64 ((at_ : Int) + n)) (wrap64 ((at_ : Int) + n)) else none) (pk l f (at_ + n) (at_ + n) (out ++ lzPart l frm at_ kk n)) := by
            intro n h4 hn
            have hp := part_ev ((l.take at_).drop frm) (by rw [List.length_drop, List.length_take]; omega) (at_ - kk) n (n - 4) (by omega) (by omega) (by rw [if_pos (by omega)]) (fun _ => h4)
            rw [if_pos (by omega)] at hp
            have e : lzLit ((l.take at_).drop frm) (n - 4) ++ (lzBack (at_ - kk) ++ if 15 ≤ n - 4 then lzLay (n - 4 - 15) else []) = lzPart l frm at_ kk n := by
              unfold lzPart
              rw [List.append_assoc]
              congr 2
              by_cases c19 : 19 ≤ n
              · rw [if_pos (by omega), if_pos c19, show n - 4 - 15 = n - 19 by omega]
              · rw [if_neg (by omega), if_neg c19]
            rw [e] at hp
            have hpl := lzPart_len l frm at_ kk n hfa hal h4
            rw [Int.toNat_natCast, Int.toNat_natCast, w64 (x := (at_ : Int) - kk) (by omega), w64 (x := (at_ : Int) + n) (by omega), show (at_ : Int) - kk = ((at_ - kk : Nat) : Int) by omega]
            refine ev_bind hp ?_
            refine ev_of (ih (at_ + n) (at_ + n) (out ++ lzPart l frm at_ kk n) (Nat.le_refl _) hn (by omega) (by rw [List.length_append]; omega)) fun k => ?_
            rw [if_pos (by omega)]
            rfl
          induction g with
          | zero =>
            intro n h4 hn hg
            refine ev_step (fin n h4 hn) fun k => ?_
            rw [dragnetref05_Pack.l1, if_neg (by rw [w64 (by omega)]; omega), if_pos (by omega), if_pos (by omega), if_pos (by omega)]
          | succ g ihg =>
            intro n h4 hn hg
            rw [ext]
            by_cases c2 : at_ + n < l.length ∧ rd l (at_ + n : Nat) = rd l (kk + n : Nat)
            · rw [if_pos c2]
              obtain ⟨c3, c4⟩ := c2
              rw [Int.natCast_add, Int.natCast_add] at c4
              refine ev_step (ihg (n + 1) (by omega) (by omega) (by omega)) fun k => ?_
              rw [dragnetref05_Pack.l1, w64 (x := (at_ : Int) + n) (by omega), w64 (x := (kk : Int) + n) (by omega), if_pos (by omega), if_pos (by omega), if_pos (by omega), if_pos (by omega), if_pos c4, w64 (by omega)]
              rfl
            · rw [if_neg c2]
              refine ev_step (fin n h4 hn) fun k => ?_
              by_cases c3 : at_ + n < l.length
              · have c4 : ¬ rd l ((at_ : Int) + n) = rd l ((kk : Int) + n) := fun h => c2 ⟨c3, by rw [Int.natCast_add, Int.natCast_add]; exact h⟩
                rw [dragnetref05_Pack.l1]
                rw [show (if wrap64 ((at_ : Int) + n) < (l.length : Int) then _ else _) = _ from if_pos (by rw [w64 (by omega)]; omega)]
                rw [if_pos (by rw [w64 (by omega)]; omega), if_pos (by rw [w64 (by omega)]; omega), if_pos (by rw [w64 (by omega)]; omega), if_neg (by rw [w64 (x := (at_ : Int) + n) (by omega), w64 (x := (kk : Int) + n) (by omega)]; exact c4), if_pos (by omega), if_pos (by omega), if_pos (by omega)]
              · rw [dragnetref05_Pack.l1, if_neg (by rw [w64 (by omega)]; omega), if_pos (by omega), if_pos (by omega), if_pos (by omega)]
        exact ev_of (hl1 l.length 4 (Nat.le_refl _) (by omega) (by omega)) fun k => if_neg (by show ¬ ((kk : Int) < 0); omega)
    · rw [if_neg c]
      have hp := part_ev (l.drop frm) (by rw [List.length_drop]; omega) 0 0 0 (by decide) (by decide) rfl (fun h => absurd h (by decide))
      rw [if_neg (by decide), List.append_nil] at hp
      have hpl := lzLit_len (l.drop frm) 0
      rw [List.length_drop] at hpl
      refine ev_step (g' := fun k => (dragnetref05_part.f k (l.drop frm) 0 0).bind fun t => if out.length + t.length < 140737488355328 then some (out ++ t) else none) ?_ (fun k => by rw [dragnetref05_Pack.l0, if_neg (by rw [w64 (by omega)]; omega), if_pos (by omega), if_pos (by omega), Int.toNat_natCast])
      refine ev_bind hp ⟨0, fun k _ => ?_⟩
      show (if out.length + (lzLit (l.drop frm) 0).length < 140737488355328 then some (out ++ lzLit (l.drop frm) 0) else none) = _
      rw [if_pos (by omega)]
theorem pack_f {l : List Int} (h : l.length < 1048577) (hb : Bts l) : lz_Pack.f l = some (lzPack l) := if_pos ⟨h, hb⟩
theorem lzPacks_pure (l0 : List Int) (hl : l0.length * 1 ≤ 140737488351232) (hb : ∀ x ∈ l0, (Lit.int .u8 x).wf = true) : ∃ k, dragnetlaw05_LzPacks.f k l0 = some true := by
  unfold dragnetlaw05_LzPacks.f dragnetlaw05_alive.f
  simp only [Option.bind_some, if_true]
  by_cases hm : (l0.length : Int) > 3000
  · exact ⟨0, by rw [if_pos hm]⟩
  · have hbt := bts_of hb
    obtain ⟨K, hK⟩ := pack_ev hbt (by omega) (l0.length + 1) 0 0 [] (Nat.le_refl _) (Nat.zero_le _) (by omega) (Nat.zero_le _)
    refine ⟨K, ?_⟩
    rw [if_neg hm, copy_f (by omega)]
    simp only [Option.bind_some]
    rw [pack_f (by omega) hbt]
    simp only [Option.bind_some]
    rw [show dragnetref05_Pack.f K l0 = some (lzPack l0) from hK K (Nat.le_refl _)]
    simp only [Option.bind_some]
    rw [same_refl]
    simp only [Option.bind_some, if_true]
    rw [same_refl]
    rfl
end Go.Proofs.Ytjgbimlogenodaa.P
