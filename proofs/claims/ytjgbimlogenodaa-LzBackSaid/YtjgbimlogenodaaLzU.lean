/- lz, plainly: the reference's Unpack is the program's; the law LzUnpacks. -/
import Derived.Test.YtjgbimlogenodaaLz
namespace Go.Proofs.Ytjgbimlogenodaa.P
open Go.RowKit Go.Proofs.YtjgbimlogenodaaW.PrintWords Go.Proofs.YtjgbimlogenodaaW.PrintLast Go.Proofs.YtjgbimlogenodaaW.PrintMore
set_option linter.unusedVariables false
theorem ev_step {α : Type} {g g' : Nat → Option α} {r : α} (h : Ev g' r) (hg : ∀ k, g (k + 1) = g' k) : Ev g r := by
  obtain ⟨K, hK⟩ := h
  refine ⟨K + 1, fun k hk => ?_⟩
  obtain ⟨k, rfl⟩ : ∃ k', k = k' + 1 := ⟨k - 1, by omega⟩
  rw [hg]
  exact hK k (by omega)
theorem ev_now {α : Type} {g : Nat → Option α} {r : α} (h : ∀ k, g (k + 1) = some r) : Ev g r := ⟨1, fun k hk => by
  obtain ⟨k, rfl⟩ : ∃ k', k = k' + 1 := ⟨k - 1, by omega⟩
  exact h k⟩
theorem ev_bind {α β : Type} {g : Nat → Option α} {f : Nat → α → Option β} {r : α} {s : β} (h : Ev g r) (h2 : Ev (fun k => f k r) s) : Ev (fun k => (g k).bind (f k)) s := by
  obtain ⟨K, hK⟩ := h
  obtain ⟨K2, hK2⟩ := h2
  refine ⟨max K K2, fun k hk => ?_⟩
  show (g k).bind (f k) = some s
  rw [hK k (by omega), Option.bind_some]
  exact hK2 k (by omega)
theorem ev_of {α : Type} {g g' : Nat → Option α} {r : α} (h : Ev g' r) (hg : ∀ k, g k = g' k) : Ev g r := by
  obtain ⟨K, hK⟩ := h
  exact ⟨K, fun k hk => (hg k).trans (hK k hk)⟩
theorem cnt_le : ∀ (l : List Int) (a n : Int) (r : List Int), Bts l → lzCnt l a = some (n, r) → n ≤ a + 255 * l.length
  | [], _, _, _, _, h => by simp [lzCnt] at h
  | c :: t, a, n, r, hb, h => by
    have hc := hb c (List.mem_cons_self)
    rw [lzCnt] at h
    split at h
    · have := cnt_le t (a + c) n r (fun x hx => hb x (List.mem_cons_of_mem _ hx)) h
      simp only [List.length_cons]
      omega
    · simp only [Option.some.injEq, Prod.mk.injEq] at h
      simp only [List.length_cons]
      omega
theorem sum_ev (l : List Int) (hb : Bts l) (hl : l.length < 140737488355328) : ∀ (d i : Nat) (acc : Int), l.length = i + d → 0 ≤ acc → acc + 255 * d ≤ 36028797018963968 →
    (lzCnt (l.drop i) acc = none → ∃ z, Ev (fun k => dragnetref05_sum.l0 k l acc i) (z, -1)) ∧ (∀ n r, lzCnt (l.drop i) acc = some (n, r) → Ev (fun k => dragnetref05_sum.l0 k l acc i) (n, (l.length : Int) - r.length))
  | 0, i, acc, h, h0, h1 => by
    have e : l.drop i = [] := List.drop_eq_nil_of_le (by omega)
    rw [e]
    refine ⟨fun _ => ⟨acc, ev_now fun k => ?_⟩, fun n r h => by simp [lzCnt] at h⟩
    rw [dragnetref05_sum.l0, if_neg (by omega)]
  | d + 1, i, acc, h, h0, h1 => by
    have e := drop_rd l i (by omega)
    have hc := hb.at i (by omega) (by omega)
    have ih := sum_ev l hb hl d (i + 1) (acc + rd l i) (by omega) (by omega) (by omega)
    have hs : ∀ k, dragnetref05_sum.l0 (k + 1) l acc i = if rd l i = 255 then dragnetref05_sum.l0 k l (acc + rd l i) ((i + 1 : Nat) : Int) else some (acc + rd l i, ((i + 1 : Nat) : Int)) := by
      intro k
      rw [dragnetref05_sum.l0, if_pos (by omega), if_pos (by omega), w64 (x := rd l i) (by omega), w64 (x := acc + rd l i) (by omega), w64 (x := (i : Int) + 1) (by omega), Int.natCast_add]
      rfl
    rw [e, lzCnt]
    by_cases h255 : rd l i = 255
    · rw [if_pos h255]
      refine ⟨fun hn => ?_, fun n r hn => ?_⟩
      · obtain ⟨z, hz⟩ := ih.1 hn
        exact ⟨z, ev_step hz fun k => by rw [hs, if_pos h255]⟩
      · exact ev_step (ih.2 n r hn) fun k => by rw [hs, if_pos h255]
    · rw [if_neg h255]
      refine ⟨fun hn => by simp at hn, fun n r hn => ?_⟩
      simp only [Option.some.injEq, Prod.mk.injEq] at hn
      obtain ⟨rfl, rfl⟩ := hn
      refine ev_now fun k => ?_
      rw [hs, if_neg h255, List.length_drop]
      congr 2
      omega
theorem byte_div {c : Int} (h : 0 ≤ c ∧ c ≤ 255) : wrap64 (Int.tdiv (wrap64 c) 16) = c / 16 := by
  rw [w64 (x := c) (by omega), Int.tdiv_eq_ediv_of_nonneg h.1, w64 (by omega)]
theorem byte_mod {c : Int} (h : 0 ≤ c ∧ c ≤ 255) : Int.tmod (wrap64 c) 16 = c % 16 := by
  rw [w64 (x := c) (by omega), Int.tmod_eq_emod_of_nonneg h.1]
theorem rd_off (l : List Int) (i j : Nat) : rd (l.drop i) (j : Int) = rd l ((i : Int) + j) := rd_drop l i j
section
variable {l : List Int} {most : Int} {K : List Int → List Int → List Int × Int}
theorem l1_ev (hmost : most < 70368744177664) (at_ : Nat) (d : Int) (hd : 0 < d) : ∀ (c : Nat) (out : List Int), d ≤ out.length → (out.length : Int) + c ≤ most →
    Ev (fun k => dragnetref05_Unpack.l0 k l most (lzRep d c out) at_) (K (l.drop at_) (lzRep d c out)) → Ev (fun k => dragnetref05_Unpack.l1 k l most out at_ c d) (K (l.drop at_) (lzRep d c out))
  | 0, out, h1, h2, h => ev_step h fun k => by
    rw [dragnetref05_Unpack.l1, if_neg (by omega)]
    rfl
  | c + 1, out, h1, h2, h => by
    have ih := l1_ev hmost at_ d hd c (out ++ [rd out ((out.length : Int) - d)]) (by simp; omega) (by simp; omega) h
    refine ev_step ih fun k => ?_
    rw [dragnetref05_Unpack.l1, if_pos (by omega), w64 (x := (out.length : Int) - d) (by omega), if_pos (by omega), if_pos (by omega), if_pos (by omega), w64 (x := ((c + 1 : Nat) : Int) - 1) (by omega), show ((c + 1 : Nat) : Int) - 1 = (c : Int) by omega]
theorem j3_ev (hmost : most < 70368744177664) (at_ : Nat) (m d : Int) (hm : 0 ≤ m) (hm1 : m ≤ 36028797018963968) (hd : 0 < d) (out : List Int) (ho : (out.length : Int) ≤ most) (hdo : d ≤ out.length)
    (hK : ∀ out', (out'.length : Int) ≤ most → Ev (fun k => dragnetref05_Unpack.l0 k l most out' at_) (K (l.drop at_) out')) : Ev (fun k => dragnetref05_Unpack.j3 k l most out at_ m d) (lzD K most m d (l.drop at_) out) := by
  unfold lzD
  by_cases c : m + 4 > most - out.length
  · rw [if_pos c]
    refine ev_now fun k => ?_
    rw [dragnetref05_Unpack.j3, w64 (x := m + 4) (by omega), w64 (x := most - out.length) (by omega), if_pos c]
  · rw [if_neg c]
    have h := l1_ev (l := l) (K := K) hmost at_ d hd (m + 4).toNat out hdo (by omega) (hK _ (by rw [lzRep_len]; omega))
    refine ev_step h fun k => ?_
    rw [dragnetref05_Unpack.j3, w64 (x := m + 4) (by omega), w64 (x := most - out.length) (by omega), if_neg c, Int.toNat_of_nonneg (by omega)]
def cStep (k : Nat) (l : List Int) (most : Int) (y : List Int) (a m : Int) : Option (List Int × Int) := (if a = (l.length : Int) then (if m = 0 then ((dragnetref01_Copy.f y).bind fun t => some (t, 0)) else some (([] : List Int), 2)) else (if wrap64 ((l.length : Int) - a) < 2 then some (([] : List Int), 2) else (if 0 ≤ a then (if a < (l.length : Int) then (if 0 ≤ (wrap64 (a + 1)) then (if (wrap64 (a + 1)) < (l.length : Int) then (if (wrap64 ((wrap64 (rd l a)) + (wrap64 (256 * (wrap64 (rd l (wrap64 (a + 1)))))))) = 0 then (dragnetref05_Unpack.j2 k l most y (wrap64 (a + 2)) m (wrap64 ((wrap64 (rd l a)) + (wrap64 (256 * (wrap64 (rd l (wrap64 (a + 1)))))))) true) else (dragnetref05_Unpack.j2 k l most y (wrap64 (a + 2)) m (wrap64 ((wrap64 (rd l a)) + (wrap64 (256 * (wrap64 (rd l (wrap64 (a + 1)))))))) (decide ((wrap64 ((wrap64 (rd l a)) + (wrap64 (256 * (wrap64 (rd l (wrap64 (a + 1)))))))) > (y.length : Int))))) else (none)) else (none)) else (none)) else (none))))
theorem lzC_ev (hb : Bts l) (hl : l.length < 140737488355328) (hmost : most < 70368744177664) (at_ : Nat) (hat : at_ ≤ l.length) (m : Int) (hm : 0 ≤ m ∧ m ≤ 15) (out : List Int) (ho : (out.length : Int) ≤ most)
    (hK : ∀ (a : Nat) out', at_ < a → a ≤ l.length → (out'.length : Int) ≤ most → Ev (fun k => dragnetref05_Unpack.l0 k l most out' a) (K (l.drop a) out')) (hlt : at_ < l.length) (h2 : at_ + 2 ≤ l.length) (hd0 : 0 ≤ lzDist (l.drop at_)) (b : Bool) (hbb : b = decide (lzDist (l.drop at_) = 0 ∨ lzDist (l.drop at_) > out.length)) :
    Ev (fun k => dragnetref05_Unpack.j2 k l most out ((at_ + 2 : Nat) : Int) m (lzDist (l.drop at_)) b) (lzC K most m (l.drop at_) out) := by
  have hlen : (l.drop at_).length = l.length - at_ := List.length_drop
  unfold lzC
  rw [if_neg (by omega), if_neg (by omega), List.drop_drop]
  generalize lzDist (l.drop at_) = d at *
  by_cases c : d = 0 ∨ d > out.length
  · rw [if_pos c]
    refine ev_now fun k => ?_
    rw [dragnetref05_Unpack.j2, if_pos (by rw [hbb]; exact decide_eq_true c)]
  · rw [if_neg c]
    have hj : ∀ k, dragnetref05_Unpack.j2 (k + 1) l most out ((at_ + 2 : Nat) : Int) m d b = if m = 15 then ((dragnetref05_sum.f k l ((at_ + 2 : Nat) : Int)).bind fun bt => (if bt.2 < 0 then some (([] : List Int), 2) else dragnetref05_Unpack.j3 k l most out bt.2 bt.1 d)) else dragnetref05_Unpack.j3 k l most out ((at_ + 2 : Nat) : Int) m d := by
      intro k
      rw [dragnetref05_Unpack.j2, if_neg (by rw [hbb, decide_eq_true_eq]; exact c)]
    by_cases c15 : m = 15
    · rw [if_pos c15]
      have hs := sum_ev l hb hl (l.length - (at_ + 2)) (at_ + 2) 15 (by omega) (by decide) (by omega)
      cases hc : lzCnt (l.drop (at_ + 2)) 15 with
      | none =>
        obtain ⟨z, hz⟩ := hs.1 hc
        refine ev_step (g' := fun k => (dragnetref05_sum.f k l ((at_ + 2 : Nat) : Int)).bind fun bt => (if bt.2 < 0 then some (([] : List Int), 2) else dragnetref05_Unpack.j3 k l most out bt.2 bt.1 d)) ?_ (fun k => by rw [hj, if_pos c15])
        exact ev_bind hz ⟨0, fun k _ => rfl⟩
      | some nr =>
        obtain ⟨n, r⟩ := nr
        obtain ⟨h1, q, rfl, hq, hq0⟩ := cnt_nn _ _ _ _ (hb.drop _) (by decide) hc
        have hn := cnt_le _ _ _ _ (hb.drop _) hc
        rw [List.length_drop] at hq hn
        refine ev_step (g' := fun k => (dragnetref05_sum.f k l ((at_ + 2 : Nat) : Int)).bind fun bt => (if bt.2 < 0 then some (([] : List Int), 2) else dragnetref05_Unpack.j3 k l most out bt.2 bt.1 d)) ?_ (fun k => by rw [hj, if_pos c15])
        refine ev_bind (hs.2 n _ hc) ?_
        have e : (l.length : Int) - ((l.drop (at_ + 2)).drop q).length = ((at_ + 2 + q : Nat) : Int) := by
          rw [List.length_drop, List.length_drop]
          omega
        rw [e]
        refine ev_of (g' := fun k => dragnetref05_Unpack.j3 k l most out ((at_ + 2 + q : Nat) : Int) n d) ?_ (fun k => by rw [if_neg (by dsimp only; omega)])
        rw [List.drop_drop]
        exact j3_ev hmost (at_ + 2 + q) n d h1 (by omega) (by omega) out ho (by omega) (fun out' h => hK _ out' (by omega) (by omega) h)
    · rw [if_neg c15]
      refine ev_step (g' := fun k => dragnetref05_Unpack.j3 k l most out ((at_ + 2 : Nat) : Int) m d) ?_ (fun k => by rw [hj, if_neg c15])
      exact j3_ev hmost (at_ + 2) m d hm.1 (by omega) (by omega) out ho (by omega) (fun out' h => hK _ out' (by omega) (by omega) h)
theorem c_ev (hb : Bts l) (hl : l.length < 140737488355328) (hmost : most < 70368744177664) (a : Nat) (hal : a ≤ l.length) (m : Int) (hm : 0 ≤ m ∧ m ≤ 15) (y : List Int) (hy : (y.length : Int) ≤ most)
    (hK : ∀ (a' : Nat) out', a < a' → a' ≤ l.length → (out'.length : Int) ≤ most → Ev (fun k => dragnetref05_Unpack.l0 k l most out' a') (K (l.drop a') out')) :
    Ev (fun k => cStep k l most y a m) (lzC K most m (l.drop a) y) := by
  have hla : (l.drop a).length = l.length - a := List.length_drop
  by_cases c3 : a = l.length
  · have hl0 : (l.drop a).length = 0 := by omega
    unfold lzC
    rw [if_pos hl0]
    by_cases c4 : m ≠ 0
    · rw [if_pos c4]
      refine ⟨0, fun k _ => ?_⟩
      show cStep k l most y a m = _
      unfold cStep
      rw [if_pos (by omega), if_neg c4]
    · rw [if_neg c4]
      refine ⟨0, fun k _ => ?_⟩
      show cStep k l most y a m = _
      unfold cStep
      rw [if_pos (by omega), if_pos (by omega)]
      unfold dragnetref01_Copy.f
      rw [Option.bind_some, if_pos (by simp; omega)]
      simp
  · by_cases c5 : l.length - a < 2
    · unfold lzC
      rw [if_neg (by omega), if_pos (by omega)]
      refine ⟨0, fun k _ => ?_⟩
      show cStep k l most y a m = _
      unfold cStep
      rw [if_neg (by omega), w64 (by omega), if_pos (by omega)]
    · have h0 := hb.at a (by omega) (by omega)
      have h1 := hb.at ((a : Int) + 1) (by omega) (by omega)
      have hd : wrap64 ((wrap64 (rd l (a : Int))) + (wrap64 (256 * (wrap64 (rd l (wrap64 ((a : Int) + 1))))))) = lzDist (l.drop a) := by
        have e0 : rd (l.drop a) 0 = rd l a := by have := rd_drop l a 0; simpa using this
        have e1 : rd (l.drop a) 1 = rd l ((a : Int) + 1) := rd_drop l a 1
        unfold lzDist
        rw [e0, e1, w64 (x := (a : Int) + 1) (by omega), w64 (x := rd l (a : Int)) (by omega), w64 (x := rd l ((a : Int) + 1)) (by omega), w64 (x := 256 * rd l ((a : Int) + 1)) (by omega), w64 (by omega)]
      have hdn : 0 ≤ lzDist (l.drop a) := by rw [← hd, w64 (x := (a : Int) + 1) (by omega), w64 (x := rd l (a : Int)) (by omega), w64 (x := rd l ((a : Int) + 1)) (by omega), w64 (x := 256 * rd l ((a : Int) + 1)) (by omega), w64 (by omega)]; omega
      have hC := fun b hbb => lzC_ev hb hl hmost a hal m hm y hy (fun a' out' h => hK a' out' h) (by omega) (by omega) hdn b hbb
      have hj2 : ∀ k, cStep k l most y a m = dragnetref05_Unpack.j2 k l most y ((a + 2 : Nat) : Int) m (lzDist (l.drop a)) (decide (lzDist (l.drop a) = 0 ∨ lzDist (l.drop a) > y.length)) := by
        intro k
        unfold cStep
        rw [if_neg (by omega), w64 (x := (l.length : Int) - (a : Int)) (by omega), if_neg (by omega), if_pos (by omega), if_pos (by omega), if_pos (by rw [w64 (by omega)]; omega), if_pos (by rw [w64 (by omega)]; omega), hd, w64 (x := (a : Int) + 2) (by omega), show (a : Int) + 2 = ((a + 2 : Nat) : Int) by omega]
        by_cases cz : lzDist (l.drop a) = 0
        · rw [if_pos cz]
          congr 1
          simp [cz]
        · rw [if_neg cz]
          congr 1
          simp [cz]
      exact ev_of (hC _ rfl) hj2
theorem lzB_ev (hb : Bts l) (hl : l.length < 140737488355328) (hmost : most < 70368744177664) (at_ : Nat) (hat : at_ ≤ l.length) (n m : Int) (hn : 0 ≤ n ∧ n ≤ 36028797018963968) (hm : 0 ≤ m ∧ m ≤ 15) (out : List Int) (ho : (out.length : Int) ≤ most)
    (hK : ∀ (a : Nat) out', at_ < a → a ≤ l.length → (out'.length : Int) ≤ most → Ev (fun k => dragnetref05_Unpack.l0 k l most out' a) (K (l.drop a) out')) :
    Ev (fun k => dragnetref05_Unpack.j1 k l most out at_ n m) (lzB K most n m (l.drop at_) out) := by
  have hlen : (l.drop at_).length = l.length - at_ := List.length_drop
  unfold lzB
  by_cases c : n > most - out.length
  · rw [if_pos c]
    refine ev_now fun k => ?_
    rw [dragnetref05_Unpack.j1, w64 (x := most - out.length) (by omega), if_pos c]
  · rw [if_neg c]
    by_cases c2 : n > (l.drop at_).length
    · rw [if_pos c2]
      refine ev_now fun k => ?_
      rw [dragnetref05_Unpack.j1, w64 (x := most - out.length) (by omega), if_neg c, w64 (x := (l.length : Int) - at_) (by omega), if_pos (by omega)]
    · rw [if_neg c2]
      obtain ⟨n, rfl⟩ := Int.eq_ofNat_of_zero_le hn.1
      rw [Int.toNat_natCast, List.drop_drop]
      have hw : wrap64 ((at_ : Int) + n) = ((at_ + n : Nat) : Int) := by rw [w64 (by omega)]; omega
      have hcut : ((l.take (((at_ + n : Nat) : Int)).toNat).drop ((at_ : Int)).toNat) = (l.drop at_).take n := by
        rw [Int.toNat_natCast, Int.toNat_natCast, List.drop_take, Nat.add_sub_cancel_left]
      have hlp : ((l.drop at_).take n).length = n := by rw [List.length_take]; omega
      have hj : ∀ k, dragnetref05_Unpack.j1 (k + 1) l most out at_ n m = cStep k l most (out ++ (l.drop at_).take n) ((at_ + n : Nat) : Int) m := by
        intro k
        rw [dragnetref05_Unpack.j1, w64 (x := most - out.length) (by omega), if_neg c, w64 (x := (l.length : Int) - at_) (by omega), if_neg (by omega), if_pos (by omega), hw, if_pos (by omega), if_pos (by omega), hcut, if_pos (by rw [hlp]; omega), Option.bind_some]
        rfl
      have hy : ((out ++ (l.drop at_).take n).length : Int) ≤ most := by rw [List.length_append, hlp]; omega
      exact ev_step (c_ev hb hl hmost (at_ + n) (by omega) m hm _ hy (fun a' out' h => hK a' out' (by omega))) hj
theorem lzA_ev (hb : Bts l) (hl : l.length < 140737488355328) (hmost : most < 70368744177664) (at_ : Nat) (hat : at_ ≤ l.length) (out : List Int) (ho : (out.length : Int) ≤ most)
    (hK : ∀ (a : Nat) out', at_ < a → a ≤ l.length → (out'.length : Int) ≤ most → Ev (fun k => dragnetref05_Unpack.l0 k l most out' a) (K (l.drop a) out')) :
    Ev (fun k => dragnetref05_Unpack.l0 k l most out at_) (lzA K most (l.drop at_) out) := by
  have hlen : (l.drop at_).length = l.length - at_ := List.length_drop
  unfold lzA
  by_cases c : (l.drop at_).length = 0
  · rw [if_pos c]
    refine ev_now fun k => ?_
    rw [dragnetref05_Unpack.l0, if_pos (by omega)]
  · rw [if_neg c]
    have h0 := hb.at at_ (by omega) (by omega)
    have e0 : rd (l.drop at_) 0 = rd l at_ := by have := rd_drop l at_ 0; simpa using this
    rw [e0, List.drop_drop]
    have hj : ∀ k, dragnetref05_Unpack.l0 (k + 1) l most out at_ = if rd l at_ / 16 = 15 then ((dragnetref05_sum.f k l ((at_ + 1 : Nat) : Int)).bind fun bt => (if bt.2 < 0 then some (([] : List Int), 2) else dragnetref05_Unpack.j1 k l most out bt.2 bt.1 (rd l at_ % 16))) else dragnetref05_Unpack.j1 k l most out ((at_ + 1 : Nat) : Int) (rd l at_ / 16) (rd l at_ % 16) := by
      intro k
      rw [dragnetref05_Unpack.l0, if_neg (by omega), if_pos (by omega), if_pos (by omega), byte_div h0, byte_mod h0, w64 (x := (at_ : Int) + 1) (by omega), show (at_ : Int) + 1 = ((at_ + 1 : Nat) : Int) by omega]
    by_cases c15 : rd l at_ / 16 = 15
    · rw [if_pos c15]
      have hs := sum_ev l hb hl (l.length - (at_ + 1)) (at_ + 1) 15 (by omega) (by decide) (by omega)
      cases hc : lzCnt (l.drop (at_ + 1)) 15 with
      | none =>
        obtain ⟨z, hz⟩ := hs.1 hc
        refine ev_step (g' := fun k => (dragnetref05_sum.f k l ((at_ + 1 : Nat) : Int)).bind fun bt => (if bt.2 < 0 then some (([] : List Int), 2) else dragnetref05_Unpack.j1 k l most out bt.2 bt.1 (rd l at_ % 16))) ?_ (fun k => by rw [hj, if_pos c15])
        exact ev_bind hz ⟨0, fun k _ => rfl⟩
      | some nr =>
        obtain ⟨n, r⟩ := nr
        obtain ⟨h1, q, rfl, hq, hq0⟩ := cnt_nn _ _ _ _ (hb.drop _) (by decide) hc
        have hn := cnt_le _ _ _ _ (hb.drop _) hc
        rw [List.length_drop] at hq hn
        refine ev_step (g' := fun k => (dragnetref05_sum.f k l ((at_ + 1 : Nat) : Int)).bind fun bt => (if bt.2 < 0 then some (([] : List Int), 2) else dragnetref05_Unpack.j1 k l most out bt.2 bt.1 (rd l at_ % 16))) ?_ (fun k => by rw [hj, if_pos c15])
        refine ev_bind (hs.2 n _ hc) ?_
        have e : (l.length : Int) - ((l.drop (at_ + 1)).drop q).length = ((at_ + 1 + q : Nat) : Int) := by
          rw [List.length_drop, List.length_drop]
          omega
        rw [e]
        refine ev_of (g' := fun k => dragnetref05_Unpack.j1 k l most out ((at_ + 1 + q : Nat) : Int) n (rd l at_ % 16)) ?_ (fun k => by rw [if_neg (by dsimp only; omega)])
        rw [List.drop_drop]
        exact lzB_ev hb hl hmost (at_ + 1 + q) (by omega) n _ ⟨h1, by omega⟩ (by omega) out ho (fun a out' h => hK a out' (by omega))
    · rw [if_neg c15]
      refine ev_step (g' := fun k => dragnetref05_Unpack.j1 k l most out ((at_ + 1 : Nat) : Int) (rd l at_ / 16) (rd l at_ % 16)) ?_ (fun k => by rw [hj, if_neg c15])
      exact lzB_ev hb hl hmost (at_ + 1) (by omega) _ _ (by omega) (by omega) out ho (fun a out' h => hK a out' (by omega))
end
theorem parts_ev {l : List Int} {most : Int} (hb : Bts l) (hl : l.length < 140737488355328) (hmost : most < 70368744177664) : ∀ (n at_ : Nat) (out : List Int), at_ ≤ l.length → l.length - at_ < n → (out.length : Int) ≤ most →
    Ev (fun k => dragnetref05_Unpack.l0 k l most out at_) (lzParts most n (l.drop at_) out)
  | 0, _, _, _, h, _ => by omega
  | n + 1, at_, out, hat, h, ho => lzA_ev hb hl hmost at_ hat out ho (fun a out' h1 h2 h3 => parts_ev hb hl hmost n a out' h2 (by omega) h3)
theorem unp_ev {l : List Int} {most : Int} (hb : Bts l) (hl : l.length < 140737488355328) (hmost : most < 70368744177664) : Ev (fun k => dragnetref05_Unpack.f k l most) (lzUnp l most) := by
  unfold lzUnp
  by_cases c : most < 0
  · rw [if_pos c]
    refine ev_now fun k => ?_
    unfold dragnetref05_Unpack.f
    rw [if_pos c]
  · rw [if_neg c]
    have h := parts_ev hb hl hmost (l.length + 1) 0 [] (Nat.zero_le _) (by omega) (by simp; omega)
    refine ev_of h fun k => ?_
    unfold dragnetref05_Unpack.f
    rw [if_neg c]
    rfl
theorem copy_f {l : List Int} (h : l.length < 140737488355328) : dragnetref01_Copy.f l = some l := by
  unfold dragnetref01_Copy.f
  rw [Option.bind_some, if_pos (by simp; omega)]
  simp
theorem lzUnpacks_pure (l0 : List Int) (a1 : Int) (hl : l0.length * 1 ≤ 140737488351232) (hb : ∀ x ∈ l0, (Lit.int .u8 x).wf = true) (h1 : (Lit.int .i64 a1).wf = true) : ∃ k, dragnetlaw05_LzUnpacks.f k l0 a1 = some true := by
  unfold dragnetlaw05_LzUnpacks.f dragnetlaw05_alive.f
  simp only [Option.bind_some, if_true]
  by_cases hm : a1 > 1048576
  · exact ⟨0, by rw [if_pos hm]⟩
  · have hbt := bts_of hb
    obtain ⟨K, hK⟩ := unp_ev (l := l0) (most := a1) hbt (by omega) (by omega)
    refine ⟨K, ?_⟩
    rw [if_neg hm, copy_f (by omega)]
    simp only [Option.bind_some]
    rw [unp_f (by omega) (by omega) hbt]
    simp only [Option.bind_some]
    rw [show dragnetref05_Unpack.f K l0 a1 = some (lzUnp l0 a1) from hK K (Nat.le_refl _)]
    simp only [Option.bind_some]
    rw [same_refl]
    simp only [Option.bind_some, if_true]
    rw [same_refl]
    rfl
end Go.Proofs.Ytjgbimlogenodaa.P
