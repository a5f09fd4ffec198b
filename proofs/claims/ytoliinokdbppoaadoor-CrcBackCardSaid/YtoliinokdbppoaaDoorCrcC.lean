/- Frames one behind the other, in plain Lean; the law CrcSplits (of bytes of bulk at most 1048576) and the law CrcBack in plain form. -/
import Derived.Test.YtoliinokdbppoaaDoorCrcB
import Derived.Test.YtoliinokdbppoaaDoorPx6
namespace Go.Proofs.YtoliinokdbppoaaDoor.Crc
open Go.RowKit Go.Proofs.YtoliinokdbppoaaDoorW.PrintWords Go.Proofs.YtoliinokdbppoaaDoorW.PrintLast Go.Proofs.YtoliinokdbppoaaDoor.P

theorem first_ok {l : List Int} (h : Bytes l) (e : (first l).2.2 = 0) : 8 ≤ (first l).2.1 ∧ (first l).2.1 ≤ l.length := by
  have hn := num_range h
  unfold first at e ⊢
  by_cases h8 : l.length < 8
  · rw [if_pos h8] at e
    exact absurd e (by decide)
  · rw [if_neg h8] at e ⊢
    by_cases h1 : num l > 16777216
    · rw [if_pos h1] at e
      exact absurd e (by decide)
    · rw [if_neg h1] at e ⊢
      by_cases h2 : num l > (l.length : Int) - 8
      · rw [if_pos h2] at e
        exact absurd e (by decide)
      · rw [if_neg h2] at e ⊢
        by_cases h3 : u32 (sum 0#32 (l.take (4 + (num l).toNat))) = num (l.drop (4 + (num l).toNat))
        · rw [if_pos h3]
          simp only []
          omega
        · rw [if_neg h3] at e
          exact absurd e (by decide)
/-- The payloads of the frames that bytes begin with; how many bytes; the error behind them. -/
def spl : Nat → List Int → List (List Int) × Int × Int
  | 0, _ => ([], 0, 0)
  | f + 1, l => if l.length = 0 then ([], 0, 0) else if (first l).2.2 = 0 then ((first l).1 :: (spl f (l.drop (first l).2.1.toNat)).1, (first l).2.1 + (spl f (l.drop (first l).2.1.toNat)).2.1, (spl f (l.drop (first l).2.1.toNat)).2.2) else ([], 0, (first l).2.2)
theorem spl_nil (f : Nat) : spl f [] = ([], 0, 0) := by
  cases f with
  | zero => rfl
  | succ f => simp only [spl]; rw [if_pos (show ([] : List Int).length = 0 from rfl)]
theorem split_l0 (l : List Int) (h : Bytes l) (hl : l.length < 140737488355328) (f : Nat) : ∀ (e i : Nat) (acc : List (List Int)), i ≤ l.length → l.length - i ≤ f → acc.length + f < 5864062014805 →
    crc_Split.l0 (f + 1 + e) l acc i = some (acc ++ (spl f (l.drop i)).1, i + (spl f (l.drop i)).2.1, (spl f (l.drop i)).2.2) := by
  induction f with
  | zero =>
    intro e i acc hi hf ha
    rw [show 0 + 1 + e = e + 1 from by omega]
    simp only [crc_Split.l0, spl]
    rw [if_neg (by omega)]
    simp
  | succ f ih =>
    intro e i acc hi hf ha
    rw [show f + 1 + 1 + e = (f + 1 + e) + 1 from by omega]
    simp only [crc_Split.l0, spl]
    by_cases hz : i < l.length
    · rw [if_pos (by omega), if_pos (by omega), if_pos (by omega), Int.toNat_natCast, first_f (h.drop i) (by rw [List.length_drop]; omega), Option.bind_some, if_neg (show ¬ (l.drop i).length = 0 by rw [List.length_drop]; omega)]
      by_cases e0 : (first (l.drop i)).2.2 = 0
      · have hk := first_ok (h.drop i) e0
        rw [List.length_drop] at hk
        obtain ⟨m, hm⟩ := Int.eq_ofNat_of_zero_le (show 0 ≤ (first (l.drop i)).2.1 by omega)
        rw [hm] at hk ⊢
        rw [if_pos e0, if_pos e0, if_pos (by omega), wid (by omega) (by omega), show (i : Int) + (m : Int) = ((i + m : Nat) : Int) from by omega, ih e (i + m) _ (by omega) (by omega) (by rw [List.length_append]; simp; omega), List.drop_drop, Int.toNat_natCast, List.append_assoc]
        simp only [List.cons_append, List.nil_append]
        congr 3
        omega
      · rw [if_neg e0, if_neg e0]
        simp
    · rw [if_neg (by omega), if_pos (show (l.drop i).length = 0 by rw [List.length_drop]; omega)]
      simp
theorem refSplit_l0 (l : List Int) (h : Bytes l) (hl : l.length < 140737488355328) (f : Nat) : ∀ (e i : Nat) (acc : List (List Int)), 10 * l.length + 50 ≤ e → i ≤ l.length → l.length - i ≤ f → acc.length + f < 5864062014805 →
    dragnetref01_Split.l0 (f + 1 + e) l acc i = some (acc ++ (spl f (l.drop i)).1, i + (spl f (l.drop i)).2.1, (spl f (l.drop i)).2.2) := by
  induction f with
  | zero =>
    intro e i acc he hi hf ha
    rw [show 0 + 1 + e = e + 1 from by omega]
    simp only [dragnetref01_Split.l0, spl]
    rw [if_neg (by omega)]
    simp
  | succ f ih =>
    intro e i acc he hi hf ha
    rw [show f + 1 + 1 + e = (f + 1 + e) + 1 from by omega]
    simp only [dragnetref01_Split.l0, spl]
    by_cases hz : i < l.length
    · rw [if_pos (by omega), if_pos (by omega), if_pos (by omega), Int.toNat_natCast, refFirst_f (h.drop i) (by rw [List.length_drop]; omega) _ (by rw [List.length_drop]; omega), Option.bind_some, if_neg (show ¬ (l.drop i).length = 0 by rw [List.length_drop]; omega)]
      by_cases e0 : (first (l.drop i)).2.2 = 0
      · have hk := first_ok (h.drop i) e0
        rw [List.length_drop] at hk
        obtain ⟨m, hm⟩ := Int.eq_ofNat_of_zero_le (show 0 ≤ (first (l.drop i)).2.1 by omega)
        rw [hm] at hk ⊢
        rw [if_pos e0, if_pos e0, if_pos (by omega), wid (by omega) (by omega), show (i : Int) + (m : Int) = ((i + m : Nat) : Int) from by omega, ih e (i + m) _ he (by omega) (by omega) (by rw [List.length_append]; simp; omega), List.drop_drop, Int.toNat_natCast, List.append_assoc]
        simp only [List.cons_append, List.nil_append]
        congr 3
        omega
      · rw [if_neg e0, if_neg e0]
        simp
    · rw [if_neg (by omega), if_pos (show (l.drop i).length = 0 by rw [List.length_drop]; omega)]
      simp
theorem split_f (l : List Int) (h : Bytes l) (f k : Nat) (hf : l.length ≤ f) (hb : f < 5864062014805) (hk : f + 1 ≤ k) : crc_Split.f k l = some (spl f l) := by
  have := split_l0 l h (by omega) f (k - (f + 1)) 0 [] (by omega) (by omega) (by simpa using hb)
  rw [show f + 1 + (k - (f + 1)) = k from by omega, List.drop_zero, List.nil_append] at this
  unfold crc_Split.f
  refine this.trans ?_
  congr 2
  simp
theorem refSplit_f (l : List Int) (h : Bytes l) (f k : Nat) (hf : l.length ≤ f) (hb : f < 5864062014805) (hk : 11 * f + 51 ≤ k) : dragnetref01_Split.f k l = some (spl f l) := by
  have := refSplit_l0 l h (by omega) f (k - (f + 1)) 0 [] (by omega) (by omega) (by omega) (by simpa using hb)
  rw [show f + 1 + (k - (f + 1)) = k from by omega, List.drop_zero, List.nil_append] at this
  unfold dragnetref01_Split.f
  refine this.trans ?_
  congr 2
  simp
theorem lists_l0 (x : List (List Int)) (hx : x.length ≤ 140737488355328) (n : Nat) : ∀ (e i : Nat), i + n = x.length → dragnetref01_Lists.l0 (n + 1 + e) x x i = some true := by
  induction n with
  | zero =>
    intro e i hi
    rw [show 0 + 1 + e = e + 1 from by omega]
    simp only [dragnetref01_Lists.l0]
    rw [if_neg (by omega)]
  | succ n ih =>
    intro e i hi
    rw [show n + 1 + 1 + e = (n + 1 + e) + 1 from by omega]
    simp only [dragnetref01_Lists.l0]
    rw [if_pos (by omega), if_pos (by omega), if_pos (by omega), same_refl, Option.bind_some, if_pos rfl, wrap_one (n := x.length) (by omega) (by omega) hx, show ((i : Int) + 1) = ((i + 1 : Nat) : Int) from by omega]
    exact ih e (i + 1) (by omega)
theorem lists_refl (x : List (List Int)) (hx : x.length ≤ 140737488355328) (k : Nat) (hk : x.length + 1 ≤ k) : dragnetref01_Lists.f k x x = some true := by
  unfold dragnetref01_Lists.f
  rw [if_pos rfl]
  have := lists_l0 x hx x.length (k - (x.length + 1)) 0 (by omega)
  rw [show x.length + 1 + (k - (x.length + 1)) = k from by omega] at this
  exact this
theorem spl_length (f : Nat) : ∀ l : List Int, (spl f l).1.length ≤ f := by
  induction f with
  | zero => intro l; simp [spl]
  | succ f ih =>
    intro l
    simp only [spl]
    split
    · simp
    · split
      · simp only [List.length_cons]
        have := ih (l.drop (first l).2.1.toNat)
        omega
      · simp
theorem CrcSplits_row (l0 : List Int) (_ : l0.length * 1 ≤ 140737488351232) (w0 : ∀ x ∈ l0, (Lit.int .u8 x).wf = true) (hb : l0.length ≤ 1048576) : ∃ k, dragnetlaw01_CrcSplits.f k l0 = some true := by
  have h := bytes_of_wf w0
  refine ⟨11 * l0.length + 60, ?_⟩
  unfold dragnetlaw01_CrcSplits.f dragnetlaw01_alive.f
  have hs := spl_length l0.length l0
  rw [Option.bind_some, if_pos rfl, split_f l0 h l0.length _ (Nat.le_refl _) (by omega) (by omega), Option.bind_some, refSplit_f l0 h l0.length _ (Nat.le_refl _) (by omega) (by omega), Option.bind_some, lists_refl _ (by omega) _ (by omega), Option.bind_some, if_pos rfl, if_pos rfl]
  simp

/-! CrcBack. -/
theorem frame_length (p : List Int) : (frame p).length = p.length + 8 := by
  unfold frame head
  rw [List.length_append, List.length_append]
  show 4 + p.length + 4 = _
  omega
theorem num_append {a r : List Int} (h : 4 ≤ a.length) : num (a ++ r) = num a := by
  match a, h with
  | _ :: _ :: _ :: _ :: _, _ => rfl
theorem first_frame {p r : List Int} (_ : Bytes p) (hl : p.length ≤ 16777216) : first (frame p ++ r) = (p, (p.length : Int) + 8, 0) := by
  have h4 : (head p).length = 4 := rfl
  have hn : num (frame p ++ r) = p.length := by
    unfold frame
    rw [List.append_assoc, List.append_assoc, num_append (by rw [h4]; omega)]
    exact num_four (by omega) (by omega)
  have hf := frame_length p
  have e1 : frame p ++ r = (head p ++ p) ++ (four (u32 (sum 0#32 (head p ++ p))) ++ r) := by
    unfold frame
    rw [List.append_assoc]
  have ht : (frame p ++ r).take (4 + p.length) = head p ++ p := by
    rw [e1, List.take_append_of_le_length (by rw [List.length_append, h4]; omega), List.take_of_length_le (by rw [List.length_append, h4]; omega)]
  have hd : (frame p ++ r).drop (4 + p.length) = four (u32 (sum 0#32 (head p ++ p))) ++ r := by
    rw [e1, List.drop_append_of_le_length (by rw [List.length_append, h4]; omega), List.drop_of_length_le (by rw [List.length_append, h4]; omega), List.nil_append]
  have hs := N_lt (sum 0#32 (head p ++ p))
  unfold first
  rw [if_neg (by rw [List.length_append, hf]; omega), hn, if_neg (by omega), if_neg (by rw [List.length_append, hf]; omega), Int.toNat_natCast, ht, hd, num_append (a := four _) (show 4 ≤ (four _).length from Nat.le_refl 4), num_four hs.1 hs.2, if_pos rfl]
  rw [List.drop_append_of_le_length (by rw [h4]; omega), List.drop_of_length_le (by rw [h4]; omega), List.nil_append]
theorem unwrap_frame {p : List Int} (h : Bytes p) (hl : p.length ≤ 16777216) : unwrap (frame p) = (p, 0) := by
  have hf := first_frame (r := []) h hl
  rw [List.append_nil] at hf
  have h4 : (head p).length = 4 := rfl
  have hn : num (frame p) = p.length := by
    unfold frame
    rw [List.append_assoc, num_append (by rw [h4]; omega)]
    exact num_four (by omega) (by omega)
  unfold unwrap
  rw [hf, hn, frame_length, if_neg (by omega)]
/-- Frames one behind the other. -/
def flat : List (List Int) → List Int
  | [] => []
  | p :: ps => frame p ++ flat ps
def Small (ps : List (List Int)) : Prop := ∀ p ∈ ps, Bytes p ∧ p.length ≤ 4096
theorem flat_bytes {ps : List (List Int)} (h : Small ps) : Bytes (flat ps) := by
  induction ps with
  | nil => intro x hx; cases hx
  | cons p ps ih => exact (frame_bytes (h p (by simp)).1).append (ih (fun q hq => h q (List.mem_cons_of_mem _ hq)))
theorem flat_append (ps qs : List (List Int)) : flat (ps ++ qs) = flat ps ++ flat qs := by
  induction ps with
  | nil => rfl
  | cons p ps ih => simp only [List.cons_append, flat]; rw [ih, List.append_assoc]
theorem flat_length {ps : List (List Int)} (h : Small ps) : (flat ps).length ≤ 4104 * ps.length := by
  induction ps with
  | nil => simp [flat]
  | cons p ps ih =>
    have h1 := ih (fun q hq => h q (List.mem_cons_of_mem _ hq))
    have h2 := (h p (by simp)).2
    simp only [flat, List.length_append, List.length_cons]
    rw [frame_length]
    omega
theorem spl_cut {ps : List (List Int)} : ∀ (_ : Small ps) (f at_ j : Nat), ps.length + 1 ≤ f → j ≤ ps.length → (flat (ps.take j)).length ≤ at_ → at_ ≤ (flat ps).length → (j < ps.length → at_ < (flat (ps.take (j + 1))).length) →
    spl f ((flat ps).take at_) = (ps.take j, ((flat (ps.take j)).length : Int), if (flat (ps.take j)).length = at_ then 0 else 3) := by
  induction ps with
  | nil =>
    intro h f at_ j hf hj h1 h2 h3
    have : at_ = 0 := by simpa [flat] using h2
    subst this
    rw [List.take_zero, spl_nil]
    simp [flat]
  | cons p ps ih =>
    intro h f at_ j hf hj h1 h2 h3
    have hp := h p (by simp)
    have hps : Small ps := fun q hq => h q (List.mem_cons_of_mem _ hq)
    obtain ⟨f, rfl⟩ : ∃ g, f = g + 1 := ⟨f - 1, by omega⟩
    have hfl := frame_length p
    cases j with
    | zero =>
      have h4 := h3 (by simp)
      simp only [List.take_succ_cons, List.take_zero, flat, List.append_nil] at h4
      rw [hfl] at h4
      have ht : (flat (p :: ps)).take at_ = (frame p).take at_ := by
        simp only [flat]
        rw [List.take_append_of_le_length (by omega)]
      rw [ht]
      simp only [List.take_zero, flat, List.length_nil]
      by_cases h0 : at_ = 0
      · subst h0
        rw [List.take_zero, spl_nil]
        rfl
      · have hlen : ((frame p).take at_).length = at_ := by
          rw [List.length_take, hfl]
          omega
        have hfirst : first ((frame p).take at_) = ([], 0, 3) := by
          unfold first
          rw [hlen]
          by_cases h8 : at_ < 8
          · rw [if_pos h8]
          · have h4' : (head p).length = 4 := rfl
            have hn : num ((frame p).take at_) = p.length := by
              have e : num (frame p) = p.length := by
                unfold frame
                rw [List.append_assoc, num_append (by rw [h4']; omega)]
                exact num_four (by omega) (by omega)
              rw [← e]
              have := num_append (a := (frame p).take at_) (r := (frame p).drop at_) (by rw [hlen]; omega)
              rw [List.take_append_drop] at this
              exact this.symm
            rw [if_neg h8, hn, if_neg (by omega), if_pos (by omega)]
        simp only [spl]
        rw [if_neg (by rw [hlen]; exact h0), hfirst, if_neg (by decide), if_neg (fun e => h0 e.symm)]
        rfl
    | succ j =>
      simp only [List.take_succ_cons, flat, List.length_append, List.length_cons] at h1 h2 h3 hj ⊢
      rw [hfl] at h1 h2 h3 ⊢
      have ht : (frame p ++ flat ps).take at_ = frame p ++ (flat ps).take (at_ - (p.length + 8)) := by
        rw [List.take_append, List.take_of_length_le (by rw [hfl]; omega), hfl]
      rw [ht]
      simp only [spl]
      rw [if_neg (by rw [List.length_append, hfl]; omega), first_frame hp.1 (by omega)]
      simp only []
      rw [if_pos trivial, show ((p.length : Int) + 8).toNat = p.length + 8 from by omega, List.drop_append_of_le_length (by rw [hfl]; omega), List.drop_of_length_le (by rw [hfl]; omega), List.nil_append]
      rw [ih hps f (at_ - (p.length + 8)) j (by simp at hf; omega) (by omega) (by omega) (by omega) (by intro hj2; have := h3 (by omega); omega)]
      simp only [Prod.mk.injEq, true_and]
      refine ⟨by omega, ?_⟩
      by_cases e : (flat (ps.take j)).length = at_ - (p.length + 8)
      · rw [if_pos e, if_pos (by omega)]
      · rw [if_neg e, if_neg (by omega)]
theorem spl_flat {ps : List (List Int)} (h : Small ps) (f : Nat) (hf : ps.length + 1 ≤ f) : spl f (flat ps) = (ps, ((flat ps).length : Int), 0) := by
  have := spl_cut h f (flat ps).length ps.length hf (Nat.le_refl _) (by rw [List.take_length]; exact Nat.le_refl _) (Nat.le_refl _) (fun z => absurd z (Nat.lt_irrefl _))
  rw [List.take_length, List.take_length, if_pos rfl] at this
  exact this
/-- Where the frames end. -/
def ends (ps : List (List Int)) (i : Nat) : List Int := (List.range i).map fun j => ((flat (ps.take (j + 1))).length : Int)
theorem ends_rd (ps : List (List Int)) (i j : Nat) (h : j < i) : rd (ends ps i) j = ((flat (ps.take (j + 1))).length : Int) := by
  unfold rd ends
  rw [Int.toNat_natCast, List.getD_eq_getElem?_getD, List.getElem?_map, List.getElem?_range h]
  rfl
theorem flat_take_le (ps : List (List Int)) (j : Nat) : (flat (ps.take j)).length ≤ (flat ps).length := by
  have h := flat_append (ps.take j) (ps.drop j)
  rw [List.take_append_drop] at h
  rw [h, List.length_append]
  omega
theorem back_l1 (ps : List (List Int)) (h : Small ps) (hn : ps.length ≤ 30) (at_ : Nat) (hat : at_ ≤ (flat ps).length) (n : Nat) : ∀ (e j : Nat), 200000 ≤ e → j + n = ps.length → (flat (ps.take j)).length ≤ at_ →
    dragnetlaw01_CrcBack.l1 (n + 1 + e) ps (flat ps) (ends ps ps.length) at_ j ((flat (ps.take j)).length : Int) = some true := by
  have hfl := flat_length h
  have hel : (ends ps ps.length).length = ps.length := by unfold ends; simp
  have fin : ∀ (K j : Nat), 200000 ≤ K → j ≤ ps.length → (flat (ps.take j)).length ≤ at_ → (j < ps.length → at_ < (flat (ps.take (j + 1))).length) →
      crc_Split.f K ((flat ps).take at_) = some (ps.take j, ((flat (ps.take j)).length : Int), if (flat (ps.take j)).length = at_ then 0 else 3) := by
    intro K j hK hj h1 h2
    rw [split_f _ ((flat_bytes h).take _) (150000 : Nat) K (by rw [List.length_take]; omega) (by omega) (by omega), spl_cut h 150000 at_ j (by omega) hj h1 hat h2]
  have rest : ∀ (K j : Nat), 200000 ≤ K → j ≤ ps.length →
      (dragnetref01_Lists.f K (ps.take j) (ps.take ((j : Int)).toNat)) = some true := by
    intro K j hK hj
    rw [Int.toNat_natCast]
    exact lists_refl _ (by rw [List.length_take]; omega) _ (by rw [List.length_take]; omega)
  induction n with
  | zero =>
    intro e j he hj h1
    rw [show 0 + 1 + e = e + 1 from by omega]
    simp only [dragnetlaw01_CrcBack.l1]
    rw [if_neg (by rw [hel]; omega), if_pos (by omega), if_pos (by omega), Int.toNat_natCast, fin e j he (by omega) h1 (fun z => by omega), Option.bind_some, if_pos (by omega), if_pos (by omega)]
    simp only []
    have := rest e j he (by omega)
    rw [this, Option.bind_some, if_pos rfl, if_pos trivial]
    by_cases q : (flat (ps.take j)).length = at_
    · rw [if_pos q, if_pos rfl, if_pos (by omega)]
    · rw [if_neg q, if_neg (by decide), if_neg (by omega)]
      rfl
  | succ n ih =>
    intro e j he hj h1
    rw [show n + 1 + 1 + e = (n + 1 + e) + 1 from by omega]
    simp only [dragnetlaw01_CrcBack.l1]
    rw [if_pos (by rw [hel]; omega), if_pos (by omega), ends_rd ps ps.length j (by omega)]
    by_cases hc : (flat (ps.take (j + 1))).length ≤ at_
    · rw [if_pos (by omega), wrap_one (n := ps.length) (by omega) (by omega) (by omega), show ((j : Int) + 1) = ((j + 1 : Nat) : Int) from by omega]
      exact ih e (j + 1) he (by omega) hc
    · rw [if_neg (by omega), if_pos (by omega), if_pos (by omega), Int.toNat_natCast, fin _ j (by omega) (by omega) h1 (fun _ => by omega), Option.bind_some, if_pos (by omega)]
      simp only []
      have := rest (n + 1 + e) j (by omega) (by omega)
      rw [this, Option.bind_some, if_pos rfl, if_pos trivial]
      by_cases q : (flat (ps.take j)).length = at_
      · rw [if_pos q, if_pos rfl, if_pos (by omega)]
      · rw [if_neg q, if_neg (by decide), if_neg (by omega)]
        rfl
theorem back_l0 (ps : List (List Int)) (hb : ∀ p ∈ ps, Bytes p) (hn : ps.length ≤ 30) (a1 : Int) (ha : 0 ≤ a1 ∧ a1 < 65536) (n : Nat) : ∀ (e i : Nat), 300000 ≤ e → i + n = ps.length → Small (ps.take i) →
    dragnetlaw01_CrcBack.l0 (n + 1 + e) ps a1 (flat (ps.take i)) (ends ps i) i = some true := by
  induction n with
  | zero =>
    intro e i he hi hs
    obtain rfl : i = ps.length := by omega
    rw [List.take_length] at hs ⊢
    have hfl := flat_length hs
    rw [show 0 + 1 + e = e + 1 from by omega]
    simp only [dragnetlaw01_CrcBack.l0]
    rw [if_neg (by omega), split_f _ (flat_bytes hs) 150000 e (by omega) (by omega) (by omega), spl_flat hs 150000 (by omega), Option.bind_some]
    simp only []
    rw [if_pos trivial, if_pos trivial, lists_refl ps (by omega) e (by omega), Option.bind_some]
    obtain ⟨e, rfl⟩ : ∃ g, e = g + 1 := ⟨e - 1, by omega⟩
    simp only [dragnetlaw01_CrcBack.j1]
    rw [if_neg (by decide), wid (x := ((flat ps).length : Int) + 1) (by omega) (by omega), if_neg (by omega), wid (x := a1) (by omega) (by omega)]
    obtain ⟨c, rfl⟩ := Int.eq_ofNat_of_zero_le ha.1
    have ht : Int.tmod (c : Int) (((flat ps).length : Int) + 1) = ((c % ((flat ps).length + 1) : Nat) : Int) := by
      rw [show ((flat ps).length : Int) + 1 = (((flat ps).length + 1 : Nat) : Int) from by omega]
      exact (Int.ofNat_tmod _ _).symm
    rw [ht]
    have hlt := Nat.mod_lt c (show 0 < (flat ps).length + 1 by omega)
    have := back_l1 ps hs hn (c % ((flat ps).length + 1)) (by omega) ps.length (e - (ps.length + 1)) 0 (by omega) (by omega) (by simp [flat])
    rw [show ps.length + 1 + (e - (ps.length + 1)) = e from by omega] at this
    exact this
  | succ n ih =>
    intro e i he hi hs
    have hfl := flat_length hs
    rw [List.length_take] at hfl
    have hlt : i < ps.length := by omega
    have hrd : rd_L1 ps i = ps[i] := by
      unfold rd_L1
      simp [hlt]
    have hbi := hb ps[i] (List.getElem_mem hlt)
    rw [show n + 1 + 1 + e = (n + 1 + e) + 1 from by omega]
    simp only [dragnetlaw01_CrcBack.l0]
    rw [if_pos (by omega), if_pos (by omega), hrd]
    by_cases hl : ((ps[i].length : Nat) : Int) > 4096
    · rw [if_pos hl]
    · rw [if_neg hl, wrap_f _ (by omega), Option.bind_some, unwrap_f (frame_bytes hbi) (by rw [frame_length]; omega), Option.bind_some, unwrap_frame hbi (by omega)]
      simp only []
      rw [if_pos trivial, if_pos trivial, same_refl, Option.bind_some, if_pos rfl, if_pos (by rw [frame_length]; omega), Option.bind_some]
      have htk : ps.take (i + 1) = ps.take i ++ [ps[i]] := List.take_succ_eq_append_getElem hlt
      have hfe : flat (ps.take i) ++ frame ps[i] = flat (ps.take (i + 1)) := by
        rw [htk, flat_append]
        simp [flat]
      have hse : Small (ps.take (i + 1)) := by
        rw [htk]
        intro p hp
        rcases List.mem_append.1 hp with hp | hp
        · exact hs p hp
        · obtain rfl := List.mem_singleton.1 hp
          exact ⟨hbi, by omega⟩
      have hee : ends ps i ++ [((flat (ps.take (i + 1))).length : Int)] = ends ps (i + 1) := by
        unfold ends
        rw [List.range_succ, List.map_append]
        rfl
      rw [hfe, if_pos (by have : (ends ps i).length = i := by unfold ends; simp
                          omega), hee, wrap_one (n := ps.length) (by omega) (by omega) (by omega), show ((i : Int) + 1) = ((i + 1 : Nat) : Int) from by omega]
      exact ih e (i + 1) he (by omega) hse
theorem CrcBack_row {n m : Nat} (l0 : List (List Int)) (a1 : Int) (h : l0.length * n ≤ 140737488351232 ∧ ∀ p ∈ l0, p.length * m ≤ 140737488351232 ∧ ∀ x ∈ p, (Lit.int .u8 x).wf = true) (w1 : (Lit.int .u16 a1).wf = true) : ∃ k, dragnetlaw01_CrcBack.f k l0 a1 = some true := by
  have hb : ∀ p ∈ l0, Bytes p := fun p hp => bytes_of_wf (h.2 p hp).2
  have ha : 0 ≤ a1 ∧ a1 < 65536 := by
    simp [Lit.wf, IntKind.min, IntKind.max, IntKind.signed, IntKind.bits] at w1
    omega
  refine ⟨300100, ?_⟩
  unfold dragnetlaw01_CrcBack.f dragnetlaw01_alive.f
  rw [Option.bind_some, if_pos rfl]
  by_cases hn : (l0.length : Int) > 30
  · rw [if_pos hn]
  · rw [if_neg hn]
    have := back_l0 l0 hb (by omega) a1 ha l0.length (300100 - (l0.length + 1)) 0 (by omega) (by omega) (fun p hp => by cases hp)
    rw [show l0.length + 1 + (300100 - (l0.length + 1)) = 300100 from by omega] at this
    exact this
end Go.Proofs.YtoliinokdbppoaaDoor.Crc
