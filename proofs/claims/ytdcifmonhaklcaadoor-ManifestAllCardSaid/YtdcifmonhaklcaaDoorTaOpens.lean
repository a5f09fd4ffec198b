/- From what a row's argument reads as (its datum) to what the printed contracts ask of it: whole numbers, strings, bools, slices of whatever is so opened. -/
import Derived.Test.YtdcifmonhaklcaaDoorTaW0
import Derived.Deep.Slices
import Derived.SizedLaws
import Derived.Lib.LaidTab
import Derived.Deep.Strs
import Derived.Lib.SmallJoins
namespace Go.Proofs.YtdcifmonhaklcaaDoor.Opens
open Go.ChangeShapes Go.WideShapes Go.Deep Go.Proofs.YtdcifmonhaklcaaDoorW.PrintWords
section
variable {H : Type} {enc : TypeId × Value → H} {P : Program} {w : World} {base : Nat} {spare : Nat → Bool} {held : Bool} {α : Type}
def Op {H : Type} (enc : TypeId × Value → H) (P : Program) (w : World) (base : Nat) (spare : Nat → Bool) (held : Bool) {α : Type} (d : Kd α) (t : TypeId) (Q : α → Prop) : Prop :=
  ∀ (fuel : Nat) (cs : List Value) (D : DataW H) (ps : List MemPlace), DataW.trod enc P w base spare held fuel t cs = some (D, ps) → (D.weights P t).all (· ≤ reachBytes) = true → ∃ a, d.K w a cs ∧ Q a
theorem op_int {t : TypeId} {k : IntKind} (ht : P.underlying t = some (.int k)) : Op enc P w base spare held (Kd.int k) t (fun x => (Lit.int k x).wf = true) := by
  intro fuel cs D ps h _
  obtain ⟨n, rfl, _, hw⟩ := DataW.trod_int ht h
  exact ⟨n, rfl, hw⟩
theorem op_string {t : TypeId} (ht : P.underlying t = some .string) : Op enc P w base spare held Kd.string t (fun s => s.size ≤ 140737488351232) := by
  intro fuel cs D ps h hs
  obtain ⟨s, rfl, hx, _⟩ := DataW.trod_string ht h
  obtain ⟨rfl, _⟩ := Prod.mk.inj hx
  refine ⟨s, rfl, ?_⟩
  simp [DataW.weights, reachBytes] at hs
  exact of_decide_eq_true hs
theorem list_of {n : Nat} {p : Nat → α → Prop} (h : ∀ i, i < n → ∃ a, p i a) : ∃ xs : List α, xs.length = n ∧ ∀ i a, xs[i]? = some a → p i a := by
  induction n with
  | zero => exact ⟨[], rfl, fun i a hi => by simp at hi⟩
  | succ n ih =>
    obtain ⟨xs, hl, hx⟩ := ih (fun i hi => h i (by omega))
    obtain ⟨a, ha⟩ := h n (by omega)
    refine ⟨xs ++ [a], by simp [hl], fun i b hb => ?_⟩
    by_cases hi : i < xs.length
    · rw [List.getElem?_append_left hi] at hb
      exact hx i b hb
    · rw [List.getElem?_append_right (by omega)] at hb
      have hi0 : i - xs.length = 0 := by
        have := (List.getElem?_eq_some_iff.1 hb).1
        simp at this
        omega
      rw [hi0] at hb
      have e : a = b := by simpa using hb
      have e2 : i = n := by omega
      rw [← e, e2]
      exact ha
theorem cells_at {a : Addr} {n : Nat} {cs : List Value} (h : w.cells? base a n = some cs) : cs.length = n ∧ ∀ i u, cs[i]? = some u → w.cell? (a.add i) = some u := by
  unfold World.cells? at h
  split at h
  · have hl := Lib.mapM_length h
    rw [List.length_range] at hl
    refine ⟨hl, fun i u hu => ?_⟩
    have hi := (List.getElem?_eq_some_iff.1 hu).1
    obtain ⟨b, hb, hc⟩ := Lib.mapM_at h i i (by rw [List.getElem?_range (by omega)])
    rw [hu] at hb
    obtain rfl := Option.some.inj hb
    exact hc
  · cases h
theorem weights_all {e : TypeId} {l : List (DataW H)} (h : (DataW.weightsAll P e l).all (· ≤ reachBytes) = true) : ∀ d ∈ l, (d.weights P e).all (· ≤ reachBytes) = true := by
  induction l with
  | nil => intro d hd; cases hd
  | cons x l ih =>
    simp only [DataW.weightsAll, List.all_append, Bool.and_eq_true] at h
    intro d hd
    rcases List.mem_cons.1 hd with rfl | hd
    · exact h.1
    · exact ih h.2 d hd
theorem op_slice {d : Kd α} {t e : TypeId} {Q : α → Prop} (ht : P.underlying t = some (.slice e)) (hc : P.cellsOf e = d.sz) (hd : Op enc P w base spare held d e Q) :
    Op enc P w base spare held (Kd.slice e d) t (fun xs => xs.length * P.bytesOf e ≤ 140737488351232 ∧ ∀ x ∈ xs, Q x) := by
  intro fuel cs D ps h hs
  rcases open_slice ht h with ⟨rfl, _⟩ | ⟨a, len, cap, m, n, E, Pl, rfl, hb, hl, hm, hmm, hx, hel⟩
  · exact ⟨[], ⟨none, 0, rfl, Nat.le_refl _, Kd.C_nil _ _⟩, by simp, fun x hx => by cases hx⟩
  · obtain ⟨rfl, _⟩ := Prod.mk.inj hx
    have hs2 := hs
    simp only [DataW.weights, ht, List.all_cons, List.all_append, Bool.and_eq_true, decide_eq_true_eq] at hs2
    obtain ⟨h1, h2, _⟩ := hs2
    have hle : len ≤ m := by rw [hmm]; split <;> omega
    obtain ⟨xs, hxl, hxs⟩ := list_of (n := len) (p := fun i x => ∃ cs', w.cells? base (a.add (i * P.cellsOf e)) (P.cellsOf e) = some cs' ∧ d.K w x cs' ∧ Q x) (fun i hi => by
      obtain ⟨cs', h3, h4⟩ := hel i (by omega)
      obtain ⟨x, h5, h6⟩ := hd n cs' (E i) (Pl i) h4 (weights_all h2 (E i) (List.mem_map.2 ⟨i, List.mem_range.2 hi, rfl⟩))
      exact ⟨x, cs', h3, h5, h6⟩)
    subst hxl
    refine ⟨xs, ⟨some a, cap, rfl, hl, rfl, by unfold maxLen at hm; omega, fun _ => ⟨a, rfl, fun j p hj => ?_⟩⟩, ?_, fun x hx => ?_⟩
    · obtain ⟨cs', h3, h5, _⟩ := hxs j p hj
      obtain ⟨h6, h7⟩ := cells_at h3
      refine ⟨cs', by rw [h6, hc], h5, fun i u hu => ?_⟩
      have := h7 i u hu
      rw [Go.Deep.add_add, hc] at this
      exact this
    · simp only [List.length_map, List.length_range, reachBytes] at h1
      exact Nat.le_trans (Nat.mul_le_mul_right _ (Nat.le_add_right _ _)) h1
    · obtain ⟨i, hi, rfl⟩ := List.mem_iff_getElem.1 hx
      obtain ⟨_, _, _, hq⟩ := hxs i xs[i] (List.getElem?_eq_getElem hi)
      exact hq
theorem weights_each {ts : List TypeId} {ds : List (DataW H)} (h : (DataW.weightsEach P ts ds).all (· ≤ reachBytes) = true) {j : Nat} {t : TypeId} {d : DataW H} (ht : ts[j]? = some t) (hd : ds[j]? = some d) : (d.weights P t).all (· ≤ reachBytes) = true := by
  rw [List.all_eq_true] at h ⊢
  exact fun x hx => h x (DataW.weights_mem_each ht hd x hx)
theorem op_iso {β : Type} {d : Kd α} {t : TypeId} {Q : α → Prop} (f : β → α) (g : α → β) (hg : ∀ a, f (g a) = a) (h : Op enc P w base spare held d t Q) : Op enc P w base spare held (Kd.iso d f) t (fun b => Q (f b)) := by
  intro fuel cs D ps h1 h2
  obtain ⟨a, h3, h4⟩ := h fuel cs D ps h1 h2
  exact ⟨g a, by show d.K w (f (g a)) cs; rw [hg]; exact h3, by show Q (f (g a)); rw [hg]; exact h4⟩
variable {β γ δ : Type}
theorem op_struct2 {t : TypeId} {f0 f1 : Field} {d0 : Kd α} {d1 : Kd β} {Q0 : α → Prop} {Q1 : β → Prop} (ht : P.underlying t = some (.struct #[f0, f1])) (o0 : f0.offset = 0) (o1 : f1.offset = d0.sz) (s0 : P.cellsOf f0.type = d0.sz) (s1 : P.cellsOf f1.type = d1.sz)
    (hs : P.cellsOf t = d0.sz + d1.sz) (h0 : Op enc P w base spare held d0 f0.type Q0) (h1 : Op enc P w base spare held d1 f1.type Q1) : Op enc P w base spare held (Kd.pair d0 d1) t (fun x => Q0 x.1 ∧ Q1 x.2) := by
  intro fuel cs D ps h hw
  obtain ⟨y0, y1, n, hx, hl, ha, hb⟩ := trod_struct2 ht h
  obtain ⟨rfl, _⟩ := Prod.mk.inj hx
  simp only [DataW.weights, ht, List.map_cons, List.map_nil, DataW.weightsEach, List.all_append, Bool.and_eq_true] at hw
  rw [o0, s0, List.drop_zero] at ha
  rw [o1, s1, List.take_of_length_le (by rw [List.length_drop]; omega)] at hb
  obtain ⟨a, ka, qa⟩ := h0 n _ _ _ ha hw.1
  obtain ⟨b, kb, qb⟩ := h1 n _ _ _ hb hw.2.1
  exact ⟨(a, b), ⟨cs.take d0.sz, cs.drop d0.sz, (List.take_append_drop _ _).symm, ka, kb⟩, qa, qb⟩
theorem op_struct3 {t : TypeId} {f0 f1 f2 : Field} {d0 : Kd α} {d1 : Kd β} {d2 : Kd γ} {Q0 : α → Prop} {Q1 : β → Prop} {Q2 : γ → Prop} (ht : P.underlying t = some (.struct #[f0, f1, f2])) (o0 : f0.offset = 0) (o1 : f1.offset = d0.sz) (o2 : f2.offset = d0.sz + d1.sz)
    (s0 : P.cellsOf f0.type = d0.sz) (s1 : P.cellsOf f1.type = d1.sz) (s2 : P.cellsOf f2.type = d2.sz) (hs : P.cellsOf t = d0.sz + d1.sz + d2.sz) (h0 : Op enc P w base spare held d0 f0.type Q0) (h1 : Op enc P w base spare held d1 f1.type Q1) (h2 : Op enc P w base spare held d2 f2.type Q2) :
    Op enc P w base spare held (Kd.pair d0 (Kd.pair d1 d2)) t (fun x => Q0 x.1 ∧ Q1 x.2.1 ∧ Q2 x.2.2) := by
  intro fuel cs D ps h hw
  obtain ⟨y0, y1, y2, n, hx, hl, ha, hb, hc⟩ := trod_struct3 ht h
  obtain ⟨rfl, _⟩ := Prod.mk.inj hx
  simp only [DataW.weights, ht, List.map_cons, List.map_nil, DataW.weightsEach, List.all_append, Bool.and_eq_true] at hw
  rw [o0, s0, List.drop_zero] at ha
  rw [o1, s1] at hb
  rw [o2, s2, List.take_of_length_le (by rw [List.length_drop]; omega)] at hc
  obtain ⟨a, ka, qa⟩ := h0 n _ _ _ ha hw.1
  obtain ⟨b, kb, qb⟩ := h1 n _ _ _ hb hw.2.1
  obtain ⟨c, kc, qc⟩ := h2 n _ _ _ hc hw.2.2.1
  exact ⟨(a, b, c), ⟨cs.take d0.sz, cs.drop d0.sz, (List.take_append_drop _ _).symm, ka, (cs.drop d0.sz).take d1.sz, (cs.drop d0.sz).drop d1.sz, (List.take_append_drop _ _).symm, kb, by rw [List.drop_drop]; exact kc⟩, qa, qb, qc⟩
theorem op_struct4 {t : TypeId} {f0 f1 f2 f3 : Field} {d0 : Kd α} {d1 : Kd β} {d2 : Kd γ} {d3 : Kd δ} {Q0 : α → Prop} {Q1 : β → Prop} {Q2 : γ → Prop} {Q3 : δ → Prop} (ht : P.underlying t = some (.struct #[f0, f1, f2, f3])) (o0 : f0.offset = 0) (o1 : f1.offset = d0.sz) (o2 : f2.offset = d0.sz + d1.sz) (o3 : f3.offset = d0.sz + d1.sz + d2.sz)
    (s0 : P.cellsOf f0.type = d0.sz) (s1 : P.cellsOf f1.type = d1.sz) (s2 : P.cellsOf f2.type = d2.sz) (s3 : P.cellsOf f3.type = d3.sz) (hs : P.cellsOf t = d0.sz + d1.sz + d2.sz + d3.sz) (h0 : Op enc P w base spare held d0 f0.type Q0) (h1 : Op enc P w base spare held d1 f1.type Q1) (h2 : Op enc P w base spare held d2 f2.type Q2) (h3 : Op enc P w base spare held d3 f3.type Q3) :
    Op enc P w base spare held (Kd.pair d0 (Kd.pair d1 (Kd.pair d2 d3))) t (fun x => Q0 x.1 ∧ Q1 x.2.1 ∧ Q2 x.2.2.1 ∧ Q3 x.2.2.2) := by
  intro fuel cs D ps h hw
  obtain ⟨y0, y1, y2, y3, n, hx, hl, ha, hb, hc, hd⟩ := Joins.trod_struct4 ht h
  obtain ⟨rfl, _⟩ := Prod.mk.inj hx
  simp only [DataW.weights, ht, List.map_cons, List.map_nil, DataW.weightsEach, List.all_append, Bool.and_eq_true] at hw
  rw [o0, s0, List.drop_zero] at ha
  rw [o1, s1] at hb
  rw [o2, s2] at hc
  rw [o3, s3, List.take_of_length_le (by rw [List.length_drop]; omega)] at hd
  obtain ⟨a, ka, qa⟩ := h0 n _ _ _ ha hw.1
  obtain ⟨b, kb, qb⟩ := h1 n _ _ _ hb hw.2.1
  obtain ⟨c, kc, qc⟩ := h2 n _ _ _ hc hw.2.2.1
  obtain ⟨d, kd, qd⟩ := h3 n _ _ _ hd hw.2.2.2.1
  exact ⟨(a, b, c, d), ⟨cs.take d0.sz, cs.drop d0.sz, (List.take_append_drop _ _).symm, ka, (cs.drop d0.sz).take d1.sz, (cs.drop d0.sz).drop d1.sz, (List.take_append_drop _ _).symm, kb, ((cs.drop d0.sz).drop d1.sz).take d2.sz, ((cs.drop d0.sz).drop d1.sz).drop d2.sz, (List.take_append_drop _ _).symm, by rw [List.drop_drop]; exact kc, by rw [List.drop_drop, List.drop_drop, ← Nat.add_assoc]; exact kd⟩, qa, qb, qc, qd⟩
theorem any_arg {d : Kd α} {t : TypeId} {Q : α → Prop} (h : Op enc P w base spare held d t Q) {v : Value} {D : DataW H} {ps : List MemPlace} (ht : DataW.Trod enc P w base spare held t v D ps) (hs : (D.weights P t).all (· ≤ reachBytes) = true) :
    ∃ a cs, v.cells.toList = cs ∧ d.K w a cs ∧ Q a := by
  obtain ⟨fuel, hf⟩ := ht
  obtain ⟨a, h1, h2⟩ := h fuel _ D ps hf hs
  exact ⟨a, _, rfl, h1, h2⟩
end
end Go.Proofs.YtdcifmonhaklcaaDoor.Opens
