/- Walks: each Go function told here comes to what the plain function beside it says, wherever that one answers. -/
import Derived.Test.YtdcifmonhaklcaaDoorTaAx0
import Derived.Test.YtdcifmonhaklcaaDoorTaAx2
import Derived.Test.YtdcifmonhaklcaaDoorTaAx3
import Derived.Test.YtdcifmonhaklcaaDoorTaAx4
namespace Go.Proofs.YtdcifmonhaklcaaDoor.A
open Go.RowKit YtdcifmonhaklcaaDoorW.PrintWords YtdcifmonhaklcaaDoorW.PrintLast YtdcifmonhaklcaaDoorW.PrintMore
attribute [local go_sem] max2_int min2_int max_two min_two
set_option linter.unusedVariables false
set_option linter.unusedSimpArgs false
def stepT (l : List Int) (bad : Bool) : Int × List Int × Bool := if (takeN l).2.2 ≠ 0 ∨ 1099511627776 < (takeN l).1 then (0, [], true) else ((takeN l).1, l.drop (takeN l).2.1.toNat, bad)
theorem take_ok {l : List Int} (hb : ByteL l) (he : (takeN l).2.2 = 0) : 1 ≤ (takeN l).2.1 ∧ (takeN l).2.1 ≤ l.length ∧ 0 ≤ (takeN l).1 := by
 cases l with
 | nil => exact absurd he (by decide)
 | cons b r =>
  have h1 := hb b List.mem_cons_self
  rw [takeN_cons] at he ⊢
  rw [List.length_cons]
  by_cases c1 : b ≤ 247
  ·rw [if_pos c1]
   exact ⟨by show (1 : Int) ≤ 1; decide, by show (1 : Int) ≤ _; omega, h1.1⟩
  ·rw [if_neg c1] at he ⊢
   by_cases c2 : (r.length : Int) < b - 247
   ·rw [if_pos c2] at he
    exact absurd he (by decide)
   ·rw [if_neg c2] at he ⊢
    by_cases c3 : leV (r.take (b - 247).toNat) ≤ 247 ∨ (szN (leV (r.take (b - 247).toNat)) : Int) < b - 247
    ·rw [if_pos c3] at he
     exact absurd he (by decide)
    ·rw [if_neg c3]
     refine ⟨by show 1 ≤ b - 246; omega, by show b - 246 ≤ _; omega, ?_⟩
     exact (leV_range _ (fun x hx => hb x (List.mem_cons_of_mem _ (List.mem_of_mem_take hx)))).1
theorem step_bytes {l : List Int} (hb : ByteL l) (bad : Bool) : ByteL (stepT l bad).2.1 ∧ (stepT l bad).2.1.length ≤ l.length := by
 unfold stepT
 by_cases h : (takeN l).2.2 ≠ 0 ∨ 1099511627776 < (takeN l).1
 ·rw [if_pos h]
  exact ⟨fun x hx => absurd hx List.not_mem_nil, Nat.zero_le _⟩
 ·rw [if_neg h]
  exact ⟨fun x hx => hb x (List.mem_of_mem_drop hx), by show (l.drop _).length ≤ _; rw [List.length_drop]; omega⟩
set_option maxHeartbeats 8000000 in
set_option maxRecDepth 100000 in
theorem numbers_take.calls (wp w : World) (g : Nat) (A : Option Addr) (c : Nat) (l : List Int) (bad : Bool) (hB : Below wp.heap.size wp w) (hg : wp.heap.size ≤ g) (hcell : w.heap[g]? = some (.cells #[.slice A l.length c, .bool bad] 69 (0, 0))) (hC : Kd.C (Kd.int .u8) wp A l.length l) (hc : l.length ≤ c) (hb : ByteL l) (hl : l.length < 140737488355328) :
  Calls Tryd.prog 34 #[.pointer (some ⟨g, 0, none⟩)] w fun e w' => ∃ (A' : Option Addr) (c' : Nat), e = .returned (.int .i64 (stepT l bad).1) ∧ w'.heap[g]? = some (.cells #[.slice A' (stepT l bad).2.1.length c', .bool (stepT l bad).2.2] 69 (0, 0)) ∧ (stepT l bad).2.1.length ≤ c' ∧ Kd.C (Kd.int .u8) wp A' (stepT l bad).2.1.length (stepT l bad).2.1 ∧ Below wp.heap.size wp w' ∧ Kept w w' (fun k => k = g) := by
 have HB := Aside0.mk hB
 have CB := Aside0.mk hcell
 have HC := Aside0.mk hC
 have HCC := Aside0.mk hc
 have HBL := Aside0.mk hb
 have HG := Aside0.mk hg
 have HT := Aside0.mk (show num_Take.f l = some ((takeN l).1, (takeN l).2.1, (takeN l).2.2) by unfold num_Take.f; rw [if_pos ⟨hb, hl⟩])
 have HOK := Aside0.mk (fun he => take_ok hb (l := l) he)
 have HK := Aside0.mk (Kept.refl w (fun k => k = g))
 clear hB hg hcell hC hc hb hl
 have hu69 := Tryd.underlying69
 have hu22 := Tryd.underlying22
 have hst : stepT l bad = if (takeN l).2.2 ≠ 0 ∨ 1099511627776 < (takeN l).1 then (0, [], true) else ((takeN l).1, l.drop (takeN l).2.1.toNat, bad) := rfl
 obtain ⟨v, hv⟩ : ∃ v, v = (takeN l).1 := ⟨_, rfl⟩
 obtain ⟨n, hn⟩ : ∃ n, n = (takeN l).2.1 := ⟨_, rfl⟩
 obtain ⟨e, he⟩ : ∃ e, e = (takeN l).2.2 := ⟨_, rfl⟩
 rw [← hv, ← hn, ← he] at HT HOK hst
 clear hv hn he
 have HV : True := trivial
 have v0 : w.cell? ⟨g, 0, none⟩ = some (.slice A l.length c) := (blk_cell CB.out 0).trans rfl
 have v1 : w.cell? ⟨g, 1, none⟩ = some (.bool bad) := (blk_cell CB.out 1).trans rfl
 have f0 := blk_frozen CB.out 0
 have f1 := blk_frozen CB.out 1
 by_cases ce : e = 0
 ·by_cases cv : 1099511627776 < v
  ·have ceb : (e == 0) = true := beq_iff_eq.mpr ce
   have cen : (e != 0) = false := bne_eq_false_iff_eq.mpr ce
   have ced : decide (e = 0) = true := decide_eq_true ce
   have cvb : decide (1099511627776 < v) = true := decide_eq_true cv
   rw [if_pos (.inr cv)] at hst
   rw [hst]
   clear ce cv hst
   go_enter Tryd.func34, Tryd.ntmps34
   go_wp2_with (first
    | (go_at_call 58; (with_reducible refine (num_Take.calls A c l v n e _ (Kd.C_below HC.out HB.out) HCC.out HT.out).mono ?_); rintro e_ w1 ⟨rfl, hd⟩; have hb := Drawn0.below hd; clear hd; have HB_ := Aside0.mk (below_step HB.out hb); have CB_ := Aside0.mk (blk_below CB.out hb); have HK_ := Aside0.mk (Kept.below HK.out hb); clear HB CB HK hb v0 v1 f0 f1; have HB := HB_; have CB := CB_; have HK := HK_; clear HB_ CB_ HK_; have v0 : w1.cell? ⟨g, 0, none⟩ = some (.slice A l.length c) := (blk_cell CB.out 0).trans rfl; have v1 : w1.cell? ⟨g, 1, none⟩ = some (.bool bad) := (blk_cell CB.out 1).trans rfl; have f0 := blk_frozen CB.out 0; have f1 := blk_frozen CB.out 1))
   go_ret
   refine ⟨none, 0, rfl, blk_put (cs' := #[.slice none 0 0, .bool true]) (blk_put (cs' := #[.slice A l.length c, .bool true]) CB.out 1 (.bool true) rfl) 0 (.slice none 0 0) rfl, Nat.le_refl _, Kd.C_nil _ _, below_set (below_set HB.out HG.out) HG.out, Kept.setCell (Kept.setCell HK.out (.inl rfl) _) (.inl rfl) _⟩
  ·have ceb : (e == 0) = true := beq_iff_eq.mpr ce
   have cen : (e != 0) = false := bne_eq_false_iff_eq.mpr ce
   have ced : decide (e = 0) = true := decide_eq_true ce
   have cvb : decide (1099511627776 < v) = false := decide_eq_false cv
   rw [if_neg (fun h => h.elim (fun h => h ce) cv)] at hst
   rw [hst]
   clear hst
   go_enter Tryd.func34, Tryd.ntmps34
   obtain ⟨h1, h2, h3⟩ := HOK.out ce
   have hwv : wrap64 v = v := by unfold wrap64; omega
   obtain ⟨i0, hi, hz⟩ := Option.map_eq_some_iff.1 info5
   simp only [Prod.mk.injEq] at hz
   obtain ⟨A', hcut, hrd, hlen⟩ := print_drop_of (P := Tryd.prog) (Value.int .u8) 0 22 5 .i64 Tryd.underlying22 hi hz.2.1 A c l n (by omega) h2 HCC.out
   have HRD := Aside0.mk (Kd.C_of_reads (h1 := fun _ => rfl) (hrd wp (Kd.reads_of_C (h1 := fun _ => rfl) HC.out)))
   have HLE := Aside0.mk hlen
   clear h1 h2 h3 hi hz hrd hlen
   go_wp2_with (first
    | (go_at_call 58; (with_reducible refine (num_Take.calls A c l v n e _ (Kd.C_below HC.out HB.out) HCC.out HT.out).mono ?_); rintro e_ w1 ⟨rfl, hd⟩; have hb := Drawn0.below hd; clear hd; have HB_ := Aside0.mk (below_step HB.out hb); have CB_ := Aside0.mk (blk_below CB.out hb); have HK_ := Aside0.mk (Kept.below HK.out hb); clear HB CB HK hb v0 v1 f0 f1; have HB := HB_; have CB := CB_; have HK := HK_; clear HB_ CB_ HK_; have v0 : w1.cell? ⟨g, 0, none⟩ = some (.slice A l.length c) := (blk_cell CB.out 0).trans rfl; have v1 : w1.cell? ⟨g, 1, none⟩ = some (.bool bad) := (blk_cell CB.out 1).trans rfl; have f0 := blk_frozen CB.out 0; have f1 := blk_frozen CB.out 1))
   go_ret
   exact ⟨A', c - n.toNat, by rw [hwv]; rfl, blk_put (cs' := #[.slice A' (l.drop n.toNat).length (c - n.toNat), .bool bad]) CB.out 0 _ (by rw [List.length_drop]; rfl), HLE.out, HRD.out, below_set HB.out HG.out, Kept.setCell HK.out (.inl rfl) _⟩
 ·have ceb : (e == 0) = false := beq_eq_false_iff_ne.mpr ce
  have cen : (e != 0) = true := bne_iff_ne.mpr ce
  have ced : decide (e = 0) = false := decide_eq_false ce
  rw [if_pos (.inl ce)] at hst
  rw [hst]
  clear ce hst
  go_enter Tryd.func34, Tryd.ntmps34
  go_wp2_with (first
   | (go_at_call 58; (with_reducible refine (num_Take.calls A c l v n e _ (Kd.C_below HC.out HB.out) HCC.out HT.out).mono ?_); rintro e_ w1 ⟨rfl, hd⟩; have hb := Drawn0.below hd; clear hd; have HB_ := Aside0.mk (below_step HB.out hb); have CB_ := Aside0.mk (blk_below CB.out hb); have HK_ := Aside0.mk (Kept.below HK.out hb); clear HB CB HK hb v0 v1 f0 f1; have HB := HB_; have CB := CB_; have HK := HK_; clear HB_ CB_ HK_; have v0 : w1.cell? ⟨g, 0, none⟩ = some (.slice A l.length c) := (blk_cell CB.out 0).trans rfl; have v1 : w1.cell? ⟨g, 1, none⟩ = some (.bool bad) := (blk_cell CB.out 1).trans rfl; have f0 := blk_frozen CB.out 0; have f1 := blk_frozen CB.out 1))
  go_ret
  refine ⟨none, 0, rfl, blk_put (cs' := #[.slice none 0 0, .bool true]) (blk_put (cs' := #[.slice A l.length c, .bool true]) CB.out 1 (.bool true) rfl) 0 (.slice none 0 0) rfl, Nat.le_refl _, Kd.C_nil _ _, below_set (below_set HB.out HG.out) HG.out, Kept.setCell (Kept.setCell HK.out (.inl rfl) _) (.inl rfl) _⟩
def take4 (l : List Int) (b : Bool) : Nat → List Int × Bool
 | 0 => (l, b)
 | j + 1 => (stepT (take4 l b j).1 (take4 l b j).2).2
def fld4 (l : List Int) (b : Bool) (j : Nat) : Int := (stepT (take4 l b j).1 (take4 l b j).2).1
def ref4 (l : List Int) (b : Bool) : S63 := ⟨fld4 l b 0, fld4 l b 1, fld4 l b 2, fld4 l b 3⟩
def loopT : Nat → List Int → Bool → List S63 × List Int × Bool
 | 0, l, b => ([], l, b)
 | n + 1, l, b => if b = true then ([], l, b) else (ref4 l b :: (loopT n (take4 l b 4).1 (take4 l b 4).2).1, (loopT n (take4 l b 4).1 (take4 l b 4).2).2)
def takeM (p : List Int) : List S63 × Int × Int × Int :=
 let h := stepT p false
 let L := loopT h.1.toNat h.2.1 h.2.2
 let nx := stepT L.2.1 L.2.2
 let sq := stepT nx.2.1 nx.2.2
 if sq.2.2 = true ∨ 0 < sq.2.1.length ∨ ¬ FormedC L.1 nx.1 sq.1 then ([], 0, 0, 13) else (L.1, nx.1, sq.1, 0)
theorem step_ge (l : List Int) (b : Bool) (hb : ByteL l) : 0 ≤ (stepT l b).1 ∧ (stepT l b).1 ≤ 1099511627776 := by
 unfold stepT
 by_cases h : (takeN l).2.2 ≠ 0 ∨ 1099511627776 < (takeN l).1
 ·rw [if_pos h]
  exact ⟨by decide, by decide⟩
 ·rw [if_neg h]
  have h0 : (takeN l).2.2 = 0 := Decidable.byContradiction fun h2 => h (.inl h2)
  exact ⟨(take_ok hb h0).2.2, by have := fun h2 => h (.inr h2); omega⟩
theorem step_less (l : List Int) (b : Bool) (hb : ByteL l) (h : (stepT l b).2.2 = false) : b = false ∧ (stepT l b).2.1.length + 1 ≤ l.length := by
 unfold stepT at h ⊢
 by_cases c : (takeN l).2.2 ≠ 0 ∨ 1099511627776 < (takeN l).1
 ·rw [if_pos c] at h
  cases h
 ·rw [if_neg c] at h ⊢
  have h0 : (takeN l).2.2 = 0 := Decidable.byContradiction fun h2 => c (.inl h2)
  have h1 := take_ok hb h0
  refine ⟨h, ?_⟩
  show (l.drop _).length + 1 ≤ _
  rw [List.length_drop]
  omega
theorem take4_bytes {l : List Int} (hb : ByteL l) (b : Bool) : ∀ j, ByteL (take4 l b j).1 ∧ (take4 l b j).1.length ≤ l.length
 | 0 => ⟨hb, Nat.le_refl _⟩
 | j + 1 => by
  have h1 := take4_bytes hb b j
  have h2 := step_bytes h1.1 (take4 l b j).2
  exact ⟨h2.1, Nat.le_trans h2.2 h1.2⟩
theorem take4_less {l : List Int} (hb : ByteL l) (b : Bool) : ∀ j, (take4 l b j).2 = false → (take4 l b j).1.length + j ≤ l.length
 | 0, _ => Nat.le_refl _
 | j + 1, h => by
  have h1 := step_less (take4 l b j).1 (take4 l b j).2 (take4_bytes hb b j).1 h
  have h2 := take4_less hb b j h1.1
  show (stepT (take4 l b j).1 (take4 l b j).2).2.1.length + (j + 1) ≤ _
  omega
structure TX (wp W : World) (g6 g7 : Nat) (A : Option Addr) (c : Nat) (l : List Int) (bad : Bool) (v : Value) (nx sq : Int) (acc : List S63) (ok : Nat → Prop) : Prop where
 B : Below wp.heap.size wp W
 c6 : W.heap[g6]? = some (.cells #[.slice A l.length c, .bool bad] 69 (0, 0))
 hC : Kd.C (Kd.int .u8) wp A l.length l
 hc : l.length ≤ c
 hb : ByteL l
 hl : l.length < 140737488355328
 c7 : W.heap[g7]? = some (.cells #[v, .int .i64 nx, .int .i64 sq] 27 (0, 0))
 hR : Kd.R k63 63 W wp.heap.size (fun k => (k ≠ g6 ∧ k ≠ g7) ∧ ok k) v acc
 o6 : wp.heap.size ≤ g6
 o7 : g6 < g7
theorem blk_kept {W W' : World} {g : Nat} {o : Obj} {S : Nat → Prop} (h : W.heap[g]? = some o) (hk : Kept W W' S) (hn : ¬ S g) : W'.heap[g]? = some o := by
 have hlt : g < W.heap.size := by
  rcases Nat.lt_or_ge g W.heap.size with h3 | h3
  ·exact h3
  ·rw [Array.getElem?_eq_none h3] at h
   cases h
 exact (hk.2 g hlt hn).trans h
section
variable {wp W W' : World} {g6 g7 g9 : Nat} {A A' : Option Addr} {c c' : Nat} {l : List Int} {bad : Bool} {v : Value} {nx sq : Int} {acc : List S63} {ok : Nat → Prop}
theorem TX.vis (h : TX wp W g6 g7 A c l bad v nx sq acc ok) : W.cell? ⟨g6, 0, none⟩ = some (.slice A l.length c) ∧ W.cell? ⟨g6, 1, none⟩ = some (.bool bad) ∧ W.cell? ⟨g7, 0, none⟩ = some v ∧ W.cell? ⟨g7, 1, none⟩ = some (.int .i64 nx) ∧ W.cell? ⟨g7, 2, none⟩ = some (.int .i64 sq) ∧ W.frozen? ⟨g7, 0, none⟩ = false ∧ W.frozen? ⟨g7, 1, none⟩ = false ∧ W.frozen? ⟨g7, 2, none⟩ = false :=
 ⟨(blk_cell h.c6 0).trans rfl, (blk_cell h.c6 1).trans rfl, (blk_cell h.c7 0).trans rfl, (blk_cell h.c7 1).trans rfl, (blk_cell h.c7 2).trans rfl, blk_frozen h.c7 0, blk_frozen h.c7 1, blk_frozen h.c7 2⟩
theorem TX.take (h : TX wp W g6 g7 A c l bad v nx sq acc ok) (h6 : W'.heap[g6]? = some (.cells #[.slice A' (stepT l bad).2.1.length c', .bool (stepT l bad).2.2] 69 (0, 0))) (hc : (stepT l bad).2.1.length ≤ c') (hC : Kd.C (Kd.int .u8) wp A' (stepT l bad).2.1.length (stepT l bad).2.1) (hB : Below wp.heap.size wp W') (hk : Kept W W' (fun k => k = g6)) :
  TX wp W' g6 g7 A' c' (stepT l bad).2.1 (stepT l bad).2.2 v nx sq acc ok := by
 have o7 := h.o7
 exact ⟨hB, h6, hC, hc, (step_bytes h.hb bad).1, by have := (step_bytes h.hb bad).2; have := h.hl; omega, blk_kept h.c7 hk (fun e => by omega), Kd.R_kept h.hR hk (fun k hk2 e => hk2.1.1 e), h.o6, o7⟩
theorem TX.alloc (h : TX wp W g6 g7 A c l bad v nx sq acc ok) (o : Obj) : TX wp (W.alloc o) g6 g7 A c l bad v nx sq acc (fun k => k ≠ W.heap.size) :=
 ⟨below_alloc h.B o, blk_alloc h.c6 o, h.hC, h.hc, h.hb, h.hl, blk_alloc h.c7 o, Kd.R_alloc (Kd.R_mono (Kd.R_bound h.hR) (fun k hk => ⟨hk.1.1, by have := hk.2.2.1; omega⟩)) o, h.o6, h.o7⟩
theorem TX.new (h : TX wp W g6 g7 A c l bad v nx sq acc ok) (hb : Below W.heap.size W W') (hg : g9 = W.heap.size) : TX wp W' g6 g7 A c l bad v nx sq acc (fun k => k ≠ g9) :=
 ⟨below_step h.B hb, blk_below h.c6 hb, h.hC, h.hc, h.hb, h.hl, blk_below h.c7 hb, Kd.R_below (Kd.R_mono (Kd.R_bound h.hR) (fun k hk => ⟨hk.1.1, by have := hk.2.2.1; omega⟩)) hb, h.o6, h.o7⟩
theorem TX.lt7 (h : TX wp W g6 g7 A c l bad v nx sq acc ok) : g7 < W.heap.size := blk_lt h.c7
theorem TX.far (h : TX wp W g6 g7 A c l bad v nx sq acc (fun k => k ≠ g9)) (hg : g7 < g9) (j : Nat) (u : Value) : TX wp (W.setCell ⟨g9, j, none⟩ u) g6 g7 A c l bad v nx sq acc (fun k => k ≠ g9) := by
 have o6 := h.o6
 have o7 := h.o7
 exact ⟨below_set h.B (by omega), blk_far h.c6 (show g6 ≠ g9 by omega) u, h.hC, h.hc, h.hb, h.hl, blk_far h.c7 (show g7 ≠ g9 by omega) u, Kd.R_far h.hR (fun k hk => hk.2) u, o6, o7⟩
theorem TX.any (h : TX wp W g6 g7 A c l bad v nx sq acc ok) : TX wp W g6 g7 A c l bad v nx sq acc (fun _ => True) := ⟨h.B, h.c6, h.hC, h.hc, h.hb, h.hl, h.c7, Kd.R_mono h.hR (fun k hk => ⟨hk.1, trivial⟩), h.o6, h.o7⟩
theorem TX.put (h : TX wp W g6 g7 A c l bad v nx sq acc ok) (j : Nat) (u : Value) (nx' sq' : Int) (hs : (#[v, .int .i64 nx, .int .i64 sq] : Array Value).setIfInBounds j u = #[v, .int .i64 nx', .int .i64 sq']) : TX wp (W.setCell ⟨g7, j, none⟩ u) g6 g7 A c l bad v nx' sq' acc ok := by
 have o6 := h.o6
 have o7 := h.o7
 exact ⟨below_set h.B (by omega), blk_far h.c6 (show g6 ≠ g7 by omega) u, h.hC, h.hc, h.hb, h.hl, blk_put h.c7 j u hs, Kd.R_far h.hR (fun k hk => hk.1.2) u, o6, o7⟩
theorem TX.grown (h : TX wp W g6 g7 A c l bad v nx sq acc ok) (hB : Below wp.heap.size wp W') (hg : W.grownBy W' none) : TX wp W' g6 g7 A c l bad v nx sq acc ok :=
 ⟨hB, blk_grown h.c6 hg (fun e => by cases e), h.hC, h.hc, h.hb, h.hl, blk_grown h.c7 hg (fun e => by cases e), Kd.R_grown h.hR hg (fun k _ e => by cases e), h.o6, h.o7⟩
theorem TX.row (h : TX wp W g6 g7 A c l bad v nx sq acc ok) {v1 : Value} {acc1 : List S63} (hB : Below wp.heap.size wp W') (hg : W.grownBy W' v.ownBlock) (hR : Kd.R k63 63 W' wp.heap.size (fun k => (k ≠ g6 ∧ k ≠ g7) ∧ True) v1 acc1) : TX wp (W'.setCell ⟨g7, 0, none⟩ v1) g6 g7 A c l bad v1 nx sq acc1 (fun _ => True) := by
 have o6 := h.o6
 have o7 := h.o7
 have h6 := blk_grown h.c6 hg (fun e => (h.hR.1 g6 e.symm).1.1 rfl)
 have h7 := blk_grown h.c7 hg (fun e => (h.hR.1 g7 e.symm).1.2 rfl)
 exact ⟨below_set hB (by omega), blk_far h6 (show g6 ≠ g7 by omega) v1, h.hC, h.hc, h.hb, h.hl, blk_put h7 0 v1 rfl, Kd.R_far hR (fun k hk => hk.1.2) v1, o6, o7⟩
end
def celT (l : List Int) (b : Bool) (j i : Nat) : Int := if i < j then fld4 l b i else 0
theorem loop_bad (m : Nat) (l : List Int) : loopT m l true = ([], l, true) := by
 cases m with
 | zero => rfl
 | succ n => unfold loopT; rw [if_pos rfl]
theorem iy0 (g : Nat) (W : World) : (Instr.index 72 (.agg #[.pointer (some ⟨g, 0, none⟩), .pointer (some ⟨g, 1, none⟩), .pointer (some ⟨g, 2, none⟩), .pointer (some ⟨g, 3, none⟩)]) (.int .i64 0)).run Tryd.prog W = .ok (.pointer (some ⟨g, 0, none⟩)) W := by kernel_rfl
theorem iy1 (g : Nat) (W : World) : (Instr.index 72 (.agg #[.pointer (some ⟨g, 0, none⟩), .pointer (some ⟨g, 1, none⟩), .pointer (some ⟨g, 2, none⟩), .pointer (some ⟨g, 3, none⟩)]) (.int .i64 1)).run Tryd.prog W = .ok (.pointer (some ⟨g, 1, none⟩)) W := by kernel_rfl
theorem iy2 (g : Nat) (W : World) : (Instr.index 72 (.agg #[.pointer (some ⟨g, 0, none⟩), .pointer (some ⟨g, 1, none⟩), .pointer (some ⟨g, 2, none⟩), .pointer (some ⟨g, 3, none⟩)]) (.int .i64 2)).run Tryd.prog W = .ok (.pointer (some ⟨g, 2, none⟩)) W := by kernel_rfl
theorem iy3 (g : Nat) (W : World) : (Instr.index 72 (.agg #[.pointer (some ⟨g, 0, none⟩), .pointer (some ⟨g, 1, none⟩), .pointer (some ⟨g, 2, none⟩), .pointer (some ⟨g, 3, none⟩)]) (.int .i64 3)).run Tryd.prog W = .ok (.pointer (some ⟨g, 3, none⟩)) W := by kernel_rfl
def manifest_Take.f (l0 : List Int) : Option (List S63 × Int × Int × Int) := (crc_Unwrap.f l0).bind fun q => if q.2 = 0 then (if ByteL q.1 ∧ q.1.length ≤ 16777216 then some (takeM q.1) else none) else some ([], 0, 0, 13)
set_option maxHeartbeats 8000000 in
set_option maxRecDepth 100000 in
theorem manifest_Take.calls (A0 : Option Addr) (c0 : Nat) (l0 : List Int) (r1 : List S63) (r2 : Int) (r3 : Int) (r4 : Int) (w : World) (hr0 : Kd.C (Kd.int .u8) w A0 l0.length l0) (hc0 : l0.length ≤ c0) (hG : GT w) (h : manifest_Take.f l0 = some (r1, r2, r3, r4)) :
  Calls Tryd.prog 11 #[.slice A0 l0.length c0] w fun e w' => ∃ v1_ : Value, e = .returned (.tuple #[.agg #[v1_, .int .i64 r2, .int .i64 r3], .int .i64 r4]) ∧ Kd.R k63 63 w' w.heap.size (fun _ => True) v1_ r1 ∧ Below w.heap.size w w' := by
 unfold manifest_Take.f at h
 obtain ⟨⟨p, e⟩, hu, h⟩ := Option.bind_eq_some_iff.1 h
 have HR := Aside0.mk hr0
 have HC := Aside0.mk hc0
 have HG := Aside0.mk hG
 have HU := Aside0.mk hu
 have HB := Aside0.mk (Below.refl w.heap.size w)
 clear hr0 hc0 hG hu
 have hu27 := Tryd.underlying27
 have hu63 := Tryd.underlying63
 have hu69 := Tryd.underlying69
 have hu72 := Tryd.underlying72
 have hu25 := Tryd.underlying25
 by_cases he : e = 0
 ·have he2 : ((p, e) : List Int × Int).2 = 0 := he
  rw [if_pos he2] at h
  subst he
  by_cases hp : ByteL p ∧ p.length ≤ 16777216
  case neg => rw [if_neg hp] at h; cases h
  rw [if_pos hp] at h
  have HPB := Aside0.mk hp
  have HH := Aside0.mk (Option.some.inj h)
  obtain ⟨m0, hm0⟩ : ∃ m0 : Nat, (stepT p false).1 = (m0 : Int) := ⟨(stepT p false).1.toNat, by have := step_ge p false hp.1; omega⟩
  have HM0 := Aside0.mk hm0
  have HM4 := Aside0.mk (show m0 ≤ 1099511627776 by have := step_ge p false hp.1; omega)
  have HP1 := Aside0.mk (step_bytes hp.1 false)
  clear h he2 hp
  go_enter Tryd.func11, Tryd.ntmps11
  go_upto_region 6 with (first
   | ((with_reducible refine gate_dst (N := 2) rfl ?_); refine box_event ?hg (N := 2) ?hd (cs := #[.slice none 0 0, .int .i64 0, .int .i64 0]) (t := 27) ?hr ?_; (case hd => rfl); (case hg => rfl); (case hr => first | (go_simp; done) | (go_simp; rfl)); intro g2 hg2 w1 hbox hb; have CB2 := Aside0.mk hbox; have G2 := Aside0.mk (show w.heap.size ≤ g2 by rw [hg2]; exact below_size HB.out); have HB_ := Aside0.mk (below_step HB.out hb); clear HB hb hbox hg2; have HB := HB_; clear HB_; have v20 : w1.cell? ⟨g2, 0, none⟩ = some (.slice none 0 0) := (blk_cell CB2.out 0).trans rfl; have v21 : w1.cell? ⟨g2, 1, none⟩ = some (.int .i64 0) := (blk_cell CB2.out 1).trans rfl; have v22 : w1.cell? ⟨g2, 2, none⟩ = some (.int .i64 0) := (blk_cell CB2.out 2).trans rfl; have f20 := blk_frozen CB2.out 0; have f21 := blk_frozen CB2.out 1; have f22 := blk_frozen CB2.out 2)
   | (go_at_call 33; (with_reducible refine (crc_Unwrap.calls A0 c0 l0 p 0 _ (Kd.C_below HR.out HB.out) HC.out (GT.below HG.out HB.out) HU.out).mono ?_); rintro e_ w2 ⟨v2, rfl, hR, hb⟩; obtain ⟨Ap, cp, rfl⟩ := Kd.R_slice hR; have HP := Aside0.mk (Kd.R_reads' hR); have HB_ := Aside0.mk (below_step HB.out hb); have CB2_ := Aside0.mk (blk_below CB2.out hb); clear HB CB2 hR hb v20 v21 v22 f20 f21 f22; have HB := HB_; have CB2 := CB2_; clear HB_ CB2_; have v20 : w2.cell? ⟨g2, 0, none⟩ = some (.slice none 0 0) := (blk_cell CB2.out 0).trans rfl; have v21 : w2.cell? ⟨g2, 1, none⟩ = some (.int .i64 0) := (blk_cell CB2.out 1).trans rfl; have v22 : w2.cell? ⟨g2, 2, none⟩ = some (.int .i64 0) := (blk_cell CB2.out 2).trans rfl; have f20 := blk_frozen CB2.out 0; have f21 := blk_frozen CB2.out 1; have f22 := blk_frozen CB2.out 2)
   | ((with_reducible refine gate_dst (N := 22) rfl ?_); refine box_event ?hg (N := 22) ?hd (cs := #[.slice Ap p.length cp, .bool false]) (t := 69) ?hr ?_; (case hd => rfl); (case hg => rfl); (case hr => first | (go_simp; done) | (go_simp; rfl)); intro g6 hg6 w3 hbox hb; have CB6 := Aside0.mk hbox; have G6 := Aside0.mk (show w2.heap.size ≤ g6 by rw [hg6]; exact Nat.le_refl _); have HB3 := Aside0.mk hb; clear hb hbox hg6)
   | ((with_reducible refine gate_dst (N := 7) rfl ?_); refine box_event ?hg (N := 7) ?hd (cs := #[.slice none 0 0, .int .i64 0, .int .i64 0]) (t := 27) ?hr ?_; (case hd => rfl); (case hg => rfl); (case hr => first | (go_simp; done) | (go_simp; rfl)); intro g7 hg7 w4 hbox hb; have HX := Aside0.mk (TX.mk (wp := w2) (l := p) (bad := false) (v := .slice none 0 0) (nx := 0) (sq := 0) (acc := []) (ok := fun _ => True) (below_step HB3.out hb) (blk_below CB6.out hb) HP.out.2.2 HP.out.2.1 HPB.out.1 (by have := HPB.out.2; omega) hbox (Kd.R_nil _ _ _ _ _) G6.out (by rw [hg7]; exact blk_lt CB6.out)); clear HB3 CB6 hb hbox hg7 v20 v21 v22 f20 f21 f22; obtain ⟨v60, v61, v70, v71, v72, f70, f71, f72⟩ := HX.out.vis))
  go_wp2_with (first
   | (go_at_call 34; (with_reducible refine (numbers_take.calls w2 _ g6 Ap cp p false HX.out.B HX.out.o6 HX.out.c6 HX.out.hC HX.out.hc HX.out.hb HX.out.hl).mono ?_); rintro e_ w5 ⟨A', c', rfl, h6, hc6, hC6, hB6, hk6⟩; have HX_ := Aside0.mk (HX.out.take h6 hc6 hC6 hB6 hk6); clear HX h6 hc6 hC6 hB6 hk6 v60 v61 v70 v71 v72 f70 f71 f72; have HX := HX_; clear HX_; obtain ⟨v60, v61, v70, v71, v72, f70, f71, f72⟩ := HX.out.vis))
  have HG2L := Aside0.mk (blk_lt CB2.out)
  try rw [hm0]
  clear hm0 G6
  go_loopw [8] (fun v8 w' => ∃ (m : Nat) (A : Option Addr) (c : Nat) (l : List Int) (bad : Bool) (v : Value) (acc : List S63), v8 = .int .i64 m ∧ Aside0 (TX w2 w' g6 g7 A c l bad v 0 0 acc (fun _ => True)) ∧ Aside0 (loopT m0 (stepT p false).2.1 (stepT p false).2.2 = (acc ++ (loopT m l bad).1, (loopT m l bad).2)) ∧ Aside0 ((bad = false → acc.length + l.length ≤ p.length) ∧ acc.length ≤ p.length + 1) ∧ Aside0 (m ≤ 1099511627776)) (fun v8 _ => (intOf v8).toNat)
  case atStart => exact ⟨m0, A', c', _, _, _, [], rfl, HX, ⟨rfl⟩, ⟨fun _ => by rw [List.length_nil]; have := HP1.out.2; omega, Nat.zero_le _⟩, HM4⟩
  case round =>
   clear HX v60 v61 v70 v71 v72 f70 f71 f72
   obtain ⟨m, A, c, l, bad, v, acc, rfl, HX, HLP, HAC, HMM⟩ := hrel
   obtain ⟨v60, v61, v70, v71, v72, f70, f71, f72⟩ := HX.out.vis
   rcases m with _ | n
   ·have HLQ := Aside0.mk (show loopT m0 (stepT p false).2.1 (stepT p false).2.2 = (acc, l, bad) by rw [HLP.out]; show (acc ++ [], l, bad) = _; rw [List.append_nil])
    clear HLP
    have CB2_ := Aside0.mk (blk_below CB2.out HX.out.B)
    clear CB2
    have CB2 := CB2_
    clear CB2_
    go_upto_region 17 with (first
     | (go_at_call 34; (with_reducible refine (numbers_take.calls w2 _ g6 A c l bad HX.out.B HX.out.o6 HX.out.c6 HX.out.hC HX.out.hc HX.out.hb HX.out.hl).mono ?_); rintro e_ w6 ⟨A', c', rfl, h6, hc6, hC6, hB6, hk6⟩; have HX_ := Aside0.mk (HX.out.take h6 hc6 hC6 hB6 hk6); have CB2_ := Aside0.mk (blk_kept CB2.out hk6 (fun e => by have := HX.out.o6; have := HG2L.out; omega)); clear CB2; have CB2 := CB2_; clear CB2_; clear HX h6 hc6 hC6 hB6 hk6 v60 v61 v70 v71 v72 f70 f71 f72; have HX := HX_; clear HX_; obtain ⟨v60, v61, v70, v71, v72, f70, f71, f72⟩ := HX.out.vis))
    obtain ⟨nx, hnx⟩ : ∃ nx, nx = (stepT l bad).1 := ⟨_, rfl⟩
    obtain ⟨l6, hl6⟩ : ∃ l6, l6 = (stepT l bad).2.1 := ⟨_, rfl⟩
    obtain ⟨b6, hb6⟩ : ∃ b6, b6 = (stepT l bad).2.2 := ⟨_, rfl⟩
    rw [← hl6, ← hb6] at HX
    rw [← hnx]
    have KN := Aside0.mk hnx
    have KL6 := Aside0.mk hl6
    have KB6 := Aside0.mk hb6
    clear hnx hl6 hb6
    have CB2_ := Aside0.mk (blk_far (p := ⟨g7, 1, none⟩) CB2.out (show g2 ≠ g7 by have := HX.out.o6; have := HX.out.o7; have := HG2L.out; omega) (.int .i64 nx))
    clear CB2
    have HX_ := Aside0.mk (HX.out.put 1 (.int .i64 nx) nx 0 rfl)
    clear HX v60 v61 v70 v71 v72 f70 f71 f72
    generalize w6.setCell ⟨g7, 1, none⟩ (.int .i64 nx) = W6 at *
    have HX := HX_
    clear HX_
    obtain ⟨v60, v61, v70, v71, v72, f70, f71, f72⟩ := HX.out.vis
    have CB2 := CB2_
    clear CB2_
    go_upto_region 18 with (first
     | (go_at_call 34; (with_reducible refine (numbers_take.calls w2 _ g6 A' c' l6 b6 HX.out.B HX.out.o6 HX.out.c6 HX.out.hC HX.out.hc HX.out.hb HX.out.hl).mono ?_); rintro e_ w7 ⟨A7, c7, rfl, h6, hc6, hC6, hB6, hk6⟩; have HX_ := Aside0.mk (HX.out.take h6 hc6 hC6 hB6 hk6); have CB2_ := Aside0.mk (blk_kept CB2.out hk6 (fun e => by have := HX.out.o6; have := HG2L.out; omega)); clear CB2; have CB2 := CB2_; clear CB2_; clear HX h6 hc6 hC6 hB6 hk6 v60 v61 v70 v71 v72 f70 f71 f72; have HX := HX_; clear HX_; obtain ⟨v60, v61, v70, v71, v72, f70, f71, f72⟩ := HX.out.vis))
    obtain ⟨sq, hsq⟩ : ∃ sq, sq = (stepT l6 b6).1 := ⟨_, rfl⟩
    obtain ⟨l7, hl7⟩ : ∃ l7, l7 = (stepT l6 b6).2.1 := ⟨_, rfl⟩
    obtain ⟨b7, hb7⟩ : ∃ b7, b7 = (stepT l6 b6).2.2 := ⟨_, rfl⟩
    rw [← hl7, ← hb7] at HX
    rw [← hsq]
    have KS := Aside0.mk hsq
    have KL7 := Aside0.mk hl7
    have KB7 := Aside0.mk hb7
    clear hsq hl7 hb7
    have CB2_ := Aside0.mk (blk_far (p := ⟨g7, 2, none⟩) CB2.out (show g2 ≠ g7 by have := HX.out.o6; have := HX.out.o7; have := HG2L.out; omega) (.int .i64 sq))
    clear CB2
    have HX_ := Aside0.mk (HX.out.put 2 (.int .i64 sq) nx sq rfl)
    clear HX v60 v61 v70 v71 v72 f70 f71 f72
    generalize w7.setCell ⟨g7, 2, none⟩ (.int .i64 sq) = W7 at *
    have HX := HX_
    clear HX_
    obtain ⟨v60, v61, v70, v71, v72, f70, f71, f72⟩ := HX.out.vis
    have CB2 := CB2_
    clear CB2_
    have HH2 := Aside0.mk (show (if b7 = true ∨ 0 < l7.length ∨ ¬ FormedC acc nx sq then (([], 0, 0, 13) : List S63 × Int × Int × Int) else (acc, nx, sq, 0)) = (r1, r2, r3, r4) by
     have h1 := HH.out
     unfold takeM at h1
     simp only [] at h1
     rw [HM0.out, Int.toNat_natCast, HLQ.out] at h1
     simp only [] at h1
     rw [← KN.out, ← KL6.out, ← KB6.out, ← KS.out, ← KL7.out, ← KB7.out] at h1
     exact h1)
    obtain ⟨Av, cv, hv⟩ := Kd.R_slice HX.out.hR
    subst hv
    have v20 : W7.cell? ⟨g2, 0, none⟩ = some (.slice none 0 0) := (blk_cell CB2.out 0).trans rfl
    have v21 : W7.cell? ⟨g2, 1, none⟩ = some (.int .i64 0) := (blk_cell CB2.out 1).trans rfl
    have v22 : W7.cell? ⟨g2, 2, none⟩ = some (.int .i64 0) := (blk_cell CB2.out 2).trans rfl
    have f20 := blk_frozen CB2.out 0
    have f21 := blk_frozen CB2.out 1
    have f22 := blk_frozen CB2.out 2
    cases b7 with
    | true =>
     have hh := HH2.out
     rw [if_pos (.inl rfl)] at hh
     simp only [Prod.mk.injEq] at hh
     obtain ⟨rfl, rfl, rfl, rfl⟩ := hh
     go_wp2
     refine bodyPost_ret (results_ct rfl _ _ g2 27 #[.slice none 0 0, .int .i64 0, .int .i64 0] (0, 0) _ rfl (blk_put (cs := #[.slice none 0 0, .int .i64 0, .int .i64 0]) (blk_put (cs := #[.slice none 0 0, .int .i64 0, .int .i64 0]) (blk_put (cs := #[.slice none 0 0, .int .i64 0, .int .i64 0]) CB2.out 0 _ rfl) 1 _ rfl) 2 _ rfl) Tryd.underlying27 rfl (by kernel_rfl)) rfl ?_
     exact ⟨_, rfl, Kd.R_nil _ _ _ _ _, below_set (below_set (below_set (below_step HB.out HX.out.B) G2.out) G2.out) G2.out⟩
    | false =>
     by_cases cl : 0 < l7.length
     ·have hh := HH2.out
      rw [if_pos (.inr (.inl cl))] at hh
      simp only [Prod.mk.injEq] at hh
      obtain ⟨rfl, rfl, rfl, rfl⟩ := hh
      have cl1 : decide ((0 : Int) < (l7.length : Int)) = true := decide_eq_true (by omega)
      have cl2 := eq_true cl
      clear cl
      go_wp2
      refine bodyPost_ret (results_ct rfl _ _ g2 27 #[.slice none 0 0, .int .i64 0, .int .i64 0] (0, 0) _ rfl (blk_put (cs := #[.slice none 0 0, .int .i64 0, .int .i64 0]) (blk_put (cs := #[.slice none 0 0, .int .i64 0, .int .i64 0]) (blk_put (cs := #[.slice none 0 0, .int .i64 0, .int .i64 0]) CB2.out 0 _ rfl) 1 _ rfl) 2 _ rfl) Tryd.underlying27 rfl (by kernel_rfl)) rfl ?_
      exact ⟨_, rfl, Kd.R_nil _ _ _ _ _, below_set (below_set (below_set (below_step HB.out HX.out.B) G2.out) G2.out) G2.out⟩
     ·have cl1 : decide ((0 : Int) < (l7.length : Int)) = false := decide_eq_false (by omega)
      have cl2 := eq_false cl
      by_cases cf : FormedC acc nx sq
      ·have hh := HH2.out
       rw [if_neg (fun h => by rcases h with h | h | h; cases h; exact cl h; exact h cf)] at hh
       simp only [Prod.mk.injEq] at hh
       obtain ⟨rfl, rfl, rfl, rfl⟩ := hh
       have HF := Aside0.mk (show manifest_Formed.f acc nx sq = some true by unfold manifest_Formed.f; rw [if_pos (by have := HAC.out.2; have := HPB.out.2; omega), decide_eq_true cf])
       clear cf
       go_wp2_with (first
        | (go_at_call 21; (with_reducible refine (manifest_Formed.calls Av cv acc nx sq true _ (Kd.R_reads' HX.out.hR).2.2 (Kd.R_reads' HX.out.hR).2.1 HF.out).mono ?_); rintro e_ w9 ⟨rfl, hb⟩; have HX_ := Aside0.mk (HX.out.new hb rfl).any; have CB2_ := Aside0.mk (blk_below CB2.out hb); clear HX CB2 hb v60 v61 v70 v71 v72 f70 f71 f72 v20 v21 v22 f20 f21 f22; have HX := HX_; have CB2 := CB2_; clear HX_ CB2_; obtain ⟨v60, v61, v70, v71, v72, f70, f71, f72⟩ := HX.out.vis; have v20 : w9.cell? ⟨g2, 0, none⟩ = some (.slice none 0 0) := (blk_cell CB2.out 0).trans rfl; have v21 : w9.cell? ⟨g2, 1, none⟩ = some (.int .i64 0) := (blk_cell CB2.out 1).trans rfl; have v22 : w9.cell? ⟨g2, 2, none⟩ = some (.int .i64 0) := (blk_cell CB2.out 2).trans rfl; have f20 := blk_frozen CB2.out 0; have f21 := blk_frozen CB2.out 1; have f22 := blk_frozen CB2.out 2))
       refine bodyPost_ret (results_ct rfl _ _ g2 27 #[.slice Av acc.length cv, .int .i64 nx, .int .i64 sq] (0, 0) _ rfl (blk_put (cs := #[.slice Av acc.length cv, .int .i64 nx, .int .i64 0]) (blk_put (cs := #[.slice Av acc.length cv, .int .i64 0, .int .i64 0]) (blk_put (cs := #[.slice none 0 0, .int .i64 0, .int .i64 0]) CB2.out 0 _ rfl) 1 _ rfl) 2 _ rfl) Tryd.underlying27 rfl (by kernel_rfl)) rfl ?_
       have hRg : Kd.R k63 63 _ w2.heap.size (fun k => k ≠ g2) (.slice Av acc.length cv) acc := Kd.R_mono (Kd.R_bound HX.out.hR) (fun k hk => by have := hk.2.1; have := HG2L.out; omega)
       exact ⟨_, rfl, Kd.R_lower (Kd.R_mono (Kd.R_far (Kd.R_far (Kd.R_far hRg (fun k hk => hk) _) (fun k hk => hk) _) (fun k hk => hk) _) (fun _ _ => trivial)) (below_size HB.out), below_set (below_set (below_set (below_step HB.out HX.out.B) G2.out) G2.out) G2.out⟩
      ·have hh := HH2.out
       rw [if_pos (.inr (.inr cf))] at hh
       simp only [Prod.mk.injEq] at hh
       obtain ⟨rfl, rfl, rfl, rfl⟩ := hh
       have HF := Aside0.mk (show manifest_Formed.f acc nx sq = some false by unfold manifest_Formed.f; rw [if_pos (by have := HAC.out.2; have := HPB.out.2; omega), decide_eq_false cf])
       clear cf
       go_wp2_with (first
        | (go_at_call 21; (with_reducible refine (manifest_Formed.calls Av cv acc nx sq false _ (Kd.R_reads' HX.out.hR).2.2 (Kd.R_reads' HX.out.hR).2.1 HF.out).mono ?_); rintro e_ w9 ⟨rfl, hb⟩; have HX_ := Aside0.mk (HX.out.new hb rfl).any; have CB2_ := Aside0.mk (blk_below CB2.out hb); clear HX CB2 hb v60 v61 v70 v71 v72 f70 f71 f72 v20 v21 v22 f20 f21 f22; have HX := HX_; have CB2 := CB2_; clear HX_ CB2_; obtain ⟨v60, v61, v70, v71, v72, f70, f71, f72⟩ := HX.out.vis; have v20 : w9.cell? ⟨g2, 0, none⟩ = some (.slice none 0 0) := (blk_cell CB2.out 0).trans rfl; have v21 : w9.cell? ⟨g2, 1, none⟩ = some (.int .i64 0) := (blk_cell CB2.out 1).trans rfl; have v22 : w9.cell? ⟨g2, 2, none⟩ = some (.int .i64 0) := (blk_cell CB2.out 2).trans rfl; have f20 := blk_frozen CB2.out 0; have f21 := blk_frozen CB2.out 1; have f22 := blk_frozen CB2.out 2))
       refine bodyPost_ret (results_ct rfl _ _ g2 27 #[.slice none 0 0, .int .i64 0, .int .i64 0] (0, 0) _ rfl (blk_put (cs := #[.slice none 0 0, .int .i64 0, .int .i64 0]) (blk_put (cs := #[.slice none 0 0, .int .i64 0, .int .i64 0]) (blk_put (cs := #[.slice none 0 0, .int .i64 0, .int .i64 0]) CB2.out 0 _ rfl) 1 _ rfl) 2 _ rfl) Tryd.underlying27 rfl (by kernel_rfl)) rfl ?_
       exact ⟨_, rfl, Kd.R_nil _ _ _ _ _, below_set (below_set (below_set (below_step HB.out HX.out.B) G2.out) G2.out) G2.out⟩
   ·cases bad with
    | true =>
     have hpos : decide ((0 : Int) < ((n + 1 : Nat) : Int)) = true := decide_eq_true (by omega)
     have HLQ := Aside0.mk (show loopT m0 (stepT p false).2.1 (stepT p false).2.2 = (acc, l, true) by rw [HLP.out, loop_bad]; show (acc ++ [], l, true) = _; rw [List.append_nil])
     clear HLP
     have CB2_ := Aside0.mk (blk_below CB2.out HX.out.B)
     clear CB2
     have CB2 := CB2_
     clear CB2_
     go_upto_region 17 with (first
      | (go_at_call 34; (with_reducible refine (numbers_take.calls w2 _ g6 A c l true HX.out.B HX.out.o6 HX.out.c6 HX.out.hC HX.out.hc HX.out.hb HX.out.hl).mono ?_); rintro e_ w6 ⟨A', c', rfl, h6, hc6, hC6, hB6, hk6⟩; have HX_ := Aside0.mk (HX.out.take h6 hc6 hC6 hB6 hk6); have CB2_ := Aside0.mk (blk_kept CB2.out hk6 (fun e => by have := HX.out.o6; have := HG2L.out; omega)); clear CB2; have CB2 := CB2_; clear CB2_; clear HX h6 hc6 hC6 hB6 hk6 v60 v61 v70 v71 v72 f70 f71 f72; have HX := HX_; clear HX_; obtain ⟨v60, v61, v70, v71, v72, f70, f71, f72⟩ := HX.out.vis))
     obtain ⟨nx, hnx⟩ : ∃ nx, nx = (stepT l true).1 := ⟨_, rfl⟩
     obtain ⟨l6, hl6⟩ : ∃ l6, l6 = (stepT l true).2.1 := ⟨_, rfl⟩
     obtain ⟨b6, hb6⟩ : ∃ b6, b6 = (stepT l true).2.2 := ⟨_, rfl⟩
     rw [← hl6, ← hb6] at HX
     rw [← hnx]
     have KN := Aside0.mk hnx
     have KL6 := Aside0.mk hl6
     have KB6 := Aside0.mk hb6
     clear hnx hl6 hb6
     have CB2_ := Aside0.mk (blk_far (p := ⟨g7, 1, none⟩) CB2.out (show g2 ≠ g7 by have := HX.out.o6; have := HX.out.o7; have := HG2L.out; omega) (.int .i64 nx))
     clear CB2
     have HX_ := Aside0.mk (HX.out.put 1 (.int .i64 nx) nx 0 rfl)
     clear HX v60 v61 v70 v71 v72 f70 f71 f72
     generalize w6.setCell ⟨g7, 1, none⟩ (.int .i64 nx) = W6 at *
     have HX := HX_
     clear HX_
     obtain ⟨v60, v61, v70, v71, v72, f70, f71, f72⟩ := HX.out.vis
     have CB2 := CB2_
     clear CB2_
     go_upto_region 18 with (first
      | (go_at_call 34; (with_reducible refine (numbers_take.calls w2 _ g6 A' c' l6 b6 HX.out.B HX.out.o6 HX.out.c6 HX.out.hC HX.out.hc HX.out.hb HX.out.hl).mono ?_); rintro e_ w7 ⟨A7, c7, rfl, h6, hc6, hC6, hB6, hk6⟩; have HX_ := Aside0.mk (HX.out.take h6 hc6 hC6 hB6 hk6); have CB2_ := Aside0.mk (blk_kept CB2.out hk6 (fun e => by have := HX.out.o6; have := HG2L.out; omega)); clear CB2; have CB2 := CB2_; clear CB2_; clear HX h6 hc6 hC6 hB6 hk6 v60 v61 v70 v71 v72 f70 f71 f72; have HX := HX_; clear HX_; obtain ⟨v60, v61, v70, v71, v72, f70, f71, f72⟩ := HX.out.vis))
     obtain ⟨sq, hsq⟩ : ∃ sq, sq = (stepT l6 b6).1 := ⟨_, rfl⟩
     obtain ⟨l7, hl7⟩ : ∃ l7, l7 = (stepT l6 b6).2.1 := ⟨_, rfl⟩
     obtain ⟨b7, hb7⟩ : ∃ b7, b7 = (stepT l6 b6).2.2 := ⟨_, rfl⟩
     rw [← hl7, ← hb7] at HX
     rw [← hsq]
     have KS := Aside0.mk hsq
     have KL7 := Aside0.mk hl7
     have KB7 := Aside0.mk hb7
     clear hsq hl7 hb7
     have CB2_ := Aside0.mk (blk_far (p := ⟨g7, 2, none⟩) CB2.out (show g2 ≠ g7 by have := HX.out.o6; have := HX.out.o7; have := HG2L.out; omega) (.int .i64 sq))
     clear CB2
     have HX_ := Aside0.mk (HX.out.put 2 (.int .i64 sq) nx sq rfl)
     clear HX v60 v61 v70 v71 v72 f70 f71 f72
     generalize w7.setCell ⟨g7, 2, none⟩ (.int .i64 sq) = W7 at *
     have HX := HX_
     clear HX_
     obtain ⟨v60, v61, v70, v71, v72, f70, f71, f72⟩ := HX.out.vis
     have CB2 := CB2_
     clear CB2_
     have HH2 := Aside0.mk (show (if b7 = true ∨ 0 < l7.length ∨ ¬ FormedC acc nx sq then (([], 0, 0, 13) : List S63 × Int × Int × Int) else (acc, nx, sq, 0)) = (r1, r2, r3, r4) by
      have h1 := HH.out
      unfold takeM at h1
      simp only [] at h1
      rw [HM0.out, Int.toNat_natCast, HLQ.out] at h1
      simp only [] at h1
      rw [← KN.out, ← KL6.out, ← KB6.out, ← KS.out, ← KL7.out, ← KB7.out] at h1
      exact h1)
     obtain ⟨Av, cv, hv⟩ := Kd.R_slice HX.out.hR
     subst hv
     have v20 : W7.cell? ⟨g2, 0, none⟩ = some (.slice none 0 0) := (blk_cell CB2.out 0).trans rfl
     have v21 : W7.cell? ⟨g2, 1, none⟩ = some (.int .i64 0) := (blk_cell CB2.out 1).trans rfl
     have v22 : W7.cell? ⟨g2, 2, none⟩ = some (.int .i64 0) := (blk_cell CB2.out 2).trans rfl
     have f20 := blk_frozen CB2.out 0
     have f21 := blk_frozen CB2.out 1
     have f22 := blk_frozen CB2.out 2
     cases b7 with
     | true =>
      have hh := HH2.out
      rw [if_pos (.inl rfl)] at hh
      simp only [Prod.mk.injEq] at hh
      obtain ⟨rfl, rfl, rfl, rfl⟩ := hh
      go_wp2
      refine bodyPost_ret (results_ct rfl _ _ g2 27 #[.slice none 0 0, .int .i64 0, .int .i64 0] (0, 0) _ rfl (blk_put (cs := #[.slice none 0 0, .int .i64 0, .int .i64 0]) (blk_put (cs := #[.slice none 0 0, .int .i64 0, .int .i64 0]) (blk_put (cs := #[.slice none 0 0, .int .i64 0, .int .i64 0]) CB2.out 0 _ rfl) 1 _ rfl) 2 _ rfl) Tryd.underlying27 rfl (by kernel_rfl)) rfl ?_
      exact ⟨_, rfl, Kd.R_nil _ _ _ _ _, below_set (below_set (below_set (below_step HB.out HX.out.B) G2.out) G2.out) G2.out⟩
     | false =>
      by_cases cl : 0 < l7.length
      ·have hh := HH2.out
       rw [if_pos (.inr (.inl cl))] at hh
       simp only [Prod.mk.injEq] at hh
       obtain ⟨rfl, rfl, rfl, rfl⟩ := hh
       have cl1 : decide ((0 : Int) < (l7.length : Int)) = true := decide_eq_true (by omega)
       have cl2 := eq_true cl
       clear cl
       go_wp2
       refine bodyPost_ret (results_ct rfl _ _ g2 27 #[.slice none 0 0, .int .i64 0, .int .i64 0] (0, 0) _ rfl (blk_put (cs := #[.slice none 0 0, .int .i64 0, .int .i64 0]) (blk_put (cs := #[.slice none 0 0, .int .i64 0, .int .i64 0]) (blk_put (cs := #[.slice none 0 0, .int .i64 0, .int .i64 0]) CB2.out 0 _ rfl) 1 _ rfl) 2 _ rfl) Tryd.underlying27 rfl (by kernel_rfl)) rfl ?_
       exact ⟨_, rfl, Kd.R_nil _ _ _ _ _, below_set (below_set (below_set (below_step HB.out HX.out.B) G2.out) G2.out) G2.out⟩
      ·have cl1 : decide ((0 : Int) < (l7.length : Int)) = false := decide_eq_false (by omega)
       have cl2 := eq_false cl
       by_cases cf : FormedC acc nx sq
       ·have hh := HH2.out
        rw [if_neg (fun h => by rcases h with h | h | h; cases h; exact cl h; exact h cf)] at hh
        simp only [Prod.mk.injEq] at hh
        obtain ⟨rfl, rfl, rfl, rfl⟩ := hh
        have HF := Aside0.mk (show manifest_Formed.f acc nx sq = some true by unfold manifest_Formed.f; rw [if_pos (by have := HAC.out.2; have := HPB.out.2; omega), decide_eq_true cf])
        clear cf
        go_wp2_with (first
         | (go_at_call 21; (with_reducible refine (manifest_Formed.calls Av cv acc nx sq true _ (Kd.R_reads' HX.out.hR).2.2 (Kd.R_reads' HX.out.hR).2.1 HF.out).mono ?_); rintro e_ w9 ⟨rfl, hb⟩; have HX_ := Aside0.mk (HX.out.new hb rfl).any; have CB2_ := Aside0.mk (blk_below CB2.out hb); clear HX CB2 hb v60 v61 v70 v71 v72 f70 f71 f72 v20 v21 v22 f20 f21 f22; have HX := HX_; have CB2 := CB2_; clear HX_ CB2_; obtain ⟨v60, v61, v70, v71, v72, f70, f71, f72⟩ := HX.out.vis; have v20 : w9.cell? ⟨g2, 0, none⟩ = some (.slice none 0 0) := (blk_cell CB2.out 0).trans rfl; have v21 : w9.cell? ⟨g2, 1, none⟩ = some (.int .i64 0) := (blk_cell CB2.out 1).trans rfl; have v22 : w9.cell? ⟨g2, 2, none⟩ = some (.int .i64 0) := (blk_cell CB2.out 2).trans rfl; have f20 := blk_frozen CB2.out 0; have f21 := blk_frozen CB2.out 1; have f22 := blk_frozen CB2.out 2))
        refine bodyPost_ret (results_ct rfl _ _ g2 27 #[.slice Av acc.length cv, .int .i64 nx, .int .i64 sq] (0, 0) _ rfl (blk_put (cs := #[.slice Av acc.length cv, .int .i64 nx, .int .i64 0]) (blk_put (cs := #[.slice Av acc.length cv, .int .i64 0, .int .i64 0]) (blk_put (cs := #[.slice none 0 0, .int .i64 0, .int .i64 0]) CB2.out 0 _ rfl) 1 _ rfl) 2 _ rfl) Tryd.underlying27 rfl (by kernel_rfl)) rfl ?_
        have hRg : Kd.R k63 63 _ w2.heap.size (fun k => k ≠ g2) (.slice Av acc.length cv) acc := Kd.R_mono (Kd.R_bound HX.out.hR) (fun k hk => by have := hk.2.1; have := HG2L.out; omega)
        exact ⟨_, rfl, Kd.R_lower (Kd.R_mono (Kd.R_far (Kd.R_far (Kd.R_far hRg (fun k hk => hk) _) (fun k hk => hk) _) (fun k hk => hk) _) (fun _ _ => trivial)) (below_size HB.out), below_set (below_set (below_set (below_step HB.out HX.out.B) G2.out) G2.out) G2.out⟩
       ·have hh := HH2.out
        rw [if_pos (.inr (.inr cf))] at hh
        simp only [Prod.mk.injEq] at hh
        obtain ⟨rfl, rfl, rfl, rfl⟩ := hh
        have HF := Aside0.mk (show manifest_Formed.f acc nx sq = some false by unfold manifest_Formed.f; rw [if_pos (by have := HAC.out.2; have := HPB.out.2; omega), decide_eq_false cf])
        clear cf
        go_wp2_with (first
         | (go_at_call 21; (with_reducible refine (manifest_Formed.calls Av cv acc nx sq false _ (Kd.R_reads' HX.out.hR).2.2 (Kd.R_reads' HX.out.hR).2.1 HF.out).mono ?_); rintro e_ w9 ⟨rfl, hb⟩; have HX_ := Aside0.mk (HX.out.new hb rfl).any; have CB2_ := Aside0.mk (blk_below CB2.out hb); clear HX CB2 hb v60 v61 v70 v71 v72 f70 f71 f72 v20 v21 v22 f20 f21 f22; have HX := HX_; have CB2 := CB2_; clear HX_ CB2_; obtain ⟨v60, v61, v70, v71, v72, f70, f71, f72⟩ := HX.out.vis; have v20 : w9.cell? ⟨g2, 0, none⟩ = some (.slice none 0 0) := (blk_cell CB2.out 0).trans rfl; have v21 : w9.cell? ⟨g2, 1, none⟩ = some (.int .i64 0) := (blk_cell CB2.out 1).trans rfl; have v22 : w9.cell? ⟨g2, 2, none⟩ = some (.int .i64 0) := (blk_cell CB2.out 2).trans rfl; have f20 := blk_frozen CB2.out 0; have f21 := blk_frozen CB2.out 1; have f22 := blk_frozen CB2.out 2))
        refine bodyPost_ret (results_ct rfl _ _ g2 27 #[.slice none 0 0, .int .i64 0, .int .i64 0] (0, 0) _ rfl (blk_put (cs := #[.slice none 0 0, .int .i64 0, .int .i64 0]) (blk_put (cs := #[.slice none 0 0, .int .i64 0, .int .i64 0]) (blk_put (cs := #[.slice none 0 0, .int .i64 0, .int .i64 0]) CB2.out 0 _ rfl) 1 _ rfl) 2 _ rfl) Tryd.underlying27 rfl (by kernel_rfl)) rfl ?_
        exact ⟨_, rfl, Kd.R_nil _ _ _ _ _, below_set (below_set (below_set (below_step HB.out HX.out.B) G2.out) G2.out) G2.out⟩
    | false =>
     have hpos : decide ((0 : Int) < ((n + 1 : Nat) : Int)) = true := decide_eq_true (by omega)
     have KLP := Aside0.mk (show loopT (n + 1) l false = (ref4 l false :: (loopT n (take4 l false 4).1 (take4 l false 4).2).1, (loopT n (take4 l false 4).1 (take4 l false 4).2).2) from rfl)
     have KLL := Aside0.mk (take4_less HX.out.hb false 4)
     have KLB := Aside0.mk (take4_bytes HX.out.hb false 4)
     have HAC0 := Aside0.mk (HAC.out.1 rfl)
     go_wp2_with (first
      | ((with_reducible refine gate_dst (N := 9) rfl ?_); refine box_event ?hg (N := 9) ?hd (cs := #[.int .i64 0, .int .i64 0, .int .i64 0, .int .i64 0]) (t := 63) ?hr ?_; (case hd => rfl); (case hg => rfl); (case hr => first | (go_simp; done) | (go_simp; rfl)); intro g9 hg9 w6 hbox hb; have CB9 := Aside0.mk hbox; have G9 := Aside0.mk (show g7 < g9 by rw [hg9]; exact HX.out.lt7); have HX_ := Aside0.mk (HX.out.new hb hg9); clear HX hb hbox hg9 v60 v61 v70 v71 v72 f70 f71 f72; have HX := HX_; clear HX_))
     go_loopw [41] (fun v41 w' => ∃ (j : Nat) (A : Option Addr) (c : Nat) (l' : List Int) (bad' : Bool), v41 = .int .i64 j ∧ j ≤ 4 ∧ Aside0 ((l', bad') = take4 l false j) ∧ Aside0 (TX w2 w' g6 g7 A c l' bad' v 0 0 acc (fun k => k ≠ g9)) ∧ Aside0 (w'.heap[g9]? = some (.cells #[.int .i64 (celT l false j 0), .int .i64 (celT l false j 1), .int .i64 (celT l false j 2), .int .i64 (celT l false j 3)] 63 (0, 0)))) (fun v41 _ => 4 - (intOf v41).toNat)
     case atStart => exact ⟨0, A, c, l, false, rfl, Nat.zero_le _, ⟨rfl⟩, HX, CB9⟩
     case round =>
      clear HX CB9
      obtain ⟨j, A, c, l', bad', rfl, hj, HQ, HX, CB9⟩ := hrel
      rcases (show j = 0 ∨ j = 1 ∨ j = 2 ∨ j = 3 ∨ j = 4 by omega) with rfl | rfl | rfl | rfl | rfl
      ·obtain ⟨v60, v61, v70, v71, v72, f70, f71, f72⟩ := HX.out.vis
       have hix := iy0 g9
       go_wp2_with (first
        | (go_at_call 34; (with_reducible refine (numbers_take.calls w2 _ g6 A c l' bad' HX.out.B HX.out.o6 HX.out.c6 HX.out.hC HX.out.hc HX.out.hb HX.out.hl).mono ?_); rintro e_ w7 ⟨A', c', rfl, h6, hc6, hC6, hB6, hk6⟩; have HX_ := Aside0.mk (HX.out.take h6 hc6 hC6 hB6 hk6); have CB9_ := Aside0.mk (blk_kept CB9.out hk6 (fun e => by have := HX.out.o7; have := G9.out; omega)); clear CB9; have CB9 := CB9_; clear CB9_; have f9 := blk_frozen CB9.out 0; have v9 : w7.cell? ⟨g9, 0, none⟩ = some (.int .i64 (celT l false 0 0)) := (blk_cell CB9.out 0).trans rfl; clear HX h6 hc6 hC6 hB6 hk6 v60 v61 v70 v71 v72 f70 f71 f72; have HX := HX_; clear HX_; obtain ⟨v60, v61, v70, v71, v72, f70, f71, f72⟩ := HX.out.vis))
       have e1 : (stepT l' bad').1 = fld4 l false 0 := by unfold fld4; rw [← HQ.out]
       go_roundw
       ·exact ⟨1, A', c', _, _, rfl, by decide, ⟨by show _ = (stepT (take4 l false 0).1 (take4 l false 0).2).2; rw [← HQ.out]⟩, ⟨HX.out.far G9.out 0 _⟩, ⟨blk_put (cs' := #[.int .i64 (celT l false 1 0), .int .i64 (celT l false 1 1), .int .i64 (celT l false 1 2), .int .i64 (celT l false 1 3)]) CB9.out 0 _ (by rw [e1]; rfl)⟩⟩
       ·decide
      ·obtain ⟨v60, v61, v70, v71, v72, f70, f71, f72⟩ := HX.out.vis
       have hix := iy1 g9
       go_wp2_with (first
        | (go_at_call 34; (with_reducible refine (numbers_take.calls w2 _ g6 A c l' bad' HX.out.B HX.out.o6 HX.out.c6 HX.out.hC HX.out.hc HX.out.hb HX.out.hl).mono ?_); rintro e_ w7 ⟨A', c', rfl, h6, hc6, hC6, hB6, hk6⟩; have HX_ := Aside0.mk (HX.out.take h6 hc6 hC6 hB6 hk6); have CB9_ := Aside0.mk (blk_kept CB9.out hk6 (fun e => by have := HX.out.o7; have := G9.out; omega)); clear CB9; have CB9 := CB9_; clear CB9_; have f9 := blk_frozen CB9.out 1; have v9 : w7.cell? ⟨g9, 1, none⟩ = some (.int .i64 (celT l false 1 1)) := (blk_cell CB9.out 1).trans rfl; clear HX h6 hc6 hC6 hB6 hk6 v60 v61 v70 v71 v72 f70 f71 f72; have HX := HX_; clear HX_; obtain ⟨v60, v61, v70, v71, v72, f70, f71, f72⟩ := HX.out.vis))
       have e1 : (stepT l' bad').1 = fld4 l false 1 := by unfold fld4; rw [← HQ.out]
       go_roundw
       ·exact ⟨2, A', c', _, _, rfl, by decide, ⟨by show _ = (stepT (take4 l false 1).1 (take4 l false 1).2).2; rw [← HQ.out]⟩, ⟨HX.out.far G9.out 1 _⟩, ⟨blk_put (cs' := #[.int .i64 (celT l false 2 0), .int .i64 (celT l false 2 1), .int .i64 (celT l false 2 2), .int .i64 (celT l false 2 3)]) CB9.out 1 _ (by rw [e1]; rfl)⟩⟩
       ·decide
      ·obtain ⟨v60, v61, v70, v71, v72, f70, f71, f72⟩ := HX.out.vis
       have hix := iy2 g9
       go_wp2_with (first
        | (go_at_call 34; (with_reducible refine (numbers_take.calls w2 _ g6 A c l' bad' HX.out.B HX.out.o6 HX.out.c6 HX.out.hC HX.out.hc HX.out.hb HX.out.hl).mono ?_); rintro e_ w7 ⟨A', c', rfl, h6, hc6, hC6, hB6, hk6⟩; have HX_ := Aside0.mk (HX.out.take h6 hc6 hC6 hB6 hk6); have CB9_ := Aside0.mk (blk_kept CB9.out hk6 (fun e => by have := HX.out.o7; have := G9.out; omega)); clear CB9; have CB9 := CB9_; clear CB9_; have f9 := blk_frozen CB9.out 2; have v9 : w7.cell? ⟨g9, 2, none⟩ = some (.int .i64 (celT l false 2 2)) := (blk_cell CB9.out 2).trans rfl; clear HX h6 hc6 hC6 hB6 hk6 v60 v61 v70 v71 v72 f70 f71 f72; have HX := HX_; clear HX_; obtain ⟨v60, v61, v70, v71, v72, f70, f71, f72⟩ := HX.out.vis))
       have e1 : (stepT l' bad').1 = fld4 l false 2 := by unfold fld4; rw [← HQ.out]
       go_roundw
       ·exact ⟨3, A', c', _, _, rfl, by decide, ⟨by show _ = (stepT (take4 l false 2).1 (take4 l false 2).2).2; rw [← HQ.out]⟩, ⟨HX.out.far G9.out 2 _⟩, ⟨blk_put (cs' := #[.int .i64 (celT l false 3 0), .int .i64 (celT l false 3 1), .int .i64 (celT l false 3 2), .int .i64 (celT l false 3 3)]) CB9.out 2 _ (by rw [e1]; rfl)⟩⟩
       ·decide
      ·obtain ⟨v60, v61, v70, v71, v72, f70, f71, f72⟩ := HX.out.vis
       have hix := iy3 g9
       go_wp2_with (first
        | (go_at_call 34; (with_reducible refine (numbers_take.calls w2 _ g6 A c l' bad' HX.out.B HX.out.o6 HX.out.c6 HX.out.hC HX.out.hc HX.out.hb HX.out.hl).mono ?_); rintro e_ w7 ⟨A', c', rfl, h6, hc6, hC6, hB6, hk6⟩; have HX_ := Aside0.mk (HX.out.take h6 hc6 hC6 hB6 hk6); have CB9_ := Aside0.mk (blk_kept CB9.out hk6 (fun e => by have := HX.out.o7; have := G9.out; omega)); clear CB9; have CB9 := CB9_; clear CB9_; have f9 := blk_frozen CB9.out 3; have v9 : w7.cell? ⟨g9, 3, none⟩ = some (.int .i64 (celT l false 3 3)) := (blk_cell CB9.out 3).trans rfl; clear HX h6 hc6 hC6 hB6 hk6 v60 v61 v70 v71 v72 f70 f71 f72; have HX := HX_; clear HX_; obtain ⟨v60, v61, v70, v71, v72, f70, f71, f72⟩ := HX.out.vis))
       have e1 : (stepT l' bad').1 = fld4 l false 3 := by unfold fld4; rw [← HQ.out]
       go_roundw
       ·exact ⟨4, A', c', _, _, rfl, by decide, ⟨by show _ = (stepT (take4 l false 3).1 (take4 l false 3).2).2; rw [← HQ.out]⟩, ⟨HX.out.far G9.out 3 _⟩, ⟨blk_put (cs' := #[.int .i64 (celT l false 4 0), .int .i64 (celT l false 4 1), .int .i64 (celT l false 4 2), .int .i64 (celT l false 4 3)]) CB9.out 3 _ (by rw [e1]; rfl)⟩⟩
       ·decide
      ·obtain ⟨x, hx⟩ : ∃ x, x = ref4 l false := ⟨_, rfl⟩
       have CBX := Aside0.mk (show wr.heap[g9]? = some (.cells #[.int .i64 x.f0, .int .i64 x.f1, .int .i64 x.f2, .int .i64 x.f3] 63 (0, 0)) by rw [hx]; exact CB9.out)
       have KX := Aside0.mk hx
       clear hx CB9
       have HX_ := Aside0.mk HX.out.any
       clear HX
       have HX := HX_
       clear HX_
       obtain ⟨Av, cv, hv⟩ := Kd.R_slice HX.out.hR
       subst hv
       obtain ⟨v60, v61, v70, v71, v72, f70, f71, f72⟩ := HX.out.vis
       have y0 : wr.cell? ⟨g9, 0, none⟩ = some (.int .i64 x.f0) := (blk_cell CBX.out 0).trans rfl
       have y1 : wr.cell? ⟨g9, 1, none⟩ = some (.int .i64 x.f1) := (blk_cell CBX.out 1).trans rfl
       have y2 : wr.cell? ⟨g9, 2, none⟩ = some (.int .i64 x.f2) := (blk_cell CBX.out 2).trans rfl
       have y3 : wr.cell? ⟨g9, 3, none⟩ = some (.int .i64 x.f3) := (blk_cell CBX.out 3).trans rfl
       go_wp2_with (first
        | ((with_reducible refine gate_dst (N := 52) rfl ?_); refine Kd.R_lit k63 _ 63 ?hg (N := 52) ?hd (xs := [x]) (inner := [.int .i64 x.f0, .int .i64 x.f1, .int .i64 x.f2, .int .i64 x.f3]) (ok := fun _ => True) (okp := fun _ => True) ?hr ?hp (fun _ hk => hk) trivial (Below.refl _ _) (Nat.le_refl _) (by simp) ?_; (case hd => rfl); (case hg => rfl); (case hr => first | (go_simp; done) | (go_simp; rfl)); (case hp => exact (Reps.c4 (k63_mkM _ _ _ x) (Reps.none _ _))); intro v52 w8 ho hb hgr hnew; clear hnew; have HB8 := Aside0.mk (below_step HX.out.B hb); have HX_ := Aside0.mk (HX.out.grown HB8.out hgr); obtain ⟨A5, c5, rfl⟩ := Kd.R_slice ho; have HL5 := Aside0.mk (Kd.R_reads' ho); clear HX hb hgr ho; have HX := HX_; clear HX_)
        | ((with_reducible refine gate_builtin (b := .append) (xs := #[.tmp 50, .tmp 52]) rfl ?_); at_builtin; refine Kd.R_append_rows k63 (w0 := w2) w2.heap.size rfl (.tmp 50) (.tmp 52) 25 63 (.agg #[(.int .i64 0), (.int .i64 0), (.int .i64 0), (.int .i64 0)]) 32 rfl Tryd.underlying25 info63x rfl (by decide) (by omega) (.slice Av acc.length cv) acc [x] _ _ _ (fun k => (k ≠ g6 ∧ k ≠ g7) ∧ True) (fun _ => False) rfl rfl ?aO ?aR (fun _ _ h => h) (fun _ h => h.elim) ?aF ?aB ?aS ?aL ?_; (case aR => exact HL5.out.2.2); (case aB => exact HB8.out); (case aF => exact (fun k hk => by have := HX.out.lt7; have := HX.out.o7; exact ⟨⟨by omega, by omega⟩, trivial⟩)); (case aO => exact HX.out.hR); (case aS => exact HB8.out.size); (case aL => have := HAC.out.2; have := HPB.out.2; simp; omega); intro v53 w9 ho hb hgr hat; obtain ⟨A53, c53, e53⟩ := Kd.R_slice ho; rw [show (acc ++ [x]).length = acc.length + 1 by simp] at e53; subst e53; have HRW := Aside0.mk ho; have HB9 := Aside0.mk hb; have HGR := Aside0.mk hgr; clear ho hb hgr hat; have u7 : w9.frozen? ⟨g7, 0, none⟩ = false := blk_frozen (blk_grown HX.out.c7 HGR.out (fun e => (HX.out.hR.1 g7 e.symm).1.2 rfl)) 0; have u70 : w9.cell? ⟨g7, 0, none⟩ = some (.slice Av acc.length cv) := (blk_cell (blk_grown HX.out.c7 HGR.out (fun e => (HX.out.hR.1 g7 e.symm).1.2 rfl)) 0).trans rfl))
       have HX2 := Aside0.mk (HX.out.row HB9.out HGR.out HRW.out)
       have hq1 : l' = (take4 l false 4).1 := by rw [← HQ.out]
       have hq2 : bad' = (take4 l false 4).2 := by rw [← HQ.out]
       have HLP2 := Aside0.mk (show loopT m0 (stepT p false).2.1 (stepT p false).2.2 = ((acc ++ [x]) ++ (loopT n l' bad').1, (loopT n l' bad').2) by rw [HLP.out, KLP.out, KX.out, hq1, hq2, List.append_assoc]; rfl)
       have HAC2 := Aside0.mk (show (bad' = false → (acc ++ [x]).length + l'.length ≤ p.length) ∧ (acc ++ [x]).length ≤ p.length + 1 by
        rw [List.length_append, List.length_singleton, hq1, hq2]
        have := HAC0.out
        exact ⟨fun h => by have := KLL.out h; omega, by omega⟩)
       clear hq1 hq2
       have hsb : wrap64 (n : Int) = (n : Int) := by have := HMM.out; unfold wrap64; omega
       go_roundw
       ·exact ⟨n, A, c, l', bad', _, acc ++ [x], by rw [hsb], HX2, HLP2, HAC2, ⟨by have := HMM.out; omega⟩⟩
       ·rw [hsb]
        show (n : Int).toNat < (((n + 1 : Nat)) : Int).toNat
        omega
 ·rw [if_neg he] at h
  simp only [Option.some.injEq, Prod.mk.injEq] at h
  obtain ⟨rfl, rfl, rfl, rfl⟩ := h
  have heb : (e == 0) = false := beq_eq_false_iff_ne.mpr he
  have hen : (e != 0) = true := bne_iff_ne.mpr he
  clear he
  go_enter Tryd.func11, Tryd.ntmps11
  go_wp2_with (first
   | ((with_reducible refine gate_dst (N := 2) rfl ?_); refine box_event ?hg (N := 2) ?hd (cs := #[.slice none 0 0, .int .i64 0, .int .i64 0]) (t := 27) ?hr ?_; (case hd => rfl); (case hg => rfl); (case hr => first | (go_simp; done) | (go_simp; rfl)); intro g2 hg2 w1 hbox hb; have CB2 := Aside0.mk hbox; have G2 := Aside0.mk (show w.heap.size ≤ g2 by rw [hg2]; exact below_size HB.out); have HB_ := Aside0.mk (below_step HB.out hb); clear HB hb hbox hg2; have HB := HB_; clear HB_; have v20 : w1.cell? ⟨g2, 0, none⟩ = some (.slice none 0 0) := (blk_cell CB2.out 0).trans rfl; have v21 : w1.cell? ⟨g2, 1, none⟩ = some (.int .i64 0) := (blk_cell CB2.out 1).trans rfl; have v22 : w1.cell? ⟨g2, 2, none⟩ = some (.int .i64 0) := (blk_cell CB2.out 2).trans rfl; have f20 := blk_frozen CB2.out 0; have f21 := blk_frozen CB2.out 1; have f22 := blk_frozen CB2.out 2)
   | (go_at_call 33; (with_reducible refine (crc_Unwrap.calls A0 c0 l0 p e _ (Kd.C_below HR.out HB.out) HC.out (GT.below HG.out HB.out) HU.out).mono ?_); rintro e_ w2 ⟨v2, rfl, hR, hb⟩; obtain ⟨Ap, cp, rfl⟩ := Kd.R_slice hR; have HP := Aside0.mk (Kd.R_reads' hR); have HB_ := Aside0.mk (below_step HB.out hb); have CB2_ := Aside0.mk (blk_below CB2.out hb); clear HB CB2 hR hb v20 v21 v22 f20 f21 f22; have HB := HB_; have CB2 := CB2_; clear HB_ CB2_; have v20 : w2.cell? ⟨g2, 0, none⟩ = some (.slice none 0 0) := (blk_cell CB2.out 0).trans rfl; have v21 : w2.cell? ⟨g2, 1, none⟩ = some (.int .i64 0) := (blk_cell CB2.out 1).trans rfl; have v22 : w2.cell? ⟨g2, 2, none⟩ = some (.int .i64 0) := (blk_cell CB2.out 2).trans rfl; have f20 := blk_frozen CB2.out 0; have f21 := blk_frozen CB2.out 1; have f22 := blk_frozen CB2.out 2))
  refine bodyPost_ret (results_ct rfl _ _ g2 27 #[.slice none 0 0, .int .i64 0, .int .i64 0] (0, 0) _ rfl (blk_put (cs := #[.slice none 0 0, .int .i64 0, .int .i64 0]) (blk_put (cs := #[.slice none 0 0, .int .i64 0, .int .i64 0]) (blk_put (cs := #[.slice none 0 0, .int .i64 0, .int .i64 0]) CB2.out 0 _ rfl) 1 _ rfl) 2 _ rfl) Tryd.underlying27 rfl (by kernel_rfl)) rfl ?_
  exact ⟨_, rfl, Kd.R_nil _ _ _ _ _, below_set (below_set (below_set HB.out G2.out) G2.out) G2.out⟩
def strconv_Itoa.f (a0 : Int) : Option ByteArray := if -9223372036854775808 ≤ a0 ∧ a0 ≤ 9223372036854775807 then some ⟨(Lib.itoa a0).toArray⟩ else none
theorem below_grow (w : World) (q : Nat) (os : Array Obj) : Below w.heap.size w (Sort.grow (w.drewN q) os) :=
 ⟨rfl, rfl, rfl, by first | (simp [Sort.grow]; done) | (simp [Sort.grow]; omega), fun i hi => by
  show ((w.drewN q).heap ++ os)[i]? = _
  rw [Array.getElem?_append_left (by show i < w.heap.size; omega)]
  rfl⟩
theorem strconv_Itoa.calls (a0 : Int) (r : ByteArray) (w : World) (hG : GT w) (h : strconv_Itoa.f a0 = some r) :
  Calls Tryd.prog 40 #[.int .i64 a0] w fun e w' => e = .returned (.string r) ∧ Below w.heap.size w w' := by
 unfold strconv_Itoa.f at h
 by_cases hb : -9223372036854775808 ≤ a0 ∧ a0 ≤ 9223372036854775807
 ·rw [if_pos hb] at h
  obtain rfl := Option.some.inj h
  refine (Tryd.strconv_Itoa a0 hb.1 hb.2 w hG.2).mono ?_
  rintro e w' ⟨rfl, k, os, rfl⟩
  exact ⟨rfl, below_grow w k os⟩
 ·rw [if_neg hb] at h
  cases h
def manifest_Name.f (a0 : Int) : Option (ByteArray) := if a0 < 0 then (some (⟨#[]⟩ : ByteArray)) else (if a0 > 2147483647 then (some (⟨#[]⟩ : ByteArray)) else ((strconv_Itoa.f a0).bind fun t165 => (if 1 + t165.size ≤ 9223372036854775807 then (some ((⟨#[115]⟩ : ByteArray) ++ t165)) else (none))))
set_option maxHeartbeats 8000000 in
set_option maxRecDepth 100000 in
theorem manifest_Name.calls (a0 : Int) (r : ByteArray) (w : World) (hG : GT w) (h : manifest_Name.f a0 = some r) :
  Calls Tryd.prog 17 #[.int .i64 a0] w fun e w' => e = .returned (.string r) ∧ Below w.heap.size w w' := by
 have HB := Aside0.mk (Below.refl w.heap.size w)
 have HG := Aside0.mk hG
 clear hG
 have H : (if a0 < 0 then (some (⟨#[]⟩ : ByteArray)) else (if a0 > 2147483647 then (some (⟨#[]⟩ : ByteArray)) else ((strconv_Itoa.f a0).bind fun t165 => (if 1 + t165.size ≤ 9223372036854775807 then (some ((⟨#[115]⟩ : ByteArray) ++ t165)) else (none))))) = some r := h
 clear h
 by_cases c2 : a0 < 0
 ·rw [if_pos c2] at H
  have c2b0 : decide (a0 < 0) = true := decide_eq_true c2
  clear c2
  obtain rfl := Option.some.inj H
  go_enter Tryd.func17, Tryd.ntmps17
  go_wp2
  go_ret
  exact ⟨by first | rfl | (simp [errW_none, errW_some] <;> rfl) | (simp [*, errW_none, errW_some] <;> rfl), by repeat (first | (with_reducible first | exact HB.out | apply below_alloc | apply pw_below_drewN | apply below_drew1) | exact HB.out)⟩
 ·rw [if_neg c2] at H
  have c2b0 : decide (a0 < 0) = false := decide_eq_false c2
  clear c2
  by_cases c3 : a0 > 2147483647
  ·rw [if_pos c3] at H
   have c3b0 : decide (2147483647 < a0) = true := decide_eq_true c3
   clear c3
   obtain rfl := Option.some.inj H
   go_enter Tryd.func17, Tryd.ntmps17
   go_wp2
   go_ret
   exact ⟨by first | rfl | (simp [errW_none, errW_some] <;> rfl) | (simp [*, errW_none, errW_some] <;> rfl), by repeat (first | (with_reducible first | exact HB.out | apply below_alloc | apply pw_below_drewN | apply below_drew1) | exact HB.out)⟩
  ·rw [if_neg c3] at H
   have c3b0 : decide (2147483647 < a0) = false := decide_eq_false c3
   clear c3
   replace H := Option.bind_eq_some_iff.mp H
   obtain ⟨t165, A40, H⟩ := H
   replace H : (if 1 + t165.size ≤ 9223372036854775807 then (some ((⟨#[115]⟩ : ByteArray) ++ t165)) else (none)) = some r := H
   have A4 := Aside0.mk A40
   clear A40
   by_cases c5 : 1 + t165.size ≤ 9223372036854775807
   ·rw [if_pos c5] at H
    have c5b0 := eq_true c5
    have c5b1 : decide (1 + t165.size ≤ 9223372036854775807) = true := decide_eq_true c5
    try have c5b2 : (9223372036854775807 < 1 + t165.size) = False := eq_false (Nat.not_lt.2 c5)
    obtain rfl := Option.some.inj H
    go_enter Tryd.func17, Tryd.ntmps17
    go_wp2_with (first | ((with_reducible refine gate_callee (f := 40) rfl ?_); refine goesL_ (some 10) rfl rfl Tryd.func40 (by kernel_rfl) rfl #[.int .i64 a0] rfl (by (try simp only [List.map_toArray, List.map_cons, List.map_nil]); first | done | rfl | (simp only [List.length_drop, List.length_take]; rfl)) ?_; (with_reducible refine (strconv_Itoa.calls a0 t165 _ ?side1 A4.out).mono ?_); (case side1 => exact GT.below HG.out (by repeat (first | (with_reducible first | exact HB.out | apply below_alloc | apply pw_below_drewN | apply below_drew1) | exact HB.out))); rintro e w6 ⟨rfl, hb⟩; refine ⟨_, rfl, ?_⟩; have n0_ := Aside0.mk (below_step (by repeat (first | (with_reducible first | exact HB.out | apply below_alloc | apply pw_below_drewN | apply below_drew1) | exact HB.out)) hb); clear HB; have HB := n0_; clear n0_; (try clear hb); (try clear hb2); (try clear hk); (try clear hi)))
    go_ret
    exact ⟨by first | rfl | (simp [errW_none, errW_some] <;> rfl) | (simp [*, errW_none, errW_some] <;> rfl), by repeat (first | (with_reducible first | exact HB.out | apply below_alloc | apply pw_below_drewN | apply below_drew1) | exact HB.out)⟩
   ·rw [if_neg c5] at H
    exact absurd H (by simp)
def b11 : List Int := [3, 0, 0, 0, 0, 0, 0, 53, 31, 59, 3]
theorem put_zero : manifest_Put.f [] 0 0 = some (b11, 0) := by decide +kernel
theorem unwrap_zero : crc_Unwrap.f b11 = some ([0, 0, 0], 0) := by decide +kernel
theorem take_zero : manifest_Take.f b11 = some ([], 0, 0, 0) := by
 have h : takeM [0, 0, 0] = ([], 0, 0, 0) := by kernel_rfl
 unfold manifest_Take.f
 rw [unwrap_zero, Option.bind_some, if_pos rfl, if_pos (by decide), h]
theorem name12 : manifest_Name.f 12 = some ⟨#[115, 49, 50]⟩ := by decide +kernel
theorem formed_zero : manifest_Formed.f [] 0 0 = some true := by decide +kernel
def dragnetlaw18_alive.f : Option Bool := some true
set_option maxHeartbeats 1600000 in
set_option maxRecDepth 100000 in
theorem dragnetlaw18_alive.calls (r : Bool) (w : World) (hG : GT w) (h : dragnetlaw18_alive.f = some r) :
  Calls Tryd.prog 9 #[] w fun e w' => e = .returned (.bool r) ∧ Below w.heap.size w w' := by
 obtain rfl := Option.some.inj h
 clear h
 have HG := Aside0.mk hG
 clear hG
 have hu27 := Tryd.underlying27
 go_enter Tryd.func9, Tryd.ntmps9
 go_wp2_with fail
 refine (manifest_Put.calls none 0 [] 0 0 b11 0 _ (Kd.C_nil _ _) (Nat.le_refl _) HG.out put_zero).mono ?_
 rintro e w1 ⟨v, rfl, ho, hb⟩
 have HB := Aside0.mk hb
 obtain ⟨Ao, co, rfl⟩ := Kd.R_slice ho
 have HC := Aside0.mk (Kd.R_reads' ho).2
 clear hb ho
 rw [show b11.length = 11 from rfl] at HC ⊢
 go_wp2_with fail
 refine (manifest_Take.calls Ao co b11 [] 0 0 0 _ HC.out.2 HC.out.1 (GT.below HG.out HB.out) take_zero).mono ?_
 rintro e w2 ⟨v, rfl, ho, hb⟩
 have HB2 := Aside0.mk (below_step HB.out hb)
 obtain ⟨Ar, cr, rfl⟩ := Kd.R_slice ho
 clear hb ho
 go_wp2_with fail
 refine (manifest_Name.calls 12 ⟨#[115, 49, 50]⟩ _ (GT.below HG.out (below_alloc HB2.out _)) name12).mono ?_
 rintro e w3 ⟨rfl, hb⟩
 have HB3 := Aside0.mk (below_step (below_alloc HB2.out _) hb)
 clear hb
 go_wp2_with fail
 refine (manifest_Formed.calls none 0 [] 0 0 true _ (Kd.C_nil _ _) (Nat.le_refl _) formed_zero).mono ?_
 rintro e w4 ⟨rfl, hb⟩
 have HB4 := Aside0.mk (below_step HB3.out hb)
 clear hb
 go_wp2
 go_ret
 exact ⟨rfl, HB4.out⟩
end Go.Proofs.YtdcifmonhaklcaaDoor.A
