/- Walk and plain law of StoreSure, by hand. -/
import Derived.Test.YtopjdjljpkcdlaaTuSuP
namespace Go.Proofs.Ytopjdjljpkcdlaa.U
open Go.Proofs.Ytopjdjljpkcdlaa.D
open Go.RowKit Go.Proofs.YtopjdjljpkcdlaaW.PrintWords Go.Proofs.YtopjdjljpkcdlaaW.PrintLast Go.Proofs.YtopjdjljpkcdlaaW.PrintMore
attribute [local go_sem] max2_int min2_int max_two min_two -- for this text's walks alone
set_option linter.unusedVariables false
set_option linter.unusedSimpArgs false
structure QX (w W : World) (g5 g6 g8 g9 : Nat) (A : Option Addr) (c : Nat) (L : List S61) (a0 a1 s0 s1 : ByteArray) : Prop where
  B : Below w.heap.size w W
  c5 : W.heap[g5]? = some (.cells #[.string ⟨#[97]⟩, .string ⟨#[98]⟩] 43 (0, 0))
  c6 : W.heap[g6]? = some (.cells #[.int .i64 4096, .slice A L.length c] 24 (0, 0))
  c8 : W.heap[g8]? = some (.cells #[.string a0, .string a1] 43 (0, 0))
  c9 : W.heap[g9]? = some (.cells #[.string s0, .string s1] 43 (0, 0))
  hV : Kd.V k61 61 W 0 (fun k => k ≠ g6 ∧ k ≠ g8 ∧ k ≠ g9) (.slice A L.length c) L
  o5 : w.heap.size ≤ g5
  o6 : g5 < g6
  o8 : g6 < g8
  o9 : g8 < g9
theorem QX.step {w W W1 : World} {g5 g6 g8 g9 : Nat} {A : Option Addr} {c : Nat} {L : List S61} {a0 a1 s0 s1 : ByteArray} (h : QX w W g5 g6 g8 g9 A c L a0 a1 s0 s1) (hb : Below W.heap.size W W1) : QX w W1 g5 g6 g8 g9 A c L a0 a1 s0 s1 := ⟨below_step h.B hb, blk_below h.c5 hb, blk_below h.c6 hb, blk_below h.c8 hb, blk_below h.c9 hb, Kd.V_below h.hV hb, h.o5, h.o6, h.o8, h.o9⟩
theorem QX.drew {w W : World} {g5 g6 g8 g9 : Nat} {A : Option Addr} {c : Nat} {L : List S61} {a0 a1 s0 s1 : ByteArray} (h : QX w W g5 g6 g8 g9 A c L a0 a1 s0 s1) : QX w W.drew g5 g6 g8 g9 A c L a0 a1 s0 s1 := ⟨below_drew1 h.B, blk_drew h.c5, blk_drew h.c6, blk_drew h.c8, blk_drew h.c9, Kd.V_drew h.hV, h.o5, h.o6, h.o8, h.o9⟩
theorem QX.reads {w W : World} {g5 g6 g8 g9 : Nat} {A : Option Addr} {c : Nat} {L : List S61} {a0 a1 s0 s1 : ByteArray} (h : QX w W g5 g6 g8 g9 A c L a0 a1 s0 s1) : Kd.C k61 W A L.length L := (Kd.V_reads' h.hV).2.2
theorem QX.room {w W : World} {g5 g6 g8 g9 : Nat} {A : Option Addr} {c : Nat} {L : List S61} {a0 a1 s0 s1 : ByteArray} (h : QX w W g5 g6 g8 g9 A c L a0 a1 s0 s1) : L.length ≤ c := (Kd.V_reads' h.hV).2.1
theorem QX.vis {w W : World} {g5 g6 g8 g9 : Nat} {A : Option Addr} {c : Nat} {L : List S61} {a0 a1 s0 s1 : ByteArray} (h : QX w W g5 g6 g8 g9 A c L a0 a1 s0 s1) :
    W.cell? ⟨g5, 0, none⟩ = some (.string ⟨#[97]⟩) ∧ W.cell? ⟨g5, 1, none⟩ = some (.string ⟨#[98]⟩) ∧ W.cell? ⟨g6, 0, none⟩ = some (.int .i64 4096) ∧ W.cell? ⟨g6, 1, none⟩ = some (.slice A L.length c) ∧ W.frozen? ⟨g6, 0, none⟩ = false ∧ W.frozen? ⟨g6, 1, none⟩ = false ∧ W.cell? ⟨g8, 0, none⟩ = some (.string a0) ∧ W.cell? ⟨g8, 1, none⟩ = some (.string a1) ∧ W.frozen? ⟨g8, 0, none⟩ = false ∧ W.frozen? ⟨g8, 1, none⟩ = false ∧ W.cell? ⟨g9, 0, none⟩ = some (.string s0) ∧ W.cell? ⟨g9, 1, none⟩ = some (.string s1) ∧ W.frozen? ⟨g9, 0, none⟩ = false ∧ W.frozen? ⟨g9, 1, none⟩ = false :=
  ⟨(blk_cell h.c5 0).trans rfl, (blk_cell h.c5 1).trans rfl, (blk_cell h.c6 0).trans rfl, (blk_cell h.c6 1).trans rfl, blk_frozen h.c6 0, blk_frozen h.c6 1, (blk_cell h.c8 0).trans rfl, (blk_cell h.c8 1).trans rfl, blk_frozen h.c8 0, blk_frozen h.c8 1, (blk_cell h.c9 0).trans rfl, (blk_cell h.c9 1).trans rfl, blk_frozen h.c9 0, blk_frozen h.c9 1⟩
theorem QX.put8 {w W : World} {g5 g6 g8 g9 : Nat} {A : Option Addr} {c : Nat} {L : List S61} {a0 a1 s0 s1 : ByteArray} (h : QX w W g5 g6 g8 g9 A c L a0 a1 s0 s1) (j : Nat) (s b0 b1 : ByteArray) (hs : (#[.string a0, .string a1] : Array Value).setIfInBounds j (.string s) = #[.string b0, .string b1]) : QX w (W.setCell ⟨g8, j, none⟩ (.string s)) g5 g6 g8 g9 A c L b0 b1 s0 s1 := by
  have h5 := h.o5
  have h6 := h.o6
  have h8 := h.o8
  have h9 := h.o9
  exact ⟨below_set h.B (by omega), blk_far h.c5 (show g5 ≠ g8 by omega) _, blk_far h.c6 (show g6 ≠ g8 by omega) _, blk_put h.c8 j _ hs, blk_far h.c9 (show g9 ≠ g8 by omega) _, Kd.V_far h.hV (fun k hk => hk.2.1) _, h5, h6, h8, h9⟩
theorem QX.put9 {w W : World} {g5 g6 g8 g9 : Nat} {A : Option Addr} {c : Nat} {L : List S61} {a0 a1 s0 s1 : ByteArray} (h : QX w W g5 g6 g8 g9 A c L a0 a1 s0 s1) (j : Nat) (s b0 b1 : ByteArray) (hs : (#[.string s0, .string s1] : Array Value).setIfInBounds j (.string s) = #[.string b0, .string b1]) : QX w (W.setCell ⟨g9, j, none⟩ (.string s)) g5 g6 g8 g9 A c L a0 a1 b0 b1 := by
  have h5 := h.o5
  have h6 := h.o6
  have h8 := h.o8
  have h9 := h.o9
  exact ⟨below_set h.B (by omega), blk_far h.c5 (show g5 ≠ g9 by omega) _, blk_far h.c6 (show g6 ≠ g9 by omega) _, blk_far h.c8 (show g8 ≠ g9 by omega) _, blk_put h.c9 j _ hs, Kd.V_far h.hV (fun k hk => hk.2.2) _, h5, h6, h8, h9⟩
theorem QX.new {w W : World} {g5 g6 g8 g9 : Nat} {A : Option Addr} {c : Nat} {L : List S61} {a0 a1 s0 s1 : ByteArray} (h : QX w W g5 g6 g8 g9 A c L a0 a1 s0 s1) {A2 : Option Addr} {c2 : Nat} {L2 : List S61} (hv : Kd.V k61 61 W 0 (fun k => g9 < k) (.slice A2 L2.length c2) L2) : QX w ((W.setCell ⟨g6, 0, none⟩ (.int .i64 4096)).setCell ⟨g6, 1, none⟩ (.slice A2 L2.length c2)) g5 g6 g8 g9 A2 c2 L2 a0 a1 s0 s1 := by
  have h5 := h.o5
  have h6 := h.o6
  have h8 := h.o8
  have h9 := h.o9
  refine ⟨below_set (below_set h.B (by omega)) (by omega), blk_far (blk_far h.c5 (show g5 ≠ g6 by omega) _) (show g5 ≠ g6 by omega) _, blk_put (blk_put h.c6 0 _ rfl) 1 _ rfl, blk_far (blk_far h.c8 (show g8 ≠ g6 by omega) _) (show g8 ≠ g6 by omega) _, blk_far (blk_far h.c9 (show g9 ≠ g6 by omega) _) (show g9 ≠ g6 by omega) _, Kd.V_mono (Kd.V_far (Kd.V_far hv (fun k hk => ?_) _) (fun k hk => ?_) _) (fun k hk => ?_), h5, h6, h8, h9⟩
  · show k ≠ g6
    omega
  · show k ≠ g6
    omega
  · omega
def SureOK (l0 : List S46) (l1 : List S59) : Prop := (∀ x ∈ l0, x.f1.length ≤ 140737488351232 ∧ 0 ≤ x.f0 ∧ x.f0 ≤ 255 ∧ ∀ u ∈ x.f1, 0 ≤ u ∧ u ≤ 255) ∧ KeepsOK l1
instance (l0 : List S46) (l1 : List S59) : Decidable (SureOK l0 l1) := by unfold SureOK; exact inferInstance
def dragnetlaw16_StoreSure.f (l0 : List S46) (l1 : List S59) : Option Bool := if SureOK l0 l1 then some true else none
theorem rdm46 (l : List S46) (i : Nat) (h : i < l.length) : rd_T46 l (i : Int) ∈ l := by
  unfold rd_T46
  rw [Int.toNat_natCast, List.getD_eq_getElem?_getD, List.getElem?_eq_getElem h]
  exact List.getElem_mem h
theorem QX.far {w W : World} {g5 g6 g8 g9 : Nat} {A : Option Addr} {c : Nat} {L : List S61} {a0 a1 s0 s1 : ByteArray} (h : QX w W g5 g6 g8 g9 A c L a0 a1 s0 s1) {g : Nat} (hv : Kd.V k61 61 W 0 (fun k => (k ≠ g6 ∧ k ≠ g8 ∧ k ≠ g9) ∧ k ≠ g) (.slice A L.length c) L) (hg : g9 < g) (u0 u1 u2 u3 : Value) : QX w ((((W.setCell ⟨g, 0, none⟩ u0).setCell ⟨g, 1, none⟩ u1).setCell ⟨g, 2, none⟩ u2).setCell ⟨g, 3, none⟩ u3) g5 g6 g8 g9 A c L a0 a1 s0 s1 := by
  have h5 := h.o5
  have h6 := h.o6
  have h8 := h.o8
  have h9 := h.o9
  have n5 : g5 ≠ g := by omega
  have n6 : g6 ≠ g := by omega
  have n8 : g8 ≠ g := by omega
  have n9 : g9 ≠ g := by omega
  have hw : w.heap.size ≤ g := by omega
  exact ⟨below_set (below_set (below_set (below_set h.B hw) hw) hw) hw, blk_far (blk_far (blk_far (blk_far h.c5 n5 _) n5 _) n5 _) n5 _, blk_far (blk_far (blk_far (blk_far h.c6 n6 _) n6 _) n6 _) n6 _, blk_far (blk_far (blk_far (blk_far h.c8 n8 _) n8 _) n8 _) n8 _, blk_far (blk_far (blk_far (blk_far h.c9 n9 _) n9 _) n9 _) n9 _,
    Kd.V_mono (Kd.V_far (Kd.V_far (Kd.V_far (Kd.V_far hv (fun k hk => hk.2) _) (fun k hk => hk.2) _) (fun k hk => hk.2) _) (fun k hk => hk.2) _) (fun k hk => hk.1), h5, h6, h8, h9⟩
theorem kinds4 {x : Int} (h0 : 0 ≤ x) (h1 : x ≤ 255) : (wrap64 x).tmod 4 = 0 ∨ (wrap64 x).tmod 4 = 1 ∨ (wrap64 x).tmod 4 = 2 ∨ (wrap64 x).tmod 4 = 3 := by
  have h2 : wrap64 x = x := wr64 ⟨by omega, by omega⟩
  rw [h2, Int.tmod_eq_emod_of_nonneg h0]
  omega
theorem fi_size {L : List S61} {n al su : ByteArray} (hf : FormedR 4096 L) (h : FI L n al su) : al.size ≤ 4096 := by
  rcases h with ⟨x, hx, _, h2, _⟩ | ⟨_, h2, _⟩
  · obtain ⟨i, hi, rfl⟩ := List.mem_iff_getElem.1 hx
    have h1 := tot_at L i hi
    rw [rd_get L i hi] at h1
    have := hf.2.2.2.2
    rw [← h2, str_size]
    omega
  · rw [h2]
    decide
theorem si_size {L : List S61} {a0 a1 s0 s1 : ByteArray} (h : SI L a0 a1 s0 s1) : a0.size ≤ 4096 ∧ a1.size ≤ 4096 := ⟨fi_size h.1 h.2.2.1, fi_size h.1 h.2.2.2⟩
theorem do_none (A : Option Addr) (c : Nat) (L : List S61) (kind : Int) (name nto : ByteArray) (r1 : Int) (r2 : List S61) (r3 : Int) (w : World) (hr : Kd.C k61 w A L.length L) (hc : L.length ≤ c) (h : store_Do.f 4096 L kind name nto [] = some (r1, r2, r3)) :
    Calls Try.prog 12 #[.agg #[.int .i64 4096, .slice A L.length c], .agg #[.int .i64 kind, .string name, .string nto, .slice none 0 0]] w fun e w' => ∃ v1_ : Value, e = .returned (.tuple #[.agg #[.int .i64 r1, v1_], .int .i64 r3]) ∧ Kd.V k61 61 w' w.heap.size (fun k_ => w.heap.size ≤ k_) v1_ r2 ∧ Below w.heap.size w w' :=
  store_Do.calls 4096 A c L kind name nto none 0 [] r1 r2 r3 w hr hc (Kd.C_nil _ _) (Nat.le_refl _) h
end Go.Proofs.Ytopjdjljpkcdlaa.U
