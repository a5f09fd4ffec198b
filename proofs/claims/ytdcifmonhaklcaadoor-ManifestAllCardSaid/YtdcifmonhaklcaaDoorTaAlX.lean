/- Walks by hand. -/
import Derived.Test.YtdcifmonhaklcaaDoorTaPlA1
namespace Go.Proofs.YtdcifmonhaklcaaDoor.A
open Go.RowKit YtdcifmonhaklcaaDoorW.PrintWords YtdcifmonhaklcaaDoorW.PrintLast YtdcifmonhaklcaaDoorW.PrintMore
attribute [local go_sem] max2_int min2_int max_two min_two
set_option linter.unusedVariables false
set_option linter.unusedSimpArgs false
structure AX (w W : World) (N g3 g4 g7 : Nat) (room : Int) (A : Option Addr) (c : Nat) (L : List S84) (A4 : Option Addr) (d4 : Nat) (rl : List S63) (cn cs : Int) (A7 : Option Addr) (d7 : Nat) (rs : List S63) (nx sq : Int) (A8 : Option Addr) (d8 : Nat) (ops : List S60) : Prop where
 B : Below w.heap.size w W
 c3 : W.heap[g3]? = some (.cells #[.int .i64 room, .slice A L.length c] 50 (0, 0))
 c4 : W.heap[g4]? = some (.cells #[.slice A4 rl.length d4, .int .i64 cn, .int .i64 cs] 27 (0, 0))
 c7 : W.heap[g7]? = some (.cells #[.slice A7 rs.length d7, .int .i64 nx, .int .i64 sq] 27 (0, 0))
 hL : Kd.V k84 84 W 0 (fun k => (k ≠ g3 ∧ k ≠ g4) ∧ k < N) (.slice A L.length c) L
 hR : Kd.V k63 63 W 0 (fun k => (k ≠ g3 ∧ k ≠ g4) ∧ k < N) (.slice A4 rl.length d4) rl
 hS : Kd.V k63 63 W 0 (fun k => (k ≠ g3 ∧ k ≠ g4) ∧ k < N) (.slice A7 rs.length d7) rs
 hO : Kd.V k60 60 W 0 (fun k => (k ≠ g3 ∧ k ≠ g4) ∧ k < N) (.slice A8 ops.length d8) ops
 o3 : w.heap.size ≤ g3
 o4 : g3 < g4
 o7 : g4 < g7
 oN : g7 < N ∧ N ≤ W.heap.size
section
variable {w W W1 : World} {N g3 g4 g7 : Nat} {room : Int} {A : Option Addr} {c : Nat} {L : List S84} {A4 : Option Addr} {d4 : Nat} {rl : List S63} {cn cs : Int} {A7 : Option Addr} {d7 : Nat} {rs : List S63} {nx sq : Int} {A8 : Option Addr} {d8 : Nat} {ops : List S60}
theorem AX.step (h : AX w W N g3 g4 g7 room A c L A4 d4 rl cn cs A7 d7 rs nx sq A8 d8 ops) (hb : Below W.heap.size W W1) : AX w W1 N g3 g4 g7 room A c L A4 d4 rl cn cs A7 d7 rs nx sq A8 d8 ops :=
 ⟨below_step h.B hb, blk_below h.c3 hb, blk_below h.c4 hb, blk_below h.c7 hb, Kd.V_below h.hL hb, Kd.V_below h.hR hb, Kd.V_below h.hS hb, Kd.V_below h.hO hb, h.o3, h.o4, h.o7, h.oN.1, Nat.le_trans h.oN.2 hb.size⟩
theorem AX.drew (h : AX w W N g3 g4 g7 room A c L A4 d4 rl cn cs A7 d7 rs nx sq A8 d8 ops) : AX w W.drew N g3 g4 g7 room A c L A4 d4 rl cn cs A7 d7 rs nx sq A8 d8 ops := h.step (below_drew1 (Below.refl _ _))
theorem AX.reads (h : AX w W N g3 g4 g7 room A c L A4 d4 rl cn cs A7 d7 rs nx sq A8 d8 ops) : Kd.C k84 W A L.length L := (Kd.V_reads' h.hL).2.2
theorem AX.cap (h : AX w W N g3 g4 g7 room A c L A4 d4 rl cn cs A7 d7 rs nx sq A8 d8 ops) : L.length ≤ c := (Kd.V_reads' h.hL).2.1
theorem AX.up (h : AX w W N g3 g4 g7 room A c L A4 d4 rl cn cs A7 d7 rs nx sq A8 d8 ops) : AX w W W.heap.size g3 g4 g7 room A c L A4 d4 rl cn cs A7 d7 rs nx sq A8 d8 ops :=
 ⟨h.B, h.c3, h.c4, h.c7, Kd.V_mono (Kd.V_bound h.hL) (fun _ hk => ⟨hk.1.1, hk.2⟩), Kd.V_mono (Kd.V_bound h.hR) (fun _ hk => ⟨hk.1.1, hk.2⟩), Kd.V_mono (Kd.V_bound h.hS) (fun _ hk => ⟨hk.1.1, hk.2⟩), Kd.V_mono (Kd.V_bound h.hO) (fun _ hk => ⟨hk.1.1, hk.2⟩), h.o3, h.o4, h.o7, Nat.lt_of_lt_of_le h.oN.1 h.oN.2, Nat.le_refl _⟩
theorem AX.over (h : AX w W N g3 g4 g7 room A c L A4 d4 rl cn cs A7 d7 rs nx sq A8 d8 ops) {row : Option Nat} (hr : ∀ k, row = some k → N ≤ k) (hb : Below w.heap.size w W1) (hg : W.grownBy W1 row) : AX w W1 N g3 g4 g7 room A c L A4 d4 rl cn cs A7 d7 rs nx sq A8 d8 ops := by
 have h3 := h.o3
 have h4 := h.o4
 have h7 := h.o7
 have hn := h.oN
 have ne : ∀ k, k < N → some k ≠ row := fun k hk e => by have := hr k e.symm; omega
 exact ⟨hb, blk_grown h.c3 hg (ne _ (by omega)), blk_grown h.c4 hg (ne _ (by omega)), blk_grown h.c7 hg (ne _ hn.1), Kd.V_grown h.hL hg (fun k hk => ne k hk.2), Kd.V_grown h.hR hg (fun k hk => ne k hk.2), Kd.V_grown h.hS hg (fun k hk => ne k hk.2), Kd.V_grown h.hO hg (fun k hk => ne k hk.2), h3, h4, h7, hn.1, Nat.le_trans hn.2 hg.size⟩
theorem AX.new3 (h : AX w W N g3 g4 g7 room A c L A4 d4 rl cn cs A7 d7 rs nx sq A8 d8 ops) {A2 : Option Addr} {c2 : Nat} {L2 : List S84} (hv : Kd.V k84 84 W 0 (fun k => g7 < k) (.slice A2 L2.length c2) L2) : AX w ((W.setCell ⟨g3, 0, none⟩ (.int .i64 room)).setCell ⟨g3, 1, none⟩ (.slice A2 L2.length c2)) W.heap.size g3 g4 g7 room A2 c2 L2 A4 d4 rl cn cs A7 d7 rs nx sq A8 d8 ops := by
 have h3 := h.o3
 have h4 := h.o4
 have h7 := h.o7
 have hu := h.up
 have f : ∀ k, (k ≠ g3 ∧ k ≠ g4) ∧ k < W.heap.size → k ≠ g3 := fun k hk => hk.1.1
 refine ⟨below_set (below_set h.B h3) h3, blk_put (blk_put h.c3 0 _ rfl) 1 _ rfl, blk_far (blk_far h.c4 (show g4 ≠ g3 by omega) _) (show g4 ≠ g3 by omega) _, blk_far (blk_far h.c7 (show g7 ≠ g3 by omega) _) (show g7 ≠ g3 by omega) _, ?_, Kd.V_far (Kd.V_far hu.hR f _) f _, Kd.V_far (Kd.V_far hu.hS f _) f _, Kd.V_far (Kd.V_far hu.hO f _) f _, h3, h4, h7, hu.oN.1, ?_⟩
 ·have hv2 := Kd.V_mono (Kd.V_bound hv) (ok' := fun k => (k ≠ g3 ∧ k ≠ g4) ∧ k < W.heap.size) (fun k hk => ⟨⟨by have := hk.1; omega, by have := hk.1; omega⟩, hk.2⟩)
  exact Kd.V_far (Kd.V_far hv2 f _) f _
 ·exact (((Below.refl 0 W).setCell (p := ⟨g3, 0, none⟩) (Nat.zero_le _) (.int .i64 room)).setCell (p := ⟨g3, 1, none⟩) (Nat.zero_le _) (.slice A2 L2.length c2)).size
theorem AX.new4 (h : AX w W N g3 g4 g7 room A c L A4 d4 rl cn cs A7 d7 rs nx sq A8 d8 ops) {A2 : Option Addr} {c2 : Nat} {rl2 : List S63} (hv : Kd.V k63 63 W 0 (fun k => g7 < k) (.slice A2 rl2.length c2) rl2) : AX w (W.setCell ⟨g4, 0, none⟩ (.slice A2 rl2.length c2)) W.heap.size g3 g4 g7 room A c L A2 c2 rl2 cn cs A7 d7 rs nx sq A8 d8 ops := by
 have h3 := h.o3
 have h4 := h.o4
 have h7 := h.o7
 have hu := h.up
 have f : ∀ k, (k ≠ g3 ∧ k ≠ g4) ∧ k < W.heap.size → k ≠ g4 := fun k hk => hk.1.2
 refine ⟨below_set h.B (by omega), blk_far h.c3 (show g3 ≠ g4 by omega) _, blk_put h.c4 0 _ rfl, blk_far h.c7 (show g7 ≠ g4 by omega) _, Kd.V_far hu.hL f _, ?_, Kd.V_far hu.hS f _, Kd.V_far hu.hO f _, h3, h4, h7, hu.oN.1, ?_⟩
 ·have hv2 := Kd.V_mono (Kd.V_bound hv) (ok' := fun k => (k ≠ g3 ∧ k ≠ g4) ∧ k < W.heap.size) (fun k hk => ⟨⟨by have := hk.1; omega, by have := hk.1; omega⟩, hk.2⟩)
  exact Kd.V_far hv2 f _
 ·exact ((Below.refl 0 W).setCell (p := ⟨g4, 0, none⟩) (Nat.zero_le _) (.slice A2 rl2.length c2)).size
theorem AX.newO (h : AX w W N g3 g4 g7 room A c L A4 d4 rl cn cs A7 d7 rs nx sq A8 d8 ops) {A2 : Option Addr} {c2 : Nat} {ops2 : List S60} (hv : Kd.V k60 60 W 0 (fun k => g7 < k) (.slice A2 ops2.length c2) ops2) : AX w W W.heap.size g3 g4 g7 room A c L A4 d4 rl cn cs A7 d7 rs nx sq A2 c2 ops2 := by
 have h4 := h.o4
 have h7 := h.o7
 have hu := h.up
 exact ⟨h.B, h.c3, h.c4, h.c7, hu.hL, hu.hR, hu.hS, Kd.V_mono (Kd.V_bound hv) (fun k hk => ⟨⟨by have := hk.1; omega, by have := hk.1; omega⟩, hk.2⟩), h.o3, h4, h7, hu.oN⟩
theorem AX.vis (h : AX w W N g3 g4 g7 room A c L A4 d4 rl cn cs A7 d7 rs nx sq A8 d8 ops) :
  W.cell? ⟨g3, 0, none⟩ = some (.int .i64 room) ∧ W.cell? ⟨g3, 1, none⟩ = some (.slice A L.length c) ∧ W.frozen? ⟨g3, 0, none⟩ = false ∧ W.frozen? ⟨g3, 1, none⟩ = false ∧ W.cell? ⟨g4, 0, none⟩ = some (.slice A4 rl.length d4) ∧ W.cell? ⟨g4, 1, none⟩ = some (.int .i64 cn) ∧ W.cell? ⟨g4, 2, none⟩ = some (.int .i64 cs) ∧ W.frozen? ⟨g4, 0, none⟩ = false ∧ W.cell? ⟨g7, 0, none⟩ = some (.slice A7 rs.length d7) ∧ W.cell? ⟨g7, 1, none⟩ = some (.int .i64 nx) ∧ W.cell? ⟨g7, 2, none⟩ = some (.int .i64 sq) :=
 ⟨(blk_cell h.c3 0).trans rfl, (blk_cell h.c3 1).trans rfl, blk_frozen h.c3 0, blk_frozen h.c3 1, (blk_cell h.c4 0).trans rfl, (blk_cell h.c4 1).trans rfl, (blk_cell h.c4 2).trans rfl, blk_frozen h.c4 0, (blk_cell h.c7 0).trans rfl, (blk_cell h.c7 1).trans rfl, (blk_cell h.c7 2).trans rfl⟩
end
end Go.Proofs.YtdcifmonhaklcaaDoor.A
