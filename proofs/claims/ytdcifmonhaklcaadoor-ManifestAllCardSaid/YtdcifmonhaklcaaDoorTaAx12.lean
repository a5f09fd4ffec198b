/- Walks: each Go function told here comes to what the plain function beside it says, wherever that one answers. -/
import Derived.Test.YtdcifmonhaklcaaDoorTaAx0
import Derived.Test.YtdcifmonhaklcaaDoorTaAx11
namespace Go.Proofs.YtdcifmonhaklcaaDoor.A
open Go.RowKit YtdcifmonhaklcaaDoorW.PrintWords YtdcifmonhaklcaaDoorW.PrintLast YtdcifmonhaklcaaDoorW.PrintMore
attribute [local go_sem] max2_int min2_int max_two min_two
set_option linter.unusedVariables false
set_option linter.unusedSimpArgs false
section
variable {P : Program} {ops : Array Oper} {rest : List Oper} {o : Oper} {a : Act} {Q : Exit → Act → World → Prop}
theorem append_step {K : Act → World → Prop} {E : Prop} (w : World) (hg : o.guard = none) (d s : Operand) (t t' : TypeId) (ho : o.op = .call { callee := .builtin .append, args := #[d, s], argTypes := #[t, t'] }) (v u : Value) (hd : a.eval d = v) (hs : a.eval s = u) {v' : Value} {w' : World}
  (hr : (Builtin.append_ #[t, t'] o.type #[v, u]).run P w = .ok v' w') (h : K (a.put o.dst v') w') : if Region.wanted o (yielded ops a.tmps) = true then Oper.wp P o a w K Q else E := by
 have hw : Region.wanted o (yielded ops a.tmps) = true := by simp [Region.wanted, hg]
 rw [if_pos hw]
 unfold Oper.wp execOp
 simp only [ho, resolve, invoke, builtin, Sem.run_bind, Sem.run_pure, Result.andThen_ok, List.map_toArray, List.map_cons, List.map_nil, hd, hs, hr]
 exact h
theorem clear_event (w : World) (hgd : o.guard = none) (s : Operand) (t : TypeId) (ho : o.op = .call { callee := .builtin .clear, args := #[s], argTypes := #[t] }) (u : Value) (hs : a.eval s = u) {v' : Value} {w' : World}
  (hr : (Builtin.clear_ #[t] o.type #[u]).run P w = .ok v' w') (h : wpList P ops Q rest (a.put o.dst v') w') : wpList P ops Q (o :: rest) a w := by
 refine wpList_plain hgd fun K hK => ?_
 unfold Oper.wp execOp
 simp only [ho, resolve, invoke, builtin, Sem.run_bind, Sem.run_pure, Result.andThen_ok, List.map_toArray, List.map_cons, List.map_nil, hs, hr]
 exact hK _ _ h
end
set_option maxRecDepth 100000 in
theorem run_clear1 (w : World) (ty : TypeId) (g o c : Nat) (cur : Array Value) (hh : w.heap[g]? = some (.cells cur 84 (0, 0))) (hfit : o + 3 ≤ cur.size) :
  (Builtin.clear_ #[48] ty #[.slice (some ⟨g, o, none⟩) 1 c]).run Tryd.prog w = .ok (.tuple #[]) (w.setCells g o [.string ⟨#[]⟩, .slice none 0 0, .int .i64 0]) := by
 obtain ⟨i0, hi0, hz0⟩ := Option.map_eq_some_iff.1 info84
 injection hz0 with hz1 hz2
 have hst := run_storeCells_cells (P := Tryd.prog) g o [.string ⟨#[]⟩, .slice none 0 0, .int .i64 0] 0 w (fun j hj => by rw [blk_cell hh]; simp at hj ⊢; omega) (fun j _ => blk_frozen hh _) (fun v hv => by simp at hv; rcases hv with rfl | rfl | rfl <;> rfl)
 rw [Nat.add_zero] at hst
 have hzc : (Builtin.zeroCells (Value.agg #[.string ⟨#[]⟩, .slice none 0 0, .int .i64 0]).cells 1).toList = [.string ⟨#[]⟩, .slice none 0 0, .int .i64 0] := by simp [Builtin.zeroCells, Value.cells, List.range_succ]
 simp [Builtin.clear_, run_underlying Tryd.underlying48, zeroValue, typeInfo, hi0, hz1, hzc, hst]
theorem raw_past {W : World} {base g m cap : Nat} {rows : List (List Value)} {vs : List Value} (h : Raw3 W base (.slice (some ⟨g, 0, none⟩) m cap) rows) (hm : m < cap) (hv : vs.length = 3) : Raw3 (W.setCells g (m * 3) vs) base (.slice (some ⟨g, 0, none⟩) m cap) rows := by
 have hmr := (Kd.R_reads' h).1
 obtain ⟨inner, ho, hr⟩ := raw_open h
 rcases ho.2 with ⟨hv', _⟩ | ⟨g', cap', cur, hv', hb, hh, hnc, hcm, hcs, htk⟩
 ·cases hv'
 injection hv' with hv1 _ hv3
 injection hv1 with hv1
 injection hv1 with hv1
 subst hv1
 subst hv3
 have hfit : m * 3 + vs.length ≤ cur.size := by rw [hv, hcs]; omega
 have hN := setCells_splice vs (m * 3) W cur hh hfit
 have hmk := raw_make (rows := rows) (inner := inner) hb hN hnc hcm (by simp; omega) (by
  rw [← htk, ← hmr, List.append_assoc]
  exact List.take_left' (by rw [List.length_take, Array.length_toList]; omega)) hr
 rw [← hmr] at hmk
 exact hmk
set_option maxHeartbeats 4000000 in
set_option maxRecDepth 100000 in
theorem delete_raw (base i n g cap : Nat) (rows : List (List Value)) (w : World) (HO : Raw3 w base (.slice (some ⟨g, 0, none⟩) n cap) rows) (hi : i < n) (hl : n < 1048576) :
  Calls Tryd.prog 54 #[.slice (some ⟨g, 0, none⟩) n cap, .int .i64 i, .int .i64 ((i + 1 : Nat) : Int)] w fun e w' => e = .returned (.slice (some ⟨g, 0, none⟩) (n - 1) cap) ∧ Raw3 w' base (.slice (some ⟨g, 0, none⟩) (n - 1) cap) (rows.eraseIdx i) ∧ w.grownBy w' (some g) := by
 have hnc := (Kd.R_reads' HO).2.1
 obtain ⟨i0, hi0, hsz⟩ := Option.map_eq_some_iff.1 info84s
 have hne : decide ((i : Int) = (i : Int) + 1) = false := decide_eq_false (by omega)
 have hci : ¬ (cap = i) := by omega
 by_cases hcap : cap = i + 1
 ·subst hcap
  obtain rfl : n = i + 1 := by omega
  obtain ⟨w1, hrun, hO1, hg1⟩ := Kd.R_delete_run (P := Tryd.prog) (Kd.raw 3) (n := i + 1) (c := i + 1) (W := w.drew) base 48 48 84 i0 Tryd.underlying48 hi0 hsz (Kd.R_drew HO) hi (A := some ⟨g, 0, none⟩) (by rw [if_pos rfl]) (i + 1 - (i + 1))
  simp only [Nat.sub_self, Nat.add_sub_cancel] at hrun hO1
  have HRUN := Aside0.mk hrun
  have HO1 := Aside0.mk hO1
  have HG1 := Aside0.mk hg1
  have hown := (raw_open hO1).choose_spec.1
  obtain ⟨cur, hcur, hcsz⟩ : ∃ cur, w1.heap[g]? = some (.cells cur 84 (0, 0)) ∧ cur.size = (i + 1) * 3 := by
   rcases hown.2 with ⟨hv', _⟩ | ⟨g', cap', cur, hv', _, hh, _, _, hcs, _⟩
   ·cases hv'
   injection hv' with hv1 _ hv3
   injection hv1 with hv1
   injection hv1 with hv1
   subst hv1
   subst hv3
   exact ⟨cur, hh, hcs⟩
  have HCL := Aside0.mk (fun ty c => run_clear1 w1 ty g (i * 3) c cur hcur (by omega))
  clear hrun hO1 hg1 hown hcur hcsz HO
  have hic1 : (i : Int) ≤ (i : Int) + 1 := by omega
  have hi2 : (0 : Int) ≤ (i : Int) + 1 := by omega
  go_enter Tryd.func54, Tryd.ntmps54
  go_wp2
  refine start_ (n := 8) (S := fun w' => True) (ds := []) #[false, false, false, false, false, false, false, false] (by kernel_rfl) rfl rfl trivial (fun hHeld => ?_)
  refine pure_ (i := 0) (N := some 20) (v := ?_) (a' := ?_) #[true, false, false, false, false, false, false, false] rfl rfl (by kernel_rfl) (fun _ _ _ h => h) (Or.inl ⟨by rfl, ?_⟩) ?_ ?_
  rotate_left
  ·intro w'
   go_simp
   with_reducible rfl
  rotate_left
  ·simp only [Act.put, List.setIfInBounds_toArray, List.set_cons_zero, List.set_cons_succ, i64_w, i32_w]
   rfl
  refine pure_ (i := 1) (N := some 21) (v := ?_) (a' := ?_) #[true, true, false, false, false, false, false, false] rfl rfl (by kernel_rfl) (fun _ _ _ h => h) (Or.inl ⟨by rfl, ?_⟩) ?_ ?_
  rotate_left
  ·intro w'
   go_simp
   with_reducible rfl
  rotate_left
  ·simp only [Act.put, List.setIfInBounds_toArray, List.set_cons_zero, List.set_cons_succ, i64_w, i32_w]
   rfl
  refine pure_ (i := 2) (N := some 22) (v := ?_) (a' := ?_) #[true, true, true, false, false, false, false, false] rfl rfl (by kernel_rfl) (fun _ _ _ h => h) (Or.inl ⟨by rfl, ?_⟩) ?_ ?_
  rotate_left
  ·intro w'
   go_simp
   with_reducible rfl
  rotate_left
  ·simp only [Act.put, List.setIfInBounds_toArray, List.set_cons_zero, List.set_cons_succ, i64_w, i32_w]
   rfl
  refine pure_ (i := 3) (N := some 23) (v := ?_) (a' := ?_) #[true, true, true, true, false, false, false, false] rfl rfl (by kernel_rfl) (fun _ _ _ h => h) (Or.inl ⟨by rfl, ?_⟩) ?_ ?_
  rotate_left
  ·intro w'
   go_simp
   with_reducible rfl
  rotate_left
  ·simp only [Act.put, List.setIfInBounds_toArray, List.set_cons_zero, List.set_cons_succ, i64_w, i32_w]
   rfl
  refine pure_ (i := 4) (N := some 24) (v := ?_) (a' := ?_) #[true, true, true, true, true, false, false, false] rfl rfl (by kernel_rfl) (fun _ _ _ h => h) (Or.inl ⟨by rfl, ?_⟩) ?_ ?_
  rotate_left
  ·intro w'
   go_simp
   with_reducible rfl
  rotate_left
  ·simp only [Act.put, List.setIfInBounds_toArray, List.set_cons_zero, List.set_cons_succ, i64_w, i32_w]
   rfl
  refine pure_ (i := 5) (N := some 25) (v := ?_) (a' := ?_) #[true, true, true, true, true, true, false, false] rfl rfl (by kernel_rfl) (fun _ _ _ h => h) (Or.inl ⟨by rfl, ?_⟩) ?_ ?_
  rotate_left
  ·intro w'
   go_simp
   with_reducible rfl
  rotate_left
  ·simp only [Act.put, List.setIfInBounds_toArray, List.set_cons_zero, List.set_cons_succ, i64_w, i32_w]
   rfl
  refine one_ (i := 6) (N := some 26) #[true, true, true, true, true, true, true, false] rfl rfl (by kernel_rfl) (by decide) (fun K hK => ?_)
  refine append_step _ rfl (.tmp 22) (.tmp 25) 48 48 rfl _ _ rfl rfl HRUN.out ?_
  refine hK.out _ _ trivial (fun hHeld => ?_)
  clear hK K
  refine norm_ (a' := ?_) ?_ ?_
  rotate_left
  ·show Act.put _ (some 26) _ = _
   simp only [Act.put, List.setIfInBounds_toArray, List.set_cons_zero, List.set_cons_succ, i64_w, i32_w]
   rfl
  refine pure_ (i := 7) (N := some 0) (v := ?_) (a' := ?_) #[true, true, true, true, true, true, true, true] rfl rfl (by kernel_rfl) (fun _ _ _ h => h) (Or.inl ⟨by rfl, ?_⟩) ?_ ?_
  rotate_left
  ·intro w'
   go_simp
   with_reducible rfl
  rotate_left
  ·simp only [Act.put, List.setIfInBounds_toArray, List.set_cons_zero, List.set_cons_succ, i64_w, i32_w]
   rfl
  refine done_ (by kernel_rfl) ?_
  go_wp2_with (first | ((with_reducible refine gate_builtin (b := .clear) (xs := #[.tmp 31]) rfl ?_); refine clear_event _ rfl (.tmp 31) 48 rfl _ rfl (HCL.out _ _) ?_))
  go_ret
  exact ⟨rfl, raw_past HO1.out (by omega) rfl, World.grownBy.trans ⟨HG1.out.os, HG1.out.tape, HG1.out.output, HG1.out.size, HG1.out.block⟩ grown_setCells⟩
 ·have hk1 : ¬ (cap = i + 1) := hcap
  obtain ⟨w1, hrun, hO1, hg1⟩ := Kd.R_delete_run (P := Tryd.prog) (Kd.raw 3) (W := w.drew) base 48 48 84 i0 Tryd.underlying48 hi0 hsz (Kd.R_drew HO) hi (A := some ⟨g, (i + 1) * 3, none⟩) (by rw [if_neg hcap]; simp [add_plain]; rfl) (cap - (i + 1))
  have HRUN := Aside0.mk hrun
  have HO1 := Aside0.mk hO1
  have HG1 := Aside0.mk hg1
  have hown := (raw_open hO1).choose_spec.1
  obtain ⟨cur, hcur, hcsz⟩ : ∃ cur, w1.heap[g]? = some (.cells cur 84 (0, 0)) ∧ cur.size = cap * 3 := by
   rcases hown.2 with ⟨hv', _⟩ | ⟨g', cap', cur, hv', _, hh, _, _, hcs, _⟩
   ·cases hv'
   injection hv' with hv1 _ hv3
   injection hv1 with hv1
   injection hv1 with hv1
   subst hv1
   subst hv3
   exact ⟨cur, hh, hcs⟩
  have HCL := Aside0.mk (fun ty c => run_clear1 w1 ty g ((n - 1) * 3) c cur hcur (by omega))
  clear hrun hO1 hg1 hown hcur hcsz HO
  have hcn : ¬ (cap = n - 1) := by omega
  have hic : i ≤ cap := by omega
  have hic1 : (i : Int) ≤ (i : Int) + 1 := by omega
  have hb1 : (n : Int) - 1 = ((n - 1 : Nat) : Int) := by omega
  have hsub : n - (n - 1) = 1 := by omega
  have hle : n - 1 ≤ n := by omega
  have hn1 : ((n - 1 : Nat) : Int) ≤ (n : Int) := by omega
  have hi1 : ((i : Int) + 1 ≤ (n : Int)) := by omega
  have hi2 : (0 : Int) ≤ (i : Int) + 1 := by omega
  go_enter Tryd.func54, Tryd.ntmps54
  go_wp2
  refine start_ (n := 8) (S := fun w' => True) (ds := []) #[false, false, false, false, false, false, false, false] (by kernel_rfl) rfl rfl trivial (fun hHeld => ?_)
  refine pure_ (i := 0) (N := some 20) (v := ?_) (a' := ?_) #[true, false, false, false, false, false, false, false] rfl rfl (by kernel_rfl) (fun _ _ _ h => h) (Or.inl ⟨by rfl, ?_⟩) ?_ ?_
  rotate_left
  ·intro w'
   go_simp
   with_reducible rfl
  rotate_left
  ·simp only [Act.put, List.setIfInBounds_toArray, List.set_cons_zero, List.set_cons_succ, i64_w, i32_w]
   rfl
  refine pure_ (i := 1) (N := some 21) (v := ?_) (a' := ?_) #[true, true, false, false, false, false, false, false] rfl rfl (by kernel_rfl) (fun _ _ _ h => h) (Or.inl ⟨by rfl, ?_⟩) ?_ ?_
  rotate_left
  ·intro w'
   go_simp
   with_reducible rfl
  rotate_left
  ·simp only [Act.put, List.setIfInBounds_toArray, List.set_cons_zero, List.set_cons_succ, i64_w, i32_w]
   rfl
  refine pure_ (i := 2) (N := some 22) (v := ?_) (a' := ?_) #[true, true, true, false, false, false, false, false] rfl rfl (by kernel_rfl) (fun _ _ _ h => h) (Or.inl ⟨by rfl, ?_⟩) ?_ ?_
  rotate_left
  ·intro w'
   go_simp
   with_reducible rfl
  rotate_left
  ·simp only [Act.put, List.setIfInBounds_toArray, List.set_cons_zero, List.set_cons_succ, i64_w, i32_w]
   rfl
  refine pure_ (i := 3) (N := some 23) (v := ?_) (a' := ?_) #[true, true, true, true, false, false, false, false] rfl rfl (by kernel_rfl) (fun _ _ _ h => h) (Or.inl ⟨by rfl, ?_⟩) ?_ ?_
  rotate_left
  ·intro w'
   go_simp
   with_reducible rfl
  rotate_left
  ·simp only [Act.put, List.setIfInBounds_toArray, List.set_cons_zero, List.set_cons_succ, i64_w, i32_w]
   rfl
  refine pure_ (i := 4) (N := some 24) (v := ?_) (a' := ?_) #[true, true, true, true, true, false, false, false] rfl rfl (by kernel_rfl) (fun _ _ _ h => h) (Or.inl ⟨by rfl, ?_⟩) ?_ ?_
  rotate_left
  ·intro w'
   go_simp
   with_reducible rfl
  rotate_left
  ·simp only [Act.put, List.setIfInBounds_toArray, List.set_cons_zero, List.set_cons_succ, i64_w, i32_w]
   rfl
  refine pure_ (i := 5) (N := some 25) (v := ?_) (a' := ?_) #[true, true, true, true, true, true, false, false] rfl rfl (by kernel_rfl) (fun _ _ _ h => h) (Or.inl ⟨by rfl, ?_⟩) ?_ ?_
  rotate_left
  ·intro w'
   go_simp
   with_reducible rfl
  rotate_left
  ·simp only [Act.put, List.setIfInBounds_toArray, List.set_cons_zero, List.set_cons_succ, i64_w, i32_w]
   rfl
  refine one_ (i := 6) (N := some 26) #[true, true, true, true, true, true, true, false] rfl rfl (by kernel_rfl) (by decide) (fun K hK => ?_)
  refine append_step _ rfl (.tmp 22) (.tmp 25) 48 48 rfl _ _ rfl rfl HRUN.out ?_
  refine hK.out _ _ trivial (fun hHeld => ?_)
  clear hK K
  refine norm_ (a' := ?_) ?_ ?_
  rotate_left
  ·show Act.put _ (some 26) _ = _
   simp only [Act.put, List.setIfInBounds_toArray, List.set_cons_zero, List.set_cons_succ, i64_w, i32_w]
   rfl
  refine pure_ (i := 7) (N := some 0) (v := ?_) (a' := ?_) #[true, true, true, true, true, true, true, true] rfl rfl (by kernel_rfl) (fun _ _ _ h => h) (Or.inl ⟨by rfl, ?_⟩) ?_ ?_
  rotate_left
  ·intro w'
   go_simp
   with_reducible rfl
  rotate_left
  ·simp only [Act.put, List.setIfInBounds_toArray, List.set_cons_zero, List.set_cons_succ, i64_w, i32_w]
   rfl
  refine done_ (by kernel_rfl) ?_
  go_wp2_with (first | ((with_reducible refine gate_builtin (b := .clear) (xs := #[.tmp 31]) rfl ?_); refine clear_event _ rfl (.tmp 31) 48 rfl _ rfl (HCL.out _ _) ?_))
  go_ret
  exact ⟨rfl, raw_past HO1.out (by omega) rfl, World.grownBy.trans ⟨HG1.out.os, HG1.out.tape, HG1.out.output, HG1.out.size, HG1.out.block⟩ grown_setCells⟩
section
variable {α : Type} {d : Kd α} {e base n cap g : Nat} {ok okp : Nat → Prop} {w1 W : World} {v v1 : Value} {xs ys : List α}
theorem N_remade {rows rows' : List (List Value)} (h0 : ∀ k, v.ownBlock = some k → ok k) (hf : ∀ (j : Nat) (x : α) (c : List Value), xs[j]? = some x → rows[j]? = some c → Kd.FK d W (fun k => ok k ∧ some k ≠ v.ownBlock) x c)
  (hl : rows'.length = ys.length) (hp : ∀ (j : Nat) (y : α) (c : List Value), ys[j]? = some y → rows'[j]? = some c → (∃ i : Nat, xs[i]? = some y ∧ rows[i]? = some c) ∨ Kd.FK d W okp y c) (hokp : ∀ k, okp k → ok k ∧ some k ≠ v.ownBlock) (hfresh : ∀ k, W.heap.size ≤ k → ok k)
  (hR : (Kd.raw d.sz).R e w1 base (fun _ => True) v1 rows') (hg : W.grownBy w1 v.ownBlock) (hat : v1.ownBlock = v.ownBlock ∨ ∃ b, v1.ownBlock = some b ∧ W.heap.size ≤ b) : Kd.N d e w1 base ok v1 ys := by
 have hne : ∀ k, some k ≠ v.ownBlock → k < W.heap.size → some k ≠ v1.ownBlock := by
  intro k hk hlt
  rcases hat with hat | ⟨b, hb, hle⟩
  ·rw [hat]; exact hk
  ·rw [hb]
   intro he
   injection he with he
   omega
 have step : ∀ {x : α} {c : List Value} {o : Nat → Prop}, Kd.FK d W o x c → (∀ k, o k → ok k ∧ some k ≠ v.ownBlock) → Kd.FK d w1 (fun k => ok k ∧ some k ≠ v1.ownBlock) x c := by
  intro x c o hq ho
  exact Kd.FK_mono (Kd.FK_step (Kd.FK_bound hq) (fun k hk hlt => hg.block k hlt (ho k hk.1).2)) (fun k hk => ⟨(ho k hk.1).1, hne k (ho k hk.1).2 hk.2⟩)
 refine ⟨fun k hk => ?_, rows', hl, Kd.raw_tight hR, fun j x c hx hc => ?_⟩
 ·rcases hat with hat | ⟨b, hb, hle⟩
  ·exact h0 k (hat ▸ hk)
  ·rw [hb] at hk
   injection hk with hk
   exact hfresh k (by omega)
 ·rcases hp j x c hx hc with ⟨i, h1, h2⟩ | h1
  ·exact step (hf i x c h1 h2) (fun _ hk => hk)
  ·exact step h1 hokp
end
theorem pair_at {α β : Type} {xs : List α} {rows : List β} {i : Nat} (hl : rows.length = xs.length) (hi : i ≤ xs.length) (x : α) (r : β) (j : Nat) (y : α) (c : β) (hy : (xs.take i ++ x :: xs.drop i)[j]? = some y) (hc : (rows.take i ++ r :: rows.drop i)[j]? = some c) :
  (∃ q : Nat, xs[q]? = some y ∧ rows[q]? = some c) ∨ (y = x ∧ c = r) := by
 have h1 : (xs.take i).length = i := by rw [List.length_take]; omega
 have h2 : (rows.take i).length = i := by rw [List.length_take]; omega
 rcases Nat.lt_trichotomy j i with h | h | h
 ·rw [List.getElem?_append_left (by omega), List.getElem?_take, if_pos h] at hy hc
  exact .inl ⟨j, hy, hc⟩
 ·subst h
  rw [List.getElem?_append_right (by omega), h1, Nat.sub_self] at hy
  rw [List.getElem?_append_right (by omega), h2, Nat.sub_self] at hc
  exact .inr ⟨(Option.some.inj hy).symm, (Option.some.inj hc).symm⟩
 ·rw [List.getElem?_append_right (by omega), h1, show j - i = (j - i - 1) + 1 by omega, List.getElem?_cons_succ, List.getElem?_drop] at hy
  rw [List.getElem?_append_right (by omega), h2, show j - i = (j - i - 1) + 1 by omega, List.getElem?_cons_succ, List.getElem?_drop] at hc
  exact .inl ⟨_, hy, hc⟩
theorem erase_at {α β : Type} {xs : List α} {rows : List β} {i : Nat} (j : Nat) (y : α) (c : β) (hy : (xs.eraseIdx i)[j]? = some y) (hc : (rows.eraseIdx i)[j]? = some c) : ∃ q : Nat, xs[q]? = some y ∧ rows[q]? = some c := by
 rw [List.getElem?_eraseIdx] at hy hc
 split at hy
 ·rename_i h
  rw [if_pos h] at hc
  exact ⟨j, hy, hc⟩
 ·rename_i h
  rw [if_neg h] at hc
  exact ⟨j + 1, hy, hc⟩
theorem insert_N (base i vb : Nat) (xs : List S84) (x : S84) (A1 : Option Addr) (c1 : Nat) (w : World) (v : Value) {ok okx : Nat → Prop} (HO : Kd.N k84 84 w base ok v xs) (hb : base ≤ w.heap.size)
  (hv : w.heap[vb]? = some (.cells #[.string x.f0, .slice A1 x.f1.length c1, .int .i64 x.f2] 84 (0, 0))) (hvb : some vb ≠ v.ownBlock) (hx : Kd.FK k84 w okx x [.string x.f0, .slice A1 x.f1.length c1, .int .i64 x.f2]) (hokx : ∀ k, okx k → ok k ∧ some k ≠ v.ownBlock)
  (hfresh : ∀ k, w.heap.size ≤ k → ok k) (hi : i ≤ xs.length) (hl : xs.length < 1048576) :
  Calls Tryd.prog 53 #[v, .int .i64 i, .slice (some ⟨vb, 0, none⟩) 1 1] w fun e w' => ∃ v' : Value, e = .returned v' ∧ Kd.N k84 84 w' base ok v' (xs.take i ++ x :: xs.drop i) ∧ w.grownBy w' v.ownBlock ∧ (v'.ownBlock = v.ownBlock ∨ ∃ b, v'.ownBlock = some b ∧ w.heap.size ≤ b) := by
 obtain ⟨h0, rows, hlr, hR, hf⟩ := HO
 refine (insert_raw base i vb rows _ _ _ w v (Kd.R_mono hR (fun _ _ => trivial)) hb hv (fun u hu => by simp at hu; rcases hu with rfl | rfl | rfl <;> rfl) hvb (by omega) (by omega)).mono ?_
 rintro e w' ⟨v', rfl, hR', hg, hat⟩
 refine ⟨v', rfl, N_remade h0 hf (by rw [List.length_append, List.length_append, List.length_cons, List.length_cons, List.length_take, List.length_take, List.length_drop, List.length_drop, hlr]) (fun j y c hy hc => ?_) hokx hfresh hR' hg hat, hg, hat⟩
 rcases pair_at hlr hi _ _ j y c hy hc with h | ⟨rfl, rfl⟩
 ·exact .inl h
 ·exact .inr hx
theorem delete_N (base i g n cap : Nat) (xs : List S84) (w : World) {ok : Nat → Prop} (HO : Kd.N k84 84 w base ok (.slice (some ⟨g, 0, none⟩) n cap) xs) (hfresh : ∀ k, w.heap.size ≤ k → ok k) (hi : i < n) (hl : n < 1048576) :
  Calls Tryd.prog 54 #[.slice (some ⟨g, 0, none⟩) n cap, .int .i64 i, .int .i64 ((i + 1 : Nat) : Int)] w fun e w' => e = .returned (.slice (some ⟨g, 0, none⟩) (n - 1) cap) ∧ Kd.N k84 84 w' base ok (.slice (some ⟨g, 0, none⟩) (n - 1) cap) (xs.eraseIdx i) ∧ w.grownBy w' (some g) := by
 obtain ⟨h0, rows, hlr, hR, hf⟩ := HO
 have hn := (Kd.R_reads' hR).1
 refine (delete_raw base i n g cap rows w (Kd.R_mono hR (fun _ _ => trivial)) hi hl).mono ?_
 rintro e w' ⟨rfl, hR', hg⟩
 exact ⟨rfl, N_remade (okp := fun _ => False) h0 hf (by rw [List.length_eraseIdx, List.length_eraseIdx, hlr]) (fun j y c hy hc => .inl (erase_at j y c hy hc)) (fun _ hk => hk.elim) hfresh hR' hg (.inl rfl), hg⟩
theorem delete_N1 (base i g n cap : Nat) (xs : List S84) (w : World) {ok : Nat → Prop} (HO : Kd.N k84 84 w base ok (.slice (some ⟨g, 0, none⟩) n cap) xs) (hfresh : ∀ k, w.heap.size ≤ k → ok k) (hi : i < n) (hl : n < 1048576) :
  Calls Tryd.prog 54 #[.slice (some ⟨g, 0, none⟩) n cap, .int .i64 i, .int .i64 ((i : Int) + 1)] w fun e w' => e = .returned (.slice (some ⟨g, 0, none⟩) (n - 1) cap) ∧ Kd.N k84 84 w' base ok (.slice (some ⟨g, 0, none⟩) (n - 1) cap) (xs.eraseIdx i) ∧ w.grownBy w' (some g) := by
 rw [show (i : Int) + 1 = ((i + 1 : Nat) : Int) from by omega]
 exact delete_N base i g n cap xs w HO hfresh hi hl
theorem put_at {α : Type} (l : List α) (i : Nat) (x z : α) (hi : i ≤ l.length) : (l.take i ++ x :: l.drop i).getD i z = x := by
 rw [List.getD_eq_getElem?_getD, List.getElem?_append_right (by rw [List.length_take]; omega), List.length_take, Nat.min_eq_left hi, Nat.sub_self]
 rfl
theorem insert_N2 (base i vb : Nat) (xs : List S84) (x : S84) (A1 : Option Addr) (c1 : Nat) (w : World) (v : Value) {ok okx : Nat → Prop} (HO : Kd.N k84 84 w base ok v xs) (hb : base ≤ w.heap.size)
  (hv : w.heap[vb]? = some (.cells #[.string x.f0, .slice A1 x.f1.length c1, .int .i64 x.f2] 84 (0, 0))) (hvb : some vb ≠ v.ownBlock) (hx : Kd.FK k84 w okx x [.string x.f0, .slice A1 x.f1.length c1, .int .i64 x.f2]) (hokx : ∀ k, okx k → ok k ∧ some k ≠ v.ownBlock)
  (hfresh : ∀ k, w.heap.size ≤ k → ok k) (hi : i ≤ xs.length) (hl : xs.length < 1048576) :
  Calls Tryd.prog 53 #[v, .int .i64 i, .slice (some ⟨vb, 0, none⟩) 1 1] w fun e w' => ∃ g' c', e = .returned (.slice (some ⟨g', 0, none⟩) (xs.take i ++ x :: xs.drop i).length c') ∧ Kd.N k84 84 w' base ok (.slice (some ⟨g', 0, none⟩) (xs.take i ++ x :: xs.drop i).length c') (xs.take i ++ x :: xs.drop i) ∧ w.grownBy w' v.ownBlock ∧ (some g' = v.ownBlock ∨ w.heap.size ≤ g') ∧
   w'.cell? ⟨g', i * 3 + 1, none⟩ = some (.slice A1 x.f1.length c1) := by
 obtain ⟨h0, rows, hlr, hR, hf⟩ := HO
 refine (insert_raw base i vb rows _ _ _ w v (Kd.R_mono hR (fun _ _ => trivial)) hb hv (fun u hu => by simp at hu; rcases hu with rfl | rfl | rfl <;> rfl) hvb (by omega) (by omega)).mono ?_
 rintro e w' ⟨v', rfl, hR', hg, hat⟩
 have hrl : (rows.take i ++ [Value.string x.f0, .slice A1 x.f1.length c1, .int .i64 x.f2] :: rows.drop i).length = (xs.take i ++ x :: xs.drop i).length := by rw [List.length_append, List.length_append, List.length_cons, List.length_cons, List.length_take, List.length_take, List.length_drop, List.length_drop, hlr]
 have hpos : 0 < (rows.take i ++ [Value.string x.f0, .slice A1 x.f1.length c1, .int .i64 x.f2] :: rows.drop i).length := by rw [List.length_append, List.length_cons]; omega
 obtain ⟨g', c', rfl, _, _, _⟩ := Kd.R_form hR' hpos
 have hN := N_remade h0 hf hrl (fun j y c hy hc => by
  rcases pair_at hlr hi _ _ j y c hy hc with h | ⟨rfl, rfl⟩
  ·exact .inl h
  ·exact .inr hx) hokx hfresh hR' hg hat
 obtain ⟨c, hcl, hM, hcc, _⟩ := Kd.R_elem hR' [] (i : Int) (by omega) (by rw [List.length_append, List.length_cons, List.length_take, List.length_drop]; omega)
 rw [Int.toNat_natCast, put_at rows i _ _ (by omega)] at hM
 rw [hrl] at hN
 refine ⟨g', c', by rw [hrl], hN, hg, ?_, ?_⟩
 ·rcases hat with hat | ⟨b, hb1, hb2⟩
  ·exact .inl hat
  ·right
   injection hb1 with hb1
   have hb3 : g' = b := hb1
   omega
 ·rw [hM.1] at hcc
  exact hcc 1 _ rfl
def totS (l : List S84) : Int := (l.map fun x => (x.f1.length : Int)).sum
def okF (l : List S84) (i : Nat) : Prop := (1 ≤ (rd_T84 l i).f0.size ∧ (rd_T84 l i).f0.size ≤ 32) ∧ 0 ≤ (rd_T84 l i).f2 ∧ (rd_T84 l i).f2 ≤ (rd_T84 l i).f1.length ∧ (0 < i → Go.Op.bytesLess (rd_T84 l ((i : Int) - 1)).f0.toList (rd_T84 l i).f0.toList = true) ∧ (rd_T84 l i).f1.length ≤ 67108864 ∧ totS (l.take i) ≤ 67108864
instance (l : List S84) (i : Nat) : Decidable (okF l i) := by unfold okF; exact inferInstance
def FormedR (room : Int) (l : List S84) : Prop := (∀ i, i < l.length → okF l i) ∧ 0 ≤ room ∧ room ≤ 67108864 ∧ l.length ≤ 256 ∧ totS l ≤ room
instance (room : Int) (l : List S84) : Decidable (FormedR room l) := by unfold FormedR; exact inferInstance
theorem tot_snoc (l : List S84) (i : Nat) (h : i < l.length) : totS (l.take (i + 1)) = totS (l.take i) + ((rd_T84 l (i : Int)).f1.length : Int) := by
 unfold totS rd_T84
 rw [List.take_succ_eq_append_getElem h, List.map_append, List.sum_append]
 simp [List.getD_eq_getElem?_getD, h]
end Go.Proofs.YtdcifmonhaklcaaDoor.A
