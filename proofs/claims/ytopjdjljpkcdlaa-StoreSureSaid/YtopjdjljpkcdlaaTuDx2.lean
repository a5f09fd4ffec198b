/- Walks: each Go function that is told here comes to what the plain function beside it says, wherever that one answers. Written by a program of this session (wip/tools/pr.sh), after the manner of print.sh. -/
import Derived.Test.YtopjdjljpkcdlaaTuDx0
import Derived.Test.YtopjdjljpkcdlaaTuDx1
namespace Go.Proofs.Ytopjdjljpkcdlaa.D
open Go.RowKit Go.Proofs.YtopjdjljpkcdlaaW.PrintWords Go.Proofs.YtopjdjljpkcdlaaW.PrintLast Go.Proofs.YtopjdjljpkcdlaaW.PrintMore
attribute [local go_sem] max2_int min2_int max_two min_two -- for this text's walks alone
set_option linter.unusedVariables false
set_option linter.unusedSimpArgs false
section
variable {P : Program} {ops : Array Oper} {rest : List Oper} {o : Oper} {a : Act} {Q : Exit → Act → World → Prop}
theorem append_step {K : Act → World → Prop} {E : Prop} (w : World) (hg : o.guard = none) (d s : Operand) (t t' : TypeId) (ho : o.op = .call { callee := .builtin .append, args := #[d, s], argTypes := #[t, t'] }) (v u : Value) (hd : a.eval d = v) (hs : a.eval s = u) {v' : Value} {w' : World}
    (hr : (Builtin.append_ #[t, t'] o.type #[v, u]).run P w = .ok v' w') (h : K (a.put o.dst v') w') : if Region.wanted o (yielded ops a.tmps) = true then Oper.wp P o a w K Q else E := by
  have hw : Region.wanted o (yielded ops a.tmps) = true := by simp [Region.wanted, hg]
  rw [if_pos hw]
  unfold Oper.wp execOp
  simp only [ho, resolve, invoke, builtin, Sem.run_bind, Sem.run_pure, Result.andThen_ok, List.map_toArray, List.map_cons, List.map_nil, hd, hs, hr]
  exact h
theorem clear_event (w : World) (hgd : o.guard = none) (s : Operand) (t : TypeId) (ho : o.op = .call { callee := .builtin .clear, args := #[s], argTypes := #[t] }) (u : Value) (hs : a.eval s = u) {v' : Value} {w' : World}
    (hr : (Builtin.clear_ #[t] o.type #[u]).run P w = .ok v' w') (h : wpList P ops Q rest (a.put o.dst v') w') : wpList P ops Q (o :: rest) a w := by
  refine wpList_plain hgd fun K hK => ?_
  unfold Oper.wp execOp
  simp only [ho, resolve, invoke, builtin, Sem.run_bind, Sem.run_pure, Result.andThen_ok, List.map_toArray, List.map_cons, List.map_nil, hs, hr]
  exact hK _ _ h
end
theorem run_clear1 (w : World) (ty : TypeId) (g o c : Nat) (cur : Array Value) (hh : w.heap[g]? = some (.cells cur 61 (0, 0))) (hfit : o + 3 ≤ cur.size) :
    (Builtin.clear_ #[22] ty #[.slice (some ⟨g, o, none⟩) 1 c]).run Try.prog w = .ok (.tuple #[]) (w.setCells g o [.string ⟨#[]⟩, .slice none 0 0, .int .i64 0]) := by
  obtain ⟨i0, hi0, hz0⟩ := Option.map_eq_some_iff.1 info61
  injection hz0 with hz1 hz2
  have hst := run_storeCells_cells (P := Try.prog) g o [.string ⟨#[]⟩, .slice none 0 0, .int .i64 0] 0 w (fun j hj => by rw [blk_cell hh]; simp at hj ⊢; omega) (fun j _ => blk_frozen hh _) (fun v hv => by simp at hv; rcases hv with rfl | rfl | rfl <;> rfl)
  rw [Nat.add_zero] at hst
  have hzc : (Builtin.zeroCells (Value.agg #[.string ⟨#[]⟩, .slice none 0 0, .int .i64 0]).cells 1).toList = [.string ⟨#[]⟩, .slice none 0 0, .int .i64 0] := by simp [Builtin.zeroCells, Value.cells, List.range_succ]
  simp [Builtin.clear_, run_underlying Try.underlying22, zeroValue, typeInfo, hi0, hz1, hzc, hst]
theorem raw_past {W : World} {base g m cap : Nat} {rows : List (List Value)} {vs : List Value} (h : Raw3 W base (.slice (some ⟨g, 0, none⟩) m cap) rows) (hm : m < cap) (hv : vs.length = 3) : Raw3 (W.setCells g (m * 3) vs) base (.slice (some ⟨g, 0, none⟩) m cap) rows := by
  have hmr := (Kd.R_reads' h).1
  obtain ⟨inner, ho, hr⟩ := raw_open h
  rcases ho.2 with ⟨hv', _⟩ | ⟨g', cap', cur, hv', hb, hh, hnc, hcm, hcs, htk⟩
  · cases hv'
  injection hv' with hv1 _ hv3
  injection hv1 with hv1
  injection hv1 with hv1
  subst hv1
  subst hv3
  have hfit : m * 3 + vs.length ≤ cur.size := by rw [hv, hcs]; omega
  have hN := setCells_splice vs (m * 3) W cur hh hfit
  have hmk := raw_make (rows := rows) (inner := inner) hb hN hnc hcm (by simp; omega) (by
    rw [← htk, ← hmr, List.append_assoc]
    exact List.take_left' (by rw [List.length_take, Array.length_toList]; omega)) hr
  rw [← hmr] at hmk
  exact hmk
set_option maxHeartbeats 4000000 in
set_option maxRecDepth 100000 in
theorem delete_raw (base i n g cap : Nat) (rows : List (List Value)) (w : World) (HO : Raw3 w base (.slice (some ⟨g, 0, none⟩) n cap) rows) (hi : i < n) (hl : n < 1048576) :
    Calls Try.prog 36 #[.slice (some ⟨g, 0, none⟩) n cap, .int .i64 i, .int .i64 ((i + 1 : Nat) : Int)] w fun e w' => e = .returned (.slice (some ⟨g, 0, none⟩) (n - 1) cap) ∧ Raw3 w' base (.slice (some ⟨g, 0, none⟩) (n - 1) cap) (rows.eraseIdx i) ∧ w.grownBy w' (some g) := by
  have hnc := (Kd.R_reads' HO).2.1
  obtain ⟨i0, hi0, hsz⟩ := Option.map_eq_some_iff.1 info61s
  have hne : decide ((i : Int) = (i : Int) + 1) = false := decide_eq_false (by omega)
  have hci : ¬ (cap = i) := by omega
  by_cases hcap : cap = i + 1
  · subst hcap
    obtain rfl : n = i + 1 := by omega
    obtain ⟨w1, hrun, hO1, hg1⟩ := Kd.R_delete_run (P := Try.prog) (Kd.raw 3) (n := i + 1) (c := i + 1) (W := w.drew) base 22 22 61 i0 Try.underlying22 hi0 hsz (Kd.R_drew HO) hi (A := some ⟨g, 0, none⟩) (by rw [if_pos rfl]) (i + 1 - (i + 1))
    simp only [Nat.sub_self, Nat.add_sub_cancel] at hrun hO1
    have HRUN := Aside0.mk hrun
    have HO1 := Aside0.mk hO1
    have HG1 := Aside0.mk hg1
    have hown := (raw_open hO1).choose_spec.1
    obtain ⟨cur, hcur, hcsz⟩ : ∃ cur, w1.heap[g]? = some (.cells cur 61 (0, 0)) ∧ cur.size = (i + 1) * 3 := by
      rcases hown.2 with ⟨hv', _⟩ | ⟨g', cap', cur, hv', _, hh, _, _, hcs, _⟩
      · cases hv'
      injection hv' with hv1 _ hv3
      injection hv1 with hv1
      injection hv1 with hv1
      subst hv1
      subst hv3
      exact ⟨cur, hh, hcs⟩
    have HCL := Aside0.mk (fun ty c => run_clear1 w1 ty g (i * 3) c cur hcur (by omega))
    clear hrun hO1 hg1 hown hcur hcsz HO
    have hic1 : (i : Int) ≤ (i : Int) + 1 := by omega
    have hi2 : (0 : Int) ≤ (i : Int) + 1 := by omega
    go_enter Try.func36, Try.ntmps36
    go_wp2
    refine start_ (n := 8) (S := fun w' => True) (ds := []) #[false, false, false, false, false, false, false, false] (by kernel_rfl) rfl rfl trivial (fun hHeld => ?_)
    refine pure_ (i := 0) (N := some 20) (v := ?_) (a' := ?_) #[true, false, false, false, false, false, false, false] rfl rfl (by kernel_rfl) (fun _ _ _ h => h) (Or.inl ⟨by rfl, ?_⟩) ?_ ?_
    rotate_left
    · intro w'
      go_simp
      with_reducible rfl
    rotate_left
    · simp only [Act.put, List.setIfInBounds_toArray, List.set_cons_zero, List.set_cons_succ, i64_w, i32_w]
      rfl
    refine pure_ (i := 1) (N := some 21) (v := ?_) (a' := ?_) #[true, true, false, false, false, false, false, false] rfl rfl (by kernel_rfl) (fun _ _ _ h => h) (Or.inl ⟨by rfl, ?_⟩) ?_ ?_
    rotate_left
    · intro w'
      go_simp
      with_reducible rfl
    rotate_left
    · simp only [Act.put, List.setIfInBounds_toArray, List.set_cons_zero, List.set_cons_succ, i64_w, i32_w]
      rfl
    refine pure_ (i := 2) (N := some 22) (v := ?_) (a' := ?_) #[true, true, true, false, false, false, false, false] rfl rfl (by kernel_rfl) (fun _ _ _ h => h) (Or.inl ⟨by rfl, ?_⟩) ?_ ?_
    rotate_left
    · intro w'
      go_simp
      with_reducible rfl
    rotate_left
    · simp only [Act.put, List.setIfInBounds_toArray, List.set_cons_zero, List.set_cons_succ, i64_w, i32_w]
      rfl
    refine pure_ (i := 3) (N := some 23) (v := ?_) (a' := ?_) #[true, true, true, true, false, false, false, false] rfl rfl (by kernel_rfl) (fun _ _ _ h => h) (Or.inl ⟨by rfl, ?_⟩) ?_ ?_
    rotate_left
    · intro w'
      go_simp
      with_reducible rfl
    rotate_left
    · simp only [Act.put, List.setIfInBounds_toArray, List.set_cons_zero, List.set_cons_succ, i64_w, i32_w]
      rfl
    refine pure_ (i := 4) (N := some 24) (v := ?_) (a' := ?_) #[true, true, true, true, true, false, false, false] rfl rfl (by kernel_rfl) (fun _ _ _ h => h) (Or.inl ⟨by rfl, ?_⟩) ?_ ?_
    rotate_left
    · intro w'
      go_simp
      with_reducible rfl
    rotate_left
    · simp only [Act.put, List.setIfInBounds_toArray, List.set_cons_zero, List.set_cons_succ, i64_w, i32_w]
      rfl
    refine pure_ (i := 5) (N := some 25) (v := ?_) (a' := ?_) #[true, true, true, true, true, true, false, false] rfl rfl (by kernel_rfl) (fun _ _ _ h => h) (Or.inl ⟨by rfl, ?_⟩) ?_ ?_
    rotate_left
    · intro w'
      go_simp
      with_reducible rfl
    rotate_left
    · simp only [Act.put, List.setIfInBounds_toArray, List.set_cons_zero, List.set_cons_succ, i64_w, i32_w]
      rfl
    refine one_ (i := 6) (N := some 26) #[true, true, true, true, true, true, true, false] rfl rfl (by kernel_rfl) (by decide) (fun K hK => ?_)
    refine append_step _ rfl (.tmp 22) (.tmp 25) 22 22 rfl _ _ rfl rfl HRUN.out ?_
    refine hK.out _ _ trivial (fun hHeld => ?_)
    clear hK K
    refine norm_ (a' := ?_) ?_ ?_
    rotate_left
    · show Act.put _ (some 26) _ = _
      simp only [Act.put, List.setIfInBounds_toArray, List.set_cons_zero, List.set_cons_succ, i64_w, i32_w]
      rfl
    refine pure_ (i := 7) (N := some 0) (v := ?_) (a' := ?_) #[true, true, true, true, true, true, true, true] rfl rfl (by kernel_rfl) (fun _ _ _ h => h) (Or.inl ⟨by rfl, ?_⟩) ?_ ?_
    rotate_left
    · intro w'
      go_simp
      with_reducible rfl
    rotate_left
    · simp only [Act.put, List.setIfInBounds_toArray, List.set_cons_zero, List.set_cons_succ, i64_w, i32_w]
      rfl
    refine done_ (by kernel_rfl) ?_
    go_wp2_with (first | ((with_reducible refine gate_builtin (b := .clear) (xs := #[.tmp 31]) rfl ?_); refine clear_event _ rfl (.tmp 31) 22 rfl _ rfl (HCL.out _ _) ?_))
    go_ret
    exact ⟨rfl, raw_past HO1.out (by omega) rfl, World.grownBy.trans ⟨HG1.out.os, HG1.out.tape, HG1.out.output, HG1.out.size, HG1.out.block⟩ grown_setCells⟩
  · have hk1 : ¬ (cap = i + 1) := hcap
    obtain ⟨w1, hrun, hO1, hg1⟩ := Kd.R_delete_run (P := Try.prog) (Kd.raw 3) (W := w.drew) base 22 22 61 i0 Try.underlying22 hi0 hsz (Kd.R_drew HO) hi (A := some ⟨g, (i + 1) * 3, none⟩) (by rw [if_neg hcap]; simp [add_plain]; rfl) (cap - (i + 1))
    have HRUN := Aside0.mk hrun
    have HO1 := Aside0.mk hO1
    have HG1 := Aside0.mk hg1
    have hown := (raw_open hO1).choose_spec.1
    obtain ⟨cur, hcur, hcsz⟩ : ∃ cur, w1.heap[g]? = some (.cells cur 61 (0, 0)) ∧ cur.size = cap * 3 := by
      rcases hown.2 with ⟨hv', _⟩ | ⟨g', cap', cur, hv', _, hh, _, _, hcs, _⟩
      · cases hv'
      injection hv' with hv1 _ hv3
      injection hv1 with hv1
      injection hv1 with hv1
      subst hv1
      subst hv3
      exact ⟨cur, hh, hcs⟩
    have HCL := Aside0.mk (fun ty c => run_clear1 w1 ty g ((n - 1) * 3) c cur hcur (by omega))
    clear hrun hO1 hg1 hown hcur hcsz HO
    have hcn : ¬ (cap = n - 1) := by omega
    have hic : i ≤ cap := by omega
    have hic1 : (i : Int) ≤ (i : Int) + 1 := by omega
    have hb1 : (n : Int) - 1 = ((n - 1 : Nat) : Int) := by omega
    have hsub : n - (n - 1) = 1 := by omega
    have hle : n - 1 ≤ n := by omega
    have hn1 : ((n - 1 : Nat) : Int) ≤ (n : Int) := by omega
    have hi1 : ((i : Int) + 1 ≤ (n : Int)) := by omega
    have hi2 : (0 : Int) ≤ (i : Int) + 1 := by omega
    go_enter Try.func36, Try.ntmps36
    go_wp2
    refine start_ (n := 8) (S := fun w' => True) (ds := []) #[false, false, false, false, false, false, false, false] (by kernel_rfl) rfl rfl trivial (fun hHeld => ?_)
    refine pure_ (i := 0) (N := some 20) (v := ?_) (a' := ?_) #[true, false, false, false, false, false, false, false] rfl rfl (by kernel_rfl) (fun _ _ _ h => h) (Or.inl ⟨by rfl, ?_⟩) ?_ ?_
    rotate_left
    · intro w'
      go_simp
      with_reducible rfl
    rotate_left
    · simp only [Act.put, List.setIfInBounds_toArray, List.set_cons_zero, List.set_cons_succ, i64_w, i32_w]
      rfl
    refine pure_ (i := 1) (N := some 21) (v := ?_) (a' := ?_) #[true, true, false, false, false, false, false, false] rfl rfl (by kernel_rfl) (fun _ _ _ h => h) (Or.inl ⟨by rfl, ?_⟩) ?_ ?_
    rotate_left
    · intro w'
      go_simp
      with_reducible rfl
    rotate_left
    · simp only [Act.put, List.setIfInBounds_toArray, List.set_cons_zero, List.set_cons_succ, i64_w, i32_w]
      rfl
    refine pure_ (i := 2) (N := some 22) (v := ?_) (a' := ?_) #[true, true, true, false, false, false, false, false] rfl rfl (by kernel_rfl) (fun _ _ _ h => h) (Or.inl ⟨by rfl, ?_⟩) ?_ ?_
    rotate_left
    · intro w'
      go_simp
      with_reducible rfl
    rotate_left
    · simp only [Act.put, List.setIfInBounds_toArray, List.set_cons_zero, List.set_cons_succ, i64_w, i32_w]
      rfl
    refine pure_ (i := 3) (N := some 23) (v := ?_) (a' := ?_) #[true, true, true, true, false, false, false, false] rfl rfl (by kernel_rfl) (fun _ _ _ h => h) (Or.inl ⟨by rfl, ?_⟩) ?_ ?_
    rotate_left
    · intro w'
      go_simp
      with_reducible rfl
    rotate_left
    · simp only [Act.put, List.setIfInBounds_toArray, List.set_cons_zero, List.set_cons_succ, i64_w, i32_w]
      rfl
    refine pure_ (i := 4) (N := some 24) (v := ?_) (a' := ?_) #[true, true, true, true, true, false, false, false] rfl rfl (by kernel_rfl) (fun _ _ _ h => h) (Or.inl ⟨by rfl, ?_⟩) ?_ ?_
    rotate_left
    · intro w'
      go_simp
      with_reducible rfl
    rotate_left
    · simp only [Act.put, List.setIfInBounds_toArray, List.set_cons_zero, List.set_cons_succ, i64_w, i32_w]
      rfl
    refine pure_ (i := 5) (N := some 25) (v := ?_) (a' := ?_) #[true, true, true, true, true, true, false, false] rfl rfl (by kernel_rfl) (fun _ _ _ h => h) (Or.inl ⟨by rfl, ?_⟩) ?_ ?_
    rotate_left
    · intro w'
      go_simp
      with_reducible rfl
    rotate_left
    · simp only [Act.put, List.setIfInBounds_toArray, List.set_cons_zero, List.set_cons_succ, i64_w, i32_w]
      rfl
    refine one_ (i := 6) (N := some 26) #[true, true, true, true, true, true, true, false] rfl rfl (by kernel_rfl) (by decide) (fun K hK => ?_)
    refine append_step _ rfl (.tmp 22) (.tmp 25) 22 22 rfl _ _ rfl rfl HRUN.out ?_
    refine hK.out _ _ trivial (fun hHeld => ?_)
    clear hK K
    refine norm_ (a' := ?_) ?_ ?_
    rotate_left
    · show Act.put _ (some 26) _ = _
      simp only [Act.put, List.setIfInBounds_toArray, List.set_cons_zero, List.set_cons_succ, i64_w, i32_w]
      rfl
    refine pure_ (i := 7) (N := some 0) (v := ?_) (a' := ?_) #[true, true, true, true, true, true, true, true] rfl rfl (by kernel_rfl) (fun _ _ _ h => h) (Or.inl ⟨by rfl, ?_⟩) ?_ ?_
    rotate_left
    · intro w'
      go_simp
      with_reducible rfl
    rotate_left
    · simp only [Act.put, List.setIfInBounds_toArray, List.set_cons_zero, List.set_cons_succ, i64_w, i32_w]
      rfl
    refine done_ (by kernel_rfl) ?_
    go_wp2_with (first | ((with_reducible refine gate_builtin (b := .clear) (xs := #[.tmp 31]) rfl ?_); refine clear_event _ rfl (.tmp 31) 22 rfl _ rfl (HCL.out _ _) ?_))
    go_ret
    exact ⟨rfl, raw_past HO1.out (by omega) rfl, World.grownBy.trans ⟨HG1.out.os, HG1.out.tape, HG1.out.output, HG1.out.size, HG1.out.block⟩ grown_setCells⟩
section
variable {α : Type} {d : Kd α} {e base n cap g : Nat} {ok okp : Nat → Prop} {w1 W : World} {v v1 : Value} {xs ys : List α}
theorem N_remade {rows rows' : List (List Value)} (h0 : ∀ k, v.ownBlock = some k → ok k) (hf : ∀ (j : Nat) (x : α) (c : List Value), xs[j]? = some x → rows[j]? = some c → Kd.FK d W (fun k => ok k ∧ some k ≠ v.ownBlock) x c)
    (hl : rows'.length = ys.length) (hp : ∀ (j : Nat) (y : α) (c : List Value), ys[j]? = some y → rows'[j]? = some c → (∃ i : Nat, xs[i]? = some y ∧ rows[i]? = some c) ∨ Kd.FK d W okp y c) (hokp : ∀ k, okp k → ok k ∧ some k ≠ v.ownBlock) (hfresh : ∀ k, W.heap.size ≤ k → ok k)
    (hR : (Kd.raw d.sz).R e w1 base (fun _ => True) v1 rows') (hg : W.grownBy w1 v.ownBlock) (hat : v1.ownBlock = v.ownBlock ∨ ∃ b, v1.ownBlock = some b ∧ W.heap.size ≤ b) : Kd.N d e w1 base ok v1 ys := by
  have hne : ∀ k, some k ≠ v.ownBlock → k < W.heap.size → some k ≠ v1.ownBlock := by
    intro k hk hlt
    rcases hat with hat | ⟨b, hb, hle⟩
    · rw [hat]; exact hk
    · rw [hb]
      intro he
      injection he with he
      omega
  have step : ∀ {x : α} {c : List Value} {o : Nat → Prop}, Kd.FK d W o x c → (∀ k, o k → ok k ∧ some k ≠ v.ownBlock) → Kd.FK d w1 (fun k => ok k ∧ some k ≠ v1.ownBlock) x c := by
    intro x c o hq ho
    exact Kd.FK_mono (Kd.FK_step (Kd.FK_bound hq) (fun k hk hlt => hg.block k hlt (ho k hk.1).2)) (fun k hk => ⟨(ho k hk.1).1, hne k (ho k hk.1).2 hk.2⟩)
  refine ⟨fun k hk => ?_, rows', hl, Kd.raw_tight hR, fun j x c hx hc => ?_⟩
  · rcases hat with hat | ⟨b, hb, hle⟩
    · exact h0 k (hat ▸ hk)
    · rw [hb] at hk
      injection hk with hk
      exact hfresh k (by omega)
  · rcases hp j x c hx hc with ⟨i, h1, h2⟩ | h1
    · exact step (hf i x c h1 h2) (fun _ hk => hk)
    · exact step h1 hokp
end
theorem pair_at {α β : Type} {xs : List α} {rows : List β} {i : Nat} (hl : rows.length = xs.length) (hi : i ≤ xs.length) (x : α) (r : β) (j : Nat) (y : α) (c : β) (hy : (xs.take i ++ x :: xs.drop i)[j]? = some y) (hc : (rows.take i ++ r :: rows.drop i)[j]? = some c) :
    (∃ q : Nat, xs[q]? = some y ∧ rows[q]? = some c) ∨ (y = x ∧ c = r) := by
  have h1 : (xs.take i).length = i := by rw [List.length_take]; omega
  have h2 : (rows.take i).length = i := by rw [List.length_take]; omega
  rcases Nat.lt_trichotomy j i with h | h | h
  · rw [List.getElem?_append_left (by omega), List.getElem?_take, if_pos h] at hy hc
    exact .inl ⟨j, hy, hc⟩
  · subst h
    rw [List.getElem?_append_right (by omega), h1, Nat.sub_self] at hy
    rw [List.getElem?_append_right (by omega), h2, Nat.sub_self] at hc
    exact .inr ⟨(Option.some.inj hy).symm, (Option.some.inj hc).symm⟩
  · rw [List.getElem?_append_right (by omega), h1, show j - i = (j - i - 1) + 1 by omega, List.getElem?_cons_succ, List.getElem?_drop] at hy
    rw [List.getElem?_append_right (by omega), h2, show j - i = (j - i - 1) + 1 by omega, List.getElem?_cons_succ, List.getElem?_drop] at hc
    exact .inl ⟨_, hy, hc⟩
theorem erase_at {α β : Type} {xs : List α} {rows : List β} {i : Nat} (j : Nat) (y : α) (c : β) (hy : (xs.eraseIdx i)[j]? = some y) (hc : (rows.eraseIdx i)[j]? = some c) : ∃ q : Nat, xs[q]? = some y ∧ rows[q]? = some c := by
  rw [List.getElem?_eraseIdx] at hy hc
  split at hy
  · rename_i h
    rw [if_pos h] at hc
    exact ⟨j, hy, hc⟩
  · rename_i h
    rw [if_neg h] at hc
    exact ⟨j + 1, hy, hc⟩
theorem insert_N (base i vb : Nat) (xs : List S61) (x : S61) (A1 : Option Addr) (c1 : Nat) (w : World) (v : Value) {ok okx : Nat → Prop} (HO : Kd.N k61 61 w base ok v xs) (hb : base ≤ w.heap.size)
    (hv : w.heap[vb]? = some (.cells #[.string x.f0, .slice A1 x.f1.length c1, .int .i64 x.f2] 61 (0, 0))) (hvb : some vb ≠ v.ownBlock) (hx : Kd.FK k61 w okx x [.string x.f0, .slice A1 x.f1.length c1, .int .i64 x.f2]) (hokx : ∀ k, okx k → ok k ∧ some k ≠ v.ownBlock)
    (hfresh : ∀ k, w.heap.size ≤ k → ok k) (hi : i ≤ xs.length) (hl : xs.length < 1048576) :
    Calls Try.prog 35 #[v, .int .i64 i, .slice (some ⟨vb, 0, none⟩) 1 1] w fun e w' => ∃ v' : Value, e = .returned v' ∧ Kd.N k61 61 w' base ok v' (xs.take i ++ x :: xs.drop i) ∧ w.grownBy w' v.ownBlock ∧ (v'.ownBlock = v.ownBlock ∨ ∃ b, v'.ownBlock = some b ∧ w.heap.size ≤ b) := by
  obtain ⟨h0, rows, hlr, hR, hf⟩ := HO
  refine (insert_raw base i vb rows _ _ _ w v (Kd.R_mono hR (fun _ _ => trivial)) hb hv (fun u hu => by simp at hu; rcases hu with rfl | rfl | rfl <;> rfl) hvb (by omega) (by omega)).mono ?_
  rintro e w' ⟨v', rfl, hR', hg, hat⟩
  refine ⟨v', rfl, N_remade h0 hf (by rw [List.length_append, List.length_append, List.length_cons, List.length_cons, List.length_take, List.length_take, List.length_drop, List.length_drop, hlr]) (fun j y c hy hc => ?_) hokx hfresh hR' hg hat, hg, hat⟩
  rcases pair_at hlr hi _ _ j y c hy hc with h | ⟨rfl, rfl⟩
  · exact .inl h
  · exact .inr hx
theorem delete_N (base i g n cap : Nat) (xs : List S61) (w : World) {ok : Nat → Prop} (HO : Kd.N k61 61 w base ok (.slice (some ⟨g, 0, none⟩) n cap) xs) (hfresh : ∀ k, w.heap.size ≤ k → ok k) (hi : i < n) (hl : n < 1048576) :
    Calls Try.prog 36 #[.slice (some ⟨g, 0, none⟩) n cap, .int .i64 i, .int .i64 ((i + 1 : Nat) : Int)] w fun e w' => e = .returned (.slice (some ⟨g, 0, none⟩) (n - 1) cap) ∧ Kd.N k61 61 w' base ok (.slice (some ⟨g, 0, none⟩) (n - 1) cap) (xs.eraseIdx i) ∧ w.grownBy w' (some g) := by
  obtain ⟨h0, rows, hlr, hR, hf⟩ := HO
  have hn := (Kd.R_reads' hR).1
  refine (delete_raw base i n g cap rows w (Kd.R_mono hR (fun _ _ => trivial)) hi hl).mono ?_
  rintro e w' ⟨rfl, hR', hg⟩
  exact ⟨rfl, N_remade (okp := fun _ => False) h0 hf (by rw [List.length_eraseIdx, List.length_eraseIdx, hlr]) (fun j y c hy hc => .inl (erase_at j y c hy hc)) (fun _ hk => hk.elim) hfresh hR' hg (.inl rfl), hg⟩
theorem delete_N1 (base i g n cap : Nat) (xs : List S61) (w : World) {ok : Nat → Prop} (HO : Kd.N k61 61 w base ok (.slice (some ⟨g, 0, none⟩) n cap) xs) (hfresh : ∀ k, w.heap.size ≤ k → ok k) (hi : i < n) (hl : n < 1048576) :
    Calls Try.prog 36 #[.slice (some ⟨g, 0, none⟩) n cap, .int .i64 i, .int .i64 ((i : Int) + 1)] w fun e w' => e = .returned (.slice (some ⟨g, 0, none⟩) (n - 1) cap) ∧ Kd.N k61 61 w' base ok (.slice (some ⟨g, 0, none⟩) (n - 1) cap) (xs.eraseIdx i) ∧ w.grownBy w' (some g) := by
  rw [show (i : Int) + 1 = ((i + 1 : Nat) : Int) from by omega]
  exact delete_N base i g n cap xs w HO hfresh hi hl
theorem put_at {α : Type} (l : List α) (i : Nat) (x z : α) (hi : i ≤ l.length) : (l.take i ++ x :: l.drop i).getD i z = x := by
  rw [List.getD_eq_getElem?_getD, List.getElem?_append_right (by rw [List.length_take]; omega), List.length_take, Nat.min_eq_left hi, Nat.sub_self]
  rfl
theorem insert_N2 (base i vb : Nat) (xs : List S61) (x : S61) (A1 : Option Addr) (c1 : Nat) (w : World) (v : Value) {ok okx : Nat → Prop} (HO : Kd.N k61 61 w base ok v xs) (hb : base ≤ w.heap.size)
    (hv : w.heap[vb]? = some (.cells #[.string x.f0, .slice A1 x.f1.length c1, .int .i64 x.f2] 61 (0, 0))) (hvb : some vb ≠ v.ownBlock) (hx : Kd.FK k61 w okx x [.string x.f0, .slice A1 x.f1.length c1, .int .i64 x.f2]) (hokx : ∀ k, okx k → ok k ∧ some k ≠ v.ownBlock)
    (hfresh : ∀ k, w.heap.size ≤ k → ok k) (hi : i ≤ xs.length) (hl : xs.length < 1048576) :
    Calls Try.prog 35 #[v, .int .i64 i, .slice (some ⟨vb, 0, none⟩) 1 1] w fun e w' => ∃ g' c', e = .returned (.slice (some ⟨g', 0, none⟩) (xs.take i ++ x :: xs.drop i).length c') ∧ Kd.N k61 61 w' base ok (.slice (some ⟨g', 0, none⟩) (xs.take i ++ x :: xs.drop i).length c') (xs.take i ++ x :: xs.drop i) ∧ w.grownBy w' v.ownBlock ∧ (some g' = v.ownBlock ∨ w.heap.size ≤ g') ∧
      w'.cell? ⟨g', i * 3 + 1, none⟩ = some (.slice A1 x.f1.length c1) := by
  obtain ⟨h0, rows, hlr, hR, hf⟩ := HO
  refine (insert_raw base i vb rows _ _ _ w v (Kd.R_mono hR (fun _ _ => trivial)) hb hv (fun u hu => by simp at hu; rcases hu with rfl | rfl | rfl <;> rfl) hvb (by omega) (by omega)).mono ?_
  rintro e w' ⟨v', rfl, hR', hg, hat⟩
  have hrl : (rows.take i ++ [Value.string x.f0, .slice A1 x.f1.length c1, .int .i64 x.f2] :: rows.drop i).length = (xs.take i ++ x :: xs.drop i).length := by rw [List.length_append, List.length_append, List.length_cons, List.length_cons, List.length_take, List.length_take, List.length_drop, List.length_drop, hlr]
  have hpos : 0 < (rows.take i ++ [Value.string x.f0, .slice A1 x.f1.length c1, .int .i64 x.f2] :: rows.drop i).length := by rw [List.length_append, List.length_cons]; omega
  obtain ⟨g', c', rfl, _, _, _⟩ := Kd.R_form hR' hpos
  have hN := N_remade h0 hf hrl (fun j y c hy hc => by
    rcases pair_at hlr hi _ _ j y c hy hc with h | ⟨rfl, rfl⟩
    · exact .inl h
    · exact .inr hx) hokx hfresh hR' hg hat
  obtain ⟨c, hcl, hM, hcc, _⟩ := Kd.R_elem hR' [] (i : Int) (by omega) (by rw [List.length_append, List.length_cons, List.length_take, List.length_drop]; omega)
  rw [Int.toNat_natCast, put_at rows i _ _ (by omega)] at hM
  rw [hrl] at hN
  refine ⟨g', c', by rw [hrl], hN, hg, ?_, ?_⟩
  · rcases hat with hat | ⟨b, hb1, hb2⟩
    · exact .inl hat
    · right
      injection hb1 with hb1
      have hb3 : g' = b := hb1
      omega
  · rw [hM.1] at hcc
    exact hcc 1 _ rfl
def store_named.f (a0 : ByteArray) : Option (Bool) := if a0.toList = ([] : List UInt8) then (some false) else (some (decide ((a0.size : Int) ≤ 32)))
set_option maxHeartbeats 8000000 in
set_option maxRecDepth 100000 in
theorem store_named.calls (a0 : ByteArray) (r : Bool) (w : World) (h : store_named.f a0 = some r) :
    Calls Try.prog 31 #[.string a0] w fun e w' => e = .returned (.bool r) ∧ Drawn0 w w' := by
  have H : (if a0.toList = ([] : List UInt8) then (some false) else (some (decide ((a0.size : Int) ≤ 32)))) = some r := h
  clear h
  by_cases c2 : a0.toList = ([] : List UInt8)
  · rw [if_pos c2] at H
    have c2b0 : (a0.toList == ([] : List UInt8)) = true := beq_iff_eq.mpr c2
    have c2b1 : (a0.toList != ([] : List UInt8)) = false := bne_eq_false_iff_eq.mpr c2
    clear c2
    obtain rfl := Option.some.inj H
    go_enter Try.func31, Try.ntmps31
    go_wp2
    go_ret
    exact ⟨by first | rfl | (simp; done) | (simp [*]; done), by repeat (first | exact Drawn0.refl _ | apply Drawn0.step)⟩
  · rw [if_neg c2] at H
    have c2b0 : (a0.toList == ([] : List UInt8)) = false := beq_eq_false_iff_ne.mpr c2
    have c2b1 : (a0.toList != ([] : List UInt8)) = true := bne_iff_ne.mpr c2
    obtain rfl := Option.some.inj H
    go_enter Try.func31, Try.ntmps31
    go_wp2
    go_ret
    exact ⟨by first | rfl | (simp; done) | (simp [*]; done), by repeat (first | exact Drawn0.refl _ | apply Drawn0.step)⟩
def store_used.l0 : Nat → Int → List (S61) → Int → Int → Int → List (S61) → Option (Int)
  | 0, _, _, _, _, _, _ => none
  | k + 1, x3, x7, x8, x9, x103000, x103001 => if x9 < x8 then (if 0 ≤ x9 then (if x9 < (x7.length : Int) then (if (wrap64 (x3 + (((rd_T61 x7 x9).f1).length : Int))) > x103000 then (some (-1)) else (store_used.l0 k (wrap64 (x3 + (((rd_T61 x7 x9).f1).length : Int))) x7 x8 (wrap64 (x9 + 1)) x103000 x103001)) else (none)) else (none)) else (some x3)
def store_used.f (k : Nat) (a0_0 : Int) (l0_1 : List (S61)) : Option (Int) := store_used.l0 k 0 l0_1 (l0_1.length : Int) 0 a0_0 l0_1
theorem store_used.mono_l : ∀ k, (∀ y0 y1 y2 y3 y4 y5, LeO (store_used.l0 k y0 y1 y2 y3 y4 y5) (store_used.l0 (k + 1) y0 y1 y2 y3 y4 y5))
  | 0 => fun _ _ _ _ _ _ r h => by simp [store_used.l0] at h
  | k + 1 => by
    have ih0 := store_used.mono_l k
    · intro y0 y1 y2 y3 y4 y5
      unfold store_used.l0
      repeat' first
      | (with_reducible exact ih0 _ _ _ _ _ _)
      | (with_reducible exact LeO.refl _)
      | (with_reducible exact LeO.none _)
      | (with_reducible refine LeO.ite ?_ ?_)
      | (with_reducible refine LeO.bind ?_ (fun _ => ?_))
      | exact ih0 _ _ _ _ _ _
      | exact LeO.none _
      | refine LeO.ite ?_ ?_
      | refine LeO.bind ?_ (fun _ => ?_)
theorem store_used.mono : ∀ a0 a1 k, LeO (store_used.f k a0 a1) (store_used.f (k + 1) a0 a1) := by
  intro a0 a1 k
  have ih0 := store_used.mono_l k
  unfold store_used.f
  repeat' first
      | (with_reducible exact ih0 _ _ _ _ _ _)
      | (with_reducible exact LeO.refl _)
      | (with_reducible exact LeO.none _)
      | (with_reducible refine LeO.ite ?_ ?_)
      | (with_reducible refine LeO.bind ?_ (fun _ => ?_))
      | exact ih0 _ _ _ _ _ _
      | exact LeO.none _
      | refine LeO.ite ?_ ?_
      | refine LeO.bind ?_ (fun _ => ?_)
set_option maxHeartbeats 8000000 in
set_option maxRecDepth 100000 in
theorem store_used.calls (k : Nat) (a0_0 : Int) (A0_1 : Option Addr) (c0_1 : Nat) (l0_1 : List (S61)) (r : Int) (w : World) (hr0_1 : Kd.C k61 w A0_1 l0_1.length l0_1) (hc0_1 : l0_1.length ≤ c0_1) (h : store_used.f k a0_0 l0_1 = some r) :
    Calls Try.prog 33 #[.agg #[.int .i64 a0_0, .slice A0_1 l0_1.length c0_1]] w fun e w' => e = .returned (.int .i64 r) ∧ Below w.heap.size w w' := by
  have hu24 := Try.underlying24
  have hu61 := Try.underlying61
  have HR0_1 := Aside0.mk hr0_1
  have HC0_1 := Aside0.mk hc0_1
  clear hr0_1 hc0_1
  have HB := Aside0.mk (Below.refl w.heap.size w)
  have H : (store_used.l0 k 0 l0_1 (l0_1.length : Int) 0 a0_0 l0_1) = some r := h
  clear h
  have H' := Aside0.mk H
  clear H
  go_enter Try.func33, Try.ntmps33
  go_wp2_with (first | ((with_reducible refine gate_dst (N := 1) rfl ?_); refine box_event ?hg (N := 1) ?hd (cs := #[.int .i64 a0_0, .slice A0_1 l0_1.length c0_1]) (t := 24) ?hr ?_; (case hd => rfl); (case hg => rfl); (case hr => first | (go_simp; done) | (go_simp; rfl)); intro gb102 hg w2 hbox hb; have n0_ := Aside0.mk (below_step (by repeat (first | (with_reducible first | exact HB.out | apply below_alloc | apply pw_below_drewN | apply below_drew1) | exact HB.out)) hb); have n1_ := Aside0.mk (hbox); have n2_ := Aside0.mk ((by rw [hg]; exact (below_size (by repeat (first | (with_reducible first | exact HB.out | apply below_alloc | apply pw_below_drewN | apply below_drew1) | exact HB.out))) : w.heap.size ≤ gb102)); have n3_ := Aside0.mk ((by rw [hg]; exact (below_size (by repeat (first | (with_reducible first | exact HB.out | apply below_alloc | apply pw_below_drewN | apply below_drew1) | exact HB.out))) : w.heap.size ≤ gb102)); clear HB; have HB := n0_; have BK102 := n1_; have GW102 := n2_; have GE102 := n3_; clear n0_ n1_ n2_ n3_; clear hb hbox hg; have hcz3_0 : w2.cell? ⟨gb102, 0, none⟩ = some (.int .i64 a0_0) := (blk_cell BK102.out 0).trans rfl; have hcz3_1 : w2.cell? ⟨gb102, 1, none⟩ = some (.slice A0_1 l0_1.length c0_1) := (blk_cell BK102.out 1).trans rfl; have hfz3_0 := blk_frozen BK102.out 0; have hfz3_1 := blk_frozen BK102.out 1))
  go_loopg [3, 9] k (fun kq v3 v9 w' => ∃ (x3_1 : Int) (x9_1 : Int), v3 = .int .i64 x3_1 ∧ v9 = .int .i64 x9_1 ∧ Aside0 (store_used.l0 kq x3_1 l0_1 (l0_1.length : Int) x9_1 a0_0 l0_1 = some r) ∧ Aside0 (kq ≤ k) ∧ Aside0 (w'.heap[gb102]? = some (.cells #[.int .i64 a0_0, (.slice A0_1 l0_1.length c0_1)] 24 (0, 0))) ∧ Aside0 (Below w.heap.size w w'))
  case atStart => exact ⟨(0), (0), (by first | rfl | (simp; done) | (simp [*]; done)), (by first | rfl | (simp; done) | (simp [*]; done)), H', ⟨Nat.le_refl _⟩, ⟨by (with_reducible repeat (first | refine blk_drewN ?_ _ | refine blk_drew ?_ | refine blk_alloc ?_ _)); exact BK102.out⟩, ⟨by repeat (first | (with_reducible first | exact HB.out | apply below_alloc | apply pw_below_drewN | apply below_drew1 | refine below_set ?_ GE102.out) | exact HB.out)⟩⟩
  case round =>
    clear H'
    try clear p2
    try clear c3
    try clear hcz3_0
    try clear hcz3_1
    try clear hfz3_0
    try clear hfz3_1
    obtain ⟨x3_1, x9_1, rfl, rfl, HA, HK1, BK102, HB⟩ := hrel
    cases gk with
    | zero => exact absurd HA.out (by simp [store_used.l0])
    | succ k1 =>
      have H := HA.out
      clear HA
      simp only [store_used.l0] at H
      by_cases c4 : x9_1 < (l0_1.length : Int)
      · rw [if_pos c4] at H
        have c4b0 : decide (x9_1 < (l0_1.length : Int)) = true := decide_eq_true c4
        clear c4
        by_cases c5 : 0 ≤ x9_1
        · rw [if_pos c5] at H
          have c5b0 : decide (0 ≤ x9_1) = true := decide_eq_true c5
          clear c5
          by_cases c6 : x9_1 < (l0_1.length : Int)
          · rw [if_pos c6] at H
            have c6b0 : decide (x9_1 < (l0_1.length : Int)) = true := decide_eq_true c6
            clear c6
            by_cases c7 : (wrap64 (x3_1 + (((rd_T61 l0_1 x9_1).f1).length : Int))) > a0_0
            · rw [if_pos c7] at H
              have c7b0 : decide (a0_0 < (wrap64 (x3_1 + (((rd_T61 l0_1 x9_1).f1).length : Int)))) = true := decide_eq_true c7
              clear c7
              obtain rfl := Option.some.inj H
              have p103 : 0 ≤ (x9_1 : Int) := of_decide_eq_true (by first | (with_reducible assumption) | assumption)
              have q103 : x9_1 < (l0_1.length : Int) := of_decide_eq_true (by first | (with_reducible assumption) | assumption)
              obtain ⟨ad103, A103_1, c103_1, e103, hx103_0, hx103_1, hx103_2, hl103_1, hi103_1⟩ := at_T61 HR0_1.out x9_1 p103 q103
              cases e103
              replace hx103_0 := (HB.out.cell (World.block_lt_of_cell? w _ hx103_0)).trans hx103_0
              replace hx103_1 := (HB.out.cell (World.block_lt_of_cell? w _ hx103_1)).trans hx103_1
              replace hx103_2 := (HB.out.cell (World.block_lt_of_cell? w _ hx103_2)).trans hx103_2
              have HR103_1 := Aside0.mk hi103_1
              have HC103_1 := Aside0.mk hl103_1
              clear hi103_1 hl103_1
              replace p103 := eq_true p103
              replace q103 := eq_true q103
              go_wp2_with (first | ((with_reducible refine gate_dst (N := 5) rfl ?_); refine box_event ?hg (N := 5) ?hd (cs := #[.string (⟨#[]⟩ : ByteArray), .slice none 0 0, .int .i64 0]) (t := 61) ?hr ?_; (case hd => rfl); (case hg => rfl); (case hr => first | (go_simp; done) | (go_simp; rfl)); intro gb104 hg w8 hbox hb; have n0_ := Aside0.mk (blk_below (g := gb102) (o := .cells #[.int .i64 a0_0, .slice (some ad103) l0_1.length c0_1] 24 (0, 0)) (by (with_reducible repeat (first | refine blk_drewN ?_ _ | refine blk_drew ?_ | refine blk_alloc ?_ _)); exact BK102.out) hb); have n1_ := Aside0.mk (below_step (by repeat (first | (with_reducible first | exact HB.out | apply below_alloc | apply pw_below_drewN | apply below_drew1 | refine below_set ?_ GE102.out) | exact HB.out)) hb); have n2_ := Aside0.mk (hbox); have n3_ := Aside0.mk ((by rw [hg]; exact (below_size (by repeat (first | (with_reducible first | exact HB.out | apply below_alloc | apply pw_below_drewN | apply below_drew1 | refine below_set ?_ GE102.out) | exact HB.out))) : w.heap.size ≤ gb104)); have n4_ := Aside0.mk ((by rw [hg]; exact (below_size (by repeat (first | (with_reducible first | exact HB.out | apply below_alloc | apply pw_below_drewN | apply below_drew1 | refine below_set ?_ GE102.out) | exact HB.out))) : w.heap.size ≤ gb104)); have n5_ := Aside0.mk ((by rw [hg]; exact Nat.ne_of_lt (blk_lt (g := gb102) (o := .cells #[.int .i64 a0_0, .slice (some ad103) l0_1.length c0_1] 24 (0, 0)) (by (with_reducible repeat (first | refine blk_drewN ?_ _ | refine blk_drew ?_ | refine blk_alloc ?_ _)); exact BK102.out)) : gb102 ≠ gb104)); have n6_ := Aside0.mk ((by rw [hg]; exact Nat.ne_of_gt (blk_lt (g := gb102) (o := .cells #[.int .i64 a0_0, .slice (some ad103) l0_1.length c0_1] 24 (0, 0)) (by (with_reducible repeat (first | refine blk_drewN ?_ _ | refine blk_drew ?_ | refine blk_alloc ?_ _)); exact BK102.out)) : gb104 ≠ gb102)); clear BK102; clear HB; have BK102 := n0_; have HB := n1_; have BK104 := n2_; have GW104 := n3_; have GE104 := n4_; have NB102_104 := n5_; have NB104_102 := n6_; clear n0_ n1_ n2_ n3_ n4_ n5_ n6_; clear hb hbox hg; have hnb9 := NB104_102.out; have hnc9 := NB102_104.out; have hcz10_0 : w8.cell? ⟨gb104, 0, none⟩ = some (.string (⟨#[]⟩ : ByteArray)) := (blk_cell BK104.out 0).trans rfl; have hcz10_1 : w8.cell? ⟨gb104, 1, none⟩ = some (.slice none 0 0) := (blk_cell BK104.out 1).trans rfl; have hcz10_2 : w8.cell? ⟨gb104, 2, none⟩ = some (.int .i64 0) := (blk_cell BK104.out 2).trans rfl; have hfz10_0 := blk_frozen BK104.out 0; have hfz10_1 := blk_frozen BK104.out 1; have hfz10_2 := blk_frozen BK104.out 2; have hcz11_0 : w8.cell? ⟨gb102, 0, none⟩ = some (.int .i64 a0_0) := (blk_cell BK102.out 0).trans rfl; have hcz11_1 : w8.cell? ⟨gb102, 1, none⟩ = some (.slice (some ad103) l0_1.length c0_1) := (blk_cell BK102.out 1).trans rfl; have hfz11_0 := blk_frozen BK102.out 0; have hfz11_1 := blk_frozen BK102.out 1))
              go_ret
              exact ⟨by first | rfl | (simp [errW_none, errW_some] <;> rfl) | (simp [*, errW_none, errW_some] <;> rfl), by repeat (first | (with_reducible first | exact HB.out | apply below_alloc | apply pw_below_drewN | apply below_drew1 | refine below_set ?_ GE102.out | refine below_set ?_ GE104.out) | exact HB.out)⟩
            · rw [if_neg c7] at H
              have c7b0 : decide (a0_0 < (wrap64 (x3_1 + (((rd_T61 l0_1 x9_1).f1).length : Int)))) = false := decide_eq_false c7
              clear c7
              have H' := Aside0.mk H
              clear H
              have p103 : 0 ≤ (x9_1 : Int) := of_decide_eq_true (by first | (with_reducible assumption) | assumption)
              have q103 : x9_1 < (l0_1.length : Int) := of_decide_eq_true (by first | (with_reducible assumption) | assumption)
              obtain ⟨ad103, A103_1, c103_1, e103, hx103_0, hx103_1, hx103_2, hl103_1, hi103_1⟩ := at_T61 HR0_1.out x9_1 p103 q103
              cases e103
              replace hx103_0 := (HB.out.cell (World.block_lt_of_cell? w _ hx103_0)).trans hx103_0
              replace hx103_1 := (HB.out.cell (World.block_lt_of_cell? w _ hx103_1)).trans hx103_1
              replace hx103_2 := (HB.out.cell (World.block_lt_of_cell? w _ hx103_2)).trans hx103_2
              have HR103_1 := Aside0.mk hi103_1
              have HC103_1 := Aside0.mk hl103_1
              clear hi103_1 hl103_1
              replace p103 := eq_true p103
              replace q103 := eq_true q103
              go_wp2_with (first | ((with_reducible refine gate_dst (N := 5) rfl ?_); refine box_event ?hg (N := 5) ?hd (cs := #[.string (⟨#[]⟩ : ByteArray), .slice none 0 0, .int .i64 0]) (t := 61) ?hr ?_; (case hd => rfl); (case hg => rfl); (case hr => first | (go_simp; done) | (go_simp; rfl)); intro gb104 hg w12 hbox hb; have n0_ := Aside0.mk (blk_below (g := gb102) (o := .cells #[.int .i64 a0_0, .slice (some ad103) l0_1.length c0_1] 24 (0, 0)) (by (with_reducible repeat (first | refine blk_drewN ?_ _ | refine blk_drew ?_ | refine blk_alloc ?_ _)); exact BK102.out) hb); have n1_ := Aside0.mk (below_step (by repeat (first | (with_reducible first | exact HB.out | apply below_alloc | apply pw_below_drewN | apply below_drew1 | refine below_set ?_ GE102.out) | exact HB.out)) hb); have n2_ := Aside0.mk (hbox); have n3_ := Aside0.mk ((by rw [hg]; exact (below_size (by repeat (first | (with_reducible first | exact HB.out | apply below_alloc | apply pw_below_drewN | apply below_drew1 | refine below_set ?_ GE102.out) | exact HB.out))) : w.heap.size ≤ gb104)); have n4_ := Aside0.mk ((by rw [hg]; exact (below_size (by repeat (first | (with_reducible first | exact HB.out | apply below_alloc | apply pw_below_drewN | apply below_drew1 | refine below_set ?_ GE102.out) | exact HB.out))) : w.heap.size ≤ gb104)); have n5_ := Aside0.mk ((by rw [hg]; exact Nat.ne_of_lt (blk_lt (g := gb102) (o := .cells #[.int .i64 a0_0, .slice (some ad103) l0_1.length c0_1] 24 (0, 0)) (by (with_reducible repeat (first | refine blk_drewN ?_ _ | refine blk_drew ?_ | refine blk_alloc ?_ _)); exact BK102.out)) : gb102 ≠ gb104)); have n6_ := Aside0.mk ((by rw [hg]; exact Nat.ne_of_gt (blk_lt (g := gb102) (o := .cells #[.int .i64 a0_0, .slice (some ad103) l0_1.length c0_1] 24 (0, 0)) (by (with_reducible repeat (first | refine blk_drewN ?_ _ | refine blk_drew ?_ | refine blk_alloc ?_ _)); exact BK102.out)) : gb104 ≠ gb102)); clear BK102; clear HB; have BK102 := n0_; have HB := n1_; have BK104 := n2_; have GW104 := n3_; have GE104 := n4_; have NB102_104 := n5_; have NB104_102 := n6_; clear n0_ n1_ n2_ n3_ n4_ n5_ n6_; clear hb hbox hg; have hnb13 := NB104_102.out; have hnc13 := NB102_104.out; have hcz14_0 : w12.cell? ⟨gb104, 0, none⟩ = some (.string (⟨#[]⟩ : ByteArray)) := (blk_cell BK104.out 0).trans rfl; have hcz14_1 : w12.cell? ⟨gb104, 1, none⟩ = some (.slice none 0 0) := (blk_cell BK104.out 1).trans rfl; have hcz14_2 : w12.cell? ⟨gb104, 2, none⟩ = some (.int .i64 0) := (blk_cell BK104.out 2).trans rfl; have hfz14_0 := blk_frozen BK104.out 0; have hfz14_1 := blk_frozen BK104.out 1; have hfz14_2 := blk_frozen BK104.out 2; have hcz15_0 : w12.cell? ⟨gb102, 0, none⟩ = some (.int .i64 a0_0) := (blk_cell BK102.out 0).trans rfl; have hcz15_1 : w12.cell? ⟨gb102, 1, none⟩ = some (.slice (some ad103) l0_1.length c0_1) := (blk_cell BK102.out 1).trans rfl; have hfz15_0 := blk_frozen BK102.out 0; have hfz15_1 := blk_frozen BK102.out 1))
              go_roundg k1
              case measure => have := HK1.out; omega
              case rel => exact ⟨(wrap64 (x3_1 + (((rd_T61 l0_1 x9_1).f1).length : Int))), (wrap64 (x9_1 + 1)), (by first | rfl | (simp; done) | (simp [*]; done)), (by first | rfl | (simp; done) | (simp [*]; done)), H', ⟨by have := HK1.out; omega⟩, ⟨by (with_reducible repeat (first | refine blk_drewN ?_ _ | refine blk_drew ?_ | refine blk_alloc ?_ _)); refine blk_far ?_ NB102_104.out _; (with_reducible repeat (first | refine blk_drewN ?_ _ | refine blk_drew ?_ | refine blk_alloc ?_ _)); refine blk_far ?_ NB102_104.out _; (with_reducible repeat (first | refine blk_drewN ?_ _ | refine blk_drew ?_ | refine blk_alloc ?_ _)); refine blk_far ?_ NB102_104.out _; (with_reducible repeat (first | refine blk_drewN ?_ _ | refine blk_drew ?_ | refine blk_alloc ?_ _)); exact BK102.out⟩, ⟨by repeat (first | (with_reducible first | exact HB.out | apply below_alloc | apply pw_below_drewN | apply below_drew1 | refine below_set ?_ GE102.out | refine below_set ?_ GE104.out) | exact HB.out)⟩⟩
          · rw [if_neg c6] at H
            exact absurd H (by simp)
        · rw [if_neg c5] at H
          exact absurd H (by simp)
      · rw [if_neg c4] at H
        have c4b0 : decide (x9_1 < (l0_1.length : Int)) = false := decide_eq_false c4
        clear c4
        obtain rfl := Option.some.inj H
        go_wp2
        go_ret
        exact ⟨by first | rfl | (simp [errW_none, errW_some] <;> rfl) | (simp [*, errW_none, errW_some] <;> rfl), by repeat (first | (with_reducible first | exact HB.out | apply below_alloc | apply pw_below_drewN | apply below_drew1 | refine below_set ?_ GE102.out) | exact HB.out)⟩
def strings_Compare.f (a0 : ByteArray) (a1 : ByteArray) : Option Int := some (Lib.compareBytes a0.data.toList a1.data.toList)
set_option maxHeartbeats 800000 in
set_option maxRecDepth 100000 in
theorem strings_Compare.calls (a0 : ByteArray) (a1 : ByteArray) (r : Int) (w : World) (h : strings_Compare.f a0 a1 = some r) :
    Calls Try.prog 41 #[.string a0, .string a1] w fun e w' => e = .returned (.int .i64 r) ∧ Drawn0 w w' := by
  obtain rfl := Option.some.inj h
  go_enter Try.func41, Try.ntmps41
  go_wp2
  rw [run_callFunc_extern Try.func50 (by kernel_rfl) (by kernel_rfl) (by kernel_rfl) (e := Extern.BytealgCompare.compare) (by kernel_rfl), Lib.run_compareString]
  simp only [Result.andThen]
  rw [Oper.upon_value]
  go_wp2
  go_ret
  exact ⟨rfl, Drawn0.refl _⟩
end Go.Proofs.Ytopjdjljpkcdlaa.D
