/- Walks by hand. -/
import Derived.Test.YtdcifmonhaklcaaDoorTaPlA0
namespace Go.Proofs.YtdcifmonhaklcaaDoor.A
open Go.RowKit YtdcifmonhaklcaaDoorW.PrintWords YtdcifmonhaklcaaDoorW.PrintLast YtdcifmonhaklcaaDoorW.PrintMore
attribute [local go_sem] max2_int min2_int max_two min_two
set_option linter.unusedVariables false
set_option linter.unusedSimpArgs false
theorem unwrap_len {l : List Int} (e : (unwrap l).2 = 0) : 8 ≤ l.length ∧ (l.length : Int) = num l + 8 := by
 unfold unwrap at e
 by_cases c : 8 ≤ l.length ∧ num l < (l.length : Int) - 8 ∧ num l ≤ 16777216
 ·rw [if_pos c] at e
  exact absurd e (by decide)
 ·rw [if_neg c] at e
  replace e : (first l).2.2 = 0 := e
  unfold first at e
  by_cases c1 : l.length < 8
  ·rw [if_pos c1] at e
   exact absurd e (by decide)
  ·rw [if_neg c1] at e
   by_cases c2 : num l > 16777216
   ·rw [if_pos c2] at e
    exact absurd e (by decide)
   ·rw [if_neg c2] at e
    by_cases c3 : num l > (l.length : Int) - 8
    ·rw [if_pos c3] at e
     exact absurd e (by decide)
    ·omega
theorem unwrap_cut {l : List Int} (e : (unwrap l).2 = 0) {m : Nat} (hm : m < l.length) : (unwrap (l.take m)).2 ≠ 0 := by
 intro h
 have h1 := unwrap_len e
 have h2 := unwrap_len h
 have hl : (l.take m).length = m := by rw [List.length_take]; omega
 rw [hl] at h2
 have h3 : num l = num (l.take m) := by
  conv => lhs; rw [← List.take_append_drop m l]
  exact num_append (by rw [hl]; omega)
 omega
theorem takeF_ok {l : List Int} (h : (takeF l).2.2.2 = 0) : (unwrap l).2 = 0 := by
 unfold takeF at h
 by_cases c : (unwrap l).2 = 0
 ·exact c
 ·rw [if_neg c] at h
  exact absurd h (by decide)
theorem takeF_cut {l : List Int} (h : (takeF l).2.2.2 = 0) {m : Nat} (hm : m < l.length) : takeF (l.take m) = ([], 0, 0, 13) := by
 unfold takeF
 rw [if_neg (unwrap_cut (takeF_ok h) hm)]
theorem found_in {l : List S84} (hs : Srt l) (n : ByteArray) : foundS l n = true ↔ n ∈ nmL l := by
 unfold nmL
 rw [List.mem_map]
 constructor
 ·intro h
  exact ⟨_, (found_mem hs h).1, (found_mem hs h).2⟩
 ·rintro ⟨x, hx, he⟩
  exact (mem_found hs hx he).1
theorem in_nm {l : List S84} {n : ByteArray} : n ∈ nmL l ↔ ∃ x ∈ l, x.f0 = n := by unfold nmL; rw [List.mem_map]
theorem recOk_iff {l : List S84} {rs : List S63} : recOk (nmL l) rs = true ↔ ∀ x ∈ rs, nameM x.f0 ∈ nmL l := by
 unfold recOk
 rw [List.all_eq_true]
 exact ⟨fun h x hx => (Lib.containsS_iff _ _).1 (h x hx), fun h x hx => (Lib.containsS_iff _ _).2 (h x hx)⟩
theorem recC_some {l : List S84} (hs : Srt l) {x : S84} (hx : x ∈ l) (he : x.f0 = manB) : recC l = takeF x.f1 := by
 unfold recC
 have h := mem_found hs hx he
 rw [if_pos h.1, h.2]
theorem recC_none {l : List S84} (hs : Srt l) (h : ∀ x ∈ l, x.f0 ≠ manB) : recC l = ([], 0, 0, 0) := by
 unfold recC
 rw [if_neg]
 intro hf
 exact h _ (found_mem hs hf).1 (found_mem hs hf).2
def GoodM (room : Int) (l : List S84) (rs : List S63) (nx sq : Int) : Prop := FormedR room l ∧ BytesD l ∧ recC l = (rs, nx, sq, 0) ∧ ∀ x ∈ rs, nameM x.f0 ∈ nmL l
theorem rec_of_good {room : Int} {l : List S84} {rs : List S63} {nx sq : Int} (h : GoodM room l rs nx sq) : recF room l = (rs, nx, sq, recOps (nmL l) (recStay rs rs.length), 0) := by
 obtain ⟨h1, _, h2, h3⟩ := h
 unfold recF
 rw [if_pos h1, h2]
 simp only []
 rw [if_pos trivial, if_pos (recOk_iff.2 h3)]
theorem good_of_rec {room : Int} {l : List S84} (hb : BytesD l) (h : (recF room l).2.2.2.2 = 0) : GoodM room l (recF room l).1 (recF room l).2.1 (recF room l).2.2.1 := by
 unfold recF at h ⊢
 by_cases hf : FormedR room l
 ·rw [if_pos hf] at h ⊢
  by_cases c0 : (recC l).2.2.2 = 0
  ·rw [if_pos c0] at h ⊢
   by_cases c1 : recOk (nmL l) (recC l).1 = true
   ·rw [if_pos c1]
    refine ⟨hf, hb, ?_, recOk_iff.1 c1⟩
    show recC l = ((recC l).1, (recC l).2.1, (recC l).2.2.1, 0)
    rw [← c0]
   ·rw [if_neg c1] at h
    exact absurd h (by decide)
  ·rw [if_neg c0] at h
   exact absurd h (by decide)
 ·rw [if_neg hf] at h
  exact absurd h (by decide)
theorem rec_bad {room : Int} {l : List S84} (h : (recF room l).2.2.2.2 ≠ 0) : (recF room l).2.2.2.1 = [] := by
 unfold recF at h ⊢
 by_cases hf : FormedR room l
 ·rw [if_pos hf] at h ⊢
  by_cases c0 : (recC l).2.2.2 = 0
  ·rw [if_pos c0] at h ⊢
   by_cases c1 : recOk (nmL l) (recC l).1 = true
   ·rw [if_pos c1] at h
    exact absurd rfl h
   ·rw [if_neg c1]
  ·rw [if_neg c0]
 ·rw [if_neg hf]
theorem good_step {room : Int} {l l' : List S84} {rs : List S63} {nx sq : Int} (h : GoodM room l rs nx sq) (hf : FormedR room l') (hb : BytesD l') (hm : ∀ x : S84, x.f0 = manB → (x ∈ l' ↔ x ∈ l)) (hn : ∀ r ∈ rs, nameM r.f0 ∈ nmL l') : GoodM room l' rs nx sq := by
 refine ⟨hf, hb, ?_, hn⟩
 rw [← h.2.2.1]
 have s := formed_srt h.1
 have s' := formed_srt hf
 by_cases c : ∃ x ∈ l, x.f0 = manB
 ·obtain ⟨x, hx, he⟩ := c
  rw [recC_some s hx he, recC_some s' ((hm x he).2 hx) he]
 ·have c1 : ∀ x ∈ l, x.f0 ≠ manB := fun x hx he => c ⟨x, hx, he⟩
  rw [recC_none s c1, recC_none s' (fun x hx he => c1 x ((hm x he).1 hx) he)]
theorem mem_erase {l : List S84} (hs : Srt l) {n : ByteArray} (hf : foundS l n = true) (x : S84) : x ∈ l.eraseIdx (idxS l n) ↔ x ∈ l ∧ x.f0 ≠ n := by
 have hi := found_lt hf
 have hn := found_name hf
 have hsplit : l = l.take (idxS l n) ++ rd_T84 l (idxS l n : Int) :: l.drop (idxS l n + 1) := by
  rw [rd_get l _ hi, ← List.drop_eq_getElem_cons hi, List.take_append_drop]
 have hpw : (l.take (idxS l n) ++ rd_T84 l (idxS l n : Int) :: l.drop (idxS l n + 1)).Pairwise (fun a b => cmpS a.f0 b.f0 < 0) := by rw [← hsplit]; exact hs
 rw [List.pairwise_append] at hpw
 obtain ⟨_, h2, h3⟩ := hpw
 rw [List.pairwise_cons] at h2
 rw [List.eraseIdx_eq_take_drop_succ]
 have self : ¬ cmpS n n < 0 := by have : cmpS n n = 0 := cmp_self _; omega
 constructor
 ·intro h
  rcases List.mem_append.1 h with h | h
  ·refine ⟨List.mem_of_mem_take h, fun he => self ?_⟩
   have := h3 x h _ (List.mem_cons_self)
   rwa [he, hn] at this
  ·refine ⟨List.mem_of_mem_drop h, fun he => self ?_⟩
   have := h2.1 x h
   rwa [he, hn] at this
 ·rintro ⟨h, he⟩
  rw [hsplit] at h
  rcases List.mem_append.1 h with h | h
  ·exact List.mem_append.2 (.inl h)
  ·rcases List.mem_cons.1 h with h | h
   ·exact absurd (by rw [h]; exact hn) he
   ·exact List.mem_append.2 (.inr h)
theorem mem_set {l : List S84} (hs : Srt l) {n : ByteArray} (hf : foundS l n = true) (x y : S84) : x ∈ l.set (idxS l n) y ↔ x = y ∨ (x ∈ l ∧ x.f0 ≠ n) := by
 rw [← mem_erase hs hf, List.eraseIdx_eq_take_drop_succ, List.set_eq_take_append_cons_drop, if_pos (found_lt hf), List.mem_append, List.mem_append, List.mem_cons]
 constructor
 ·rintro (h | h | h)
  ·exact .inr (.inl h)
  ·exact .inl h
  ·exact .inr (.inr h)
 ·rintro (h | h | h)
  ·exact .inr (.inl h)
  ·exact .inl h
  ·exact .inr (.inr h)
theorem mem_putAt {l : List S84} (i : Nat) (x y : S84) : x ∈ putAt l i y ↔ x = y ∨ x ∈ l := by
 unfold putAt
 rw [List.mem_append, List.mem_cons]
 have : x ∈ l ↔ x ∈ l.take i ∨ x ∈ l.drop i := by rw [← List.mem_append, List.take_append_drop]
 rw [this]
 constructor
 ·rintro (h | h | h)
  ·exact .inr (.inl h)
  ·exact .inl h
  ·exact .inr (.inr h)
 ·rintro (h | h | h)
  ·exact .inr (.inl h)
  ·exact .inl h
  ·exact .inr (.inr h)
theorem do_f {room : Int} {l : List S84} (h : FormedR room l) (kind : Int) (n t : ByteArray) (b : List Int) (hb : b.length ≤ 140737488351232) : store_Do.f room l kind n t b = some (doR room l kind n t b) := by
 unfold store_Do.f
 rw [if_pos ⟨(reach_of h).small, hb⟩]
theorem doL_rm (l : List S84) (n : ByteArray) : doL l 4 n ⟨#[]⟩ [] = l.eraseIdx (idxS l n) := by
 unfold doL
 simp only []
 rw [if_neg (by decide), if_neg (by decide), if_pos trivial]
theorem do_rm {room : Int} {l : List S84} (h : FormedR room l) {n : ByteArray} (hn : n ∈ nmL l) :
  store_Do.f room l 4 n ⟨#[]⟩ [] = some (room, l.eraseIdx (idxS l n), 0) ∧ FormedR room (l.eraseIdx (idxS l n)) := by
 have hf := (found_in (formed_srt h) n).2 hn
 have hd := nm_nmd h hn
 have hF := (doL_formed (bytes := []) h hd (kind := 4) (nto := ⟨#[]⟩) (by omega) (fun h => by omega) (fun _ => hf) (fun h => by omega) (fun h => by omega)).1
 rw [doL_rm] at hF
 refine ⟨?_, hF⟩
 rw [do_f h _ _ _ _ (Nat.zero_le _)]
 unfold doR
 rw [if_neg (fun hh => by rcases hh with hh | hh | hh | hh; exact hh h; exact hh hd; omega; omega), if_neg (fun hh => by omega), if_neg (fun hh => by rw [hf] at hh; exact absurd hh.1 (by decide)), if_neg (fun hh => by omega), if_neg (fun hh => by omega), doL_rm]
theorem bytesD_sub {l l' : List S84} (h : BytesD l) (hs : ∀ x ∈ l', x ∈ l) : BytesD l' := fun x hx => h x (hs x hx)
def goL (l : List S84) (rs : List S63) : List ByteArray := (nmL l).filter fun x => !(inSt (recStay rs rs.length) x.data.toList)
theorem inSt_iff (st : List ByteArray) (x : ByteArray) : inSt st x.data.toList = true ↔ x ∈ st := by
 unfold inSt
 rw [List.any_eq_true]
 constructor
 ·rintro ⟨n, hn, he⟩
  have h2 : n.data.toList = x.data.toList := by simpa using he
  have : n = x := by
   cases n
   cases x
   congr 1
   exact Array.toList_inj.1 h2
  rw [← this]
  exact hn
 ·intro h
  exact ⟨x, h, by simp⟩
theorem mem_go {l : List S84} {rs : List S63} {n : ByteArray} : n ∈ goL l rs ↔ n ∈ nmL l ∧ n ∉ recStay rs rs.length := by
 unfold goL
 rw [List.mem_filter]
 have h := inSt_iff (recStay rs rs.length) n
 constructor
 ·rintro ⟨h1, h2⟩
  exact ⟨h1, fun hm => by rw [h.2 hm] at h2; exact absurd h2 (by decide)⟩
 ·rintro ⟨h1, h2⟩
  refine ⟨h1, ?_⟩
  cases hc : inSt (recStay rs rs.length) n.data.toList with
  | false => rfl
  | true => exact absurd (h.1 hc) h2
theorem stay_iff (rs : List S63) (n : ByteArray) : n ∈ recStay rs rs.length ↔ n = manB ∨ ∃ x ∈ rs, nameM x.f0 = n := by
 unfold recStay
 rw [List.take_length, List.mem_cons, List.mem_map]
 exact Iff.rfl
theorem nm_nodup {l : List S84} (hs : Srt l) : (nmL l).Nodup := by
 have h := (srt_names l).1 hs
 refine List.Pairwise.imp (fun {a b} hab e => ?_) h
 subst e
 have : cmpS a a = 0 := cmp_self _
 omega
theorem go_nodup {l : List S84} (hs : Srt l) (rs : List S63) : (goL l rs).Nodup := List.Pairwise.sublist List.filter_sublist (nm_nodup hs)
def Clr (room : Int) (rs : List S63) (nx sq : Int) (G : List ByteArray) (i : Nat) (l : List S84) : Prop :=
 GoodM room l rs nx sq ∧ (∀ n ∈ G.drop i, n ∈ nmL l) ∧ ∀ n ∈ nmL l, n ∈ recStay rs rs.length ∨ n ∈ G.drop i
theorem clr_start {room : Int} {l : List S84} {rs : List S63} {nx sq : Int} (h : GoodM room l rs nx sq) : Clr room rs nx sq (goL l rs) 0 l := by
 refine ⟨h, fun n hn => (mem_go.1 hn).1, fun n hn => ?_⟩
 by_cases c : n ∈ recStay rs rs.length
 ·exact .inl c
 ·exact .inr (mem_go.2 ⟨hn, c⟩)
theorem clr_step {room : Int} {rs : List S63} {nx sq : Int} {G : List ByteArray} {i : Nat} {l : List S84} (hG : G.Nodup) (hst : ∀ n ∈ G, n ∉ recStay rs rs.length) (hi : i < G.length) (h : Clr room rs nx sq G i l) :
  ∃ l', store_Do.f room l 4 G[i] ⟨#[]⟩ [] = some (room, l', 0) ∧ Clr room rs nx sq G (i + 1) l' := by
 obtain ⟨h1, h2, h3⟩ := h
 have hs := formed_srt h1.1
 have hd : G.drop i = G[i] :: G.drop (i + 1) := List.drop_eq_getElem_cons hi
 have hin : G[i] ∈ nmL l := h2 _ (by rw [hd]; exact List.mem_cons_self)
 have hns := hst _ (List.getElem_mem hi)
 have hf := (found_in hs _).2 hin
 obtain ⟨hD, hF⟩ := do_rm h1.1 hin
 have hnm : ∀ n, n ∈ nmL (l.eraseIdx (idxS l G[i])) ↔ n ∈ nmL l ∧ n ≠ G[i] := by
  intro n
  rw [in_nm, in_nm]
  constructor
  ·rintro ⟨x, hx, rfl⟩
   have := (mem_erase hs hf x).1 hx
   exact ⟨⟨x, this.1, rfl⟩, this.2⟩
  ·rintro ⟨⟨x, hx, rfl⟩, hne⟩
   exact ⟨x, (mem_erase hs hf x).2 ⟨hx, hne⟩, rfl⟩
 refine ⟨_, hD, good_step h1 hF (bytesD_sub h1.2.1 fun x hx => ((mem_erase hs hf x).1 hx).1) (fun x hx => ?_) (fun r hr => (hnm _).2 ⟨h1.2.2.2 r hr, fun e => hns ((stay_iff _ _).2 (.inr ⟨r, hr, e⟩))⟩), fun n hn => (hnm n).2 ⟨h2 n (by rw [hd]; exact List.mem_cons_of_mem _ hn), fun e => ?_⟩, fun n hn => ?_⟩
 ·rw [mem_erase hs hf]
  exact ⟨fun hh => hh.1, fun hh => ⟨hh, fun e => hns ((stay_iff _ _).2 (.inl (by rw [← e]; exact hx)))⟩⟩
 ·subst e
  have hnd : (G.drop i).Nodup := List.Pairwise.sublist (List.drop_sublist _ _) hG
  rw [hd, List.nodup_cons] at hnd
  exact hnd.1 hn
 ·have := (hnm n).1 hn
  rcases h3 n this.1 with h | h
  ·exact .inl h
  ·rw [hd] at h
   rcases List.mem_cons.1 h with h | h
   ·exact absurd h this.2
   ·exact .inr h
def nextB : ByteArray := ⟨#[110]⟩
theorem name_not {n : Int} : nameM n ≠ manB ∧ nameM n ≠ nextB := by
 by_cases h : 0 ≤ n ∧ n ≤ 2147483647
 ·have hl := name_list h.1 h.2
  constructor
  ·intro e
   rw [e] at hl
   have h2 : manB.toList = [109] := by rw [Lib.toList_data]; rfl
   rw [h2] at hl
   injection hl with hl _
   exact absurd hl (by decide)
  ·intro e
   rw [e] at hl
   have h2 : nextB.toList = [110] := by rw [Lib.toList_data]; rfl
   rw [h2] at hl
   injection hl with hl _
   exact absurd hl (by decide)
 ·have he : nameM n = ⟨#[]⟩ := by
   unfold nameM
   by_cases h1 : n < 0
   ·rw [if_pos h1]
   ·rw [if_neg h1, if_pos (by omega)]
  rw [he]
  decide
theorem no_next {room : Int} {rs : List S63} {nx sq : Int} {G : List ByteArray} {l : List S84} (h : Clr room rs nx sq G G.length l) : nextB ∉ nmL l := by
 intro hn
 rcases h.2.2 _ hn with h | h
 ·rcases (stay_iff _ _).1 h with h | ⟨x, _, h⟩
  ·exact absurd h (by decide)
  ·exact name_not.2 h
 ·rw [List.drop_length] at h
  cases h
def PK (room : Int) (rs : List S63) (nx sq : Int) (rl : List S63) (b : List Int) (k : Nat) (l : List S84) : Prop :=
 FormedR room l ∧ BytesD l ∧ (∀ x ∈ rl, nameM x.f0 ∈ nmL l) ∧ (k < 3 → GoodM room l rs nx sq) ∧ (k = 0 → nextB ∉ nmL l) ∧ (k = 1 ∨ k = 2 → ∃ x ∈ l, x.f0 = nextB ∧ x.f1 = b ∧ (k = 2 → x.f2 = (b.length : Int))) ∧ (k = 3 → ∃ x ∈ l, x.f0 = manB ∧ x.f1 = b ∧ x.f2 = (b.length : Int))
theorem man_ne_next : manB ≠ nextB := by decide
theorem nmd_man : nmd manB := by unfold nmd manB; decide
theorem nmd_next : nmd nextB := by unfold nmd nextB; decide
theorem bytesD_put {l : List S84} (h : BytesD l) {i : Nat} {y : S84} (hy : Bytes y.f1) : BytesD (putAt l i y) := fun x hx => by
 rcases (mem_putAt _ _ _).1 hx with rfl | hx
 ·exact hy
 ·exact h x hx
theorem bytesD_set {l : List S84} (h : BytesD l) (hs : Srt l) {n : ByteArray} (hf : foundS l n = true) {y : S84} (hy : Bytes y.f1) : BytesD (l.set (idxS l n) y) := fun x hx => by
 rcases (mem_set hs hf _ _).1 hx with rfl | hx
 ·exact hy
 ·exact h x hx.1
theorem pk0 {room : Int} {rs : List S63} {nx sq : Int} {rl : List S63} {b : List Int} {l : List S84} (h : GoodM room l rs nx sq) (hr : ∀ x ∈ rl, nameM x.f0 ∈ nmL l) (hn : nextB ∉ nmL l) : PK room rs nx sq rl b 0 l :=
 ⟨h.1, h.2.1, hr, fun _ => h, fun _ => hn, fun h => by omega, fun h => by omega⟩
theorem pk1 {room : Int} {rs : List S63} {nx sq : Int} {rl : List S63} {b : List Int} {l : List S84} (h : PK room rs nx sq rl b 0 l) (hB : Bytes b) (hb : b.length ≤ 140737488351232) :
  (∃ e : Int, (e = 6 ∨ e = 11) ∧ store_Do.f room l 1 nextB ⟨#[]⟩ b = some (0, [], e)) ∨ ∃ l', store_Do.f room l 1 nextB ⟨#[]⟩ b = some (room, l', 0) ∧ PK room rs nx sq rl b 1 l' := by
 obtain ⟨hf, hbd, hr, hg, hn, _, _⟩ := h
 have hs := formed_srt hf
 have hnf : foundS l nextB = false := by
  cases hc : foundS l nextB with
  | false => rfl
  | true => exact absurd ((found_in hs _).1 hc) (hn rfl)
 rw [do_f hf _ _ _ _ hb]
 unfold doR
 rw [if_neg (fun hh => by rcases hh with hh | hh | hh | hh; exact hh hf; exact hh nmd_next; omega; omega), if_neg (fun hh => by omega), if_neg (fun hh => by omega)]
 by_cases c1 : l.length = 256
 ·left
  exact ⟨6, .inl rfl, by rw [if_pos ⟨rfl, hnf, c1⟩]⟩
 rw [if_neg (fun hh => c1 hh.2.2)]
 by_cases c2 : totS l + (b.length : Int) > room
 ·left
  exact ⟨11, .inr rfl, by rw [if_pos ⟨rfl, c2⟩]⟩
 rw [if_neg (fun hh => c2 hh.2)]
 right
 have hF := (doL_formed (bytes := b) hf nmd_next (kind := 1) (nto := ⟨#[]⟩) (by omega) (fun h => by omega) (fun h => by omega) (fun _ _ => c1) (fun _ => by omega)).1
 have hd : doL l 1 nextB ⟨#[]⟩ b = putAt l (idxS l nextB) ⟨nextB, b, 0⟩ := by
  unfold doL
  simp only []
  rw [if_pos trivial, hnf, if_neg (by decide)]
 rw [hd] at hF ⊢
 have hin : ∀ n, n ∈ nmL l → n ∈ nmL (putAt l (idxS l nextB) ⟨nextB, b, 0⟩) := by
  intro n hn
  obtain ⟨x, hx, he⟩ := in_nm.1 hn
  exact in_nm.2 ⟨x, (mem_putAt _ _ _).2 (.inr hx), he⟩
 have hbd2 := bytesD_put (i := idxS l nextB) (y := ⟨nextB, b, 0⟩) hbd hB
 refine ⟨_, rfl, hF, hbd2, fun x hx => hin _ (hr x hx), fun _ => good_step (hg (by omega)) hF hbd2 (fun x hx => ?_) (fun r hr' => hin _ ((hg (by omega)).2.2.2 r hr')), fun h => by omega, fun _ => ⟨⟨nextB, b, 0⟩, (mem_putAt _ _ _).2 (.inl rfl), rfl, rfl, fun h => by omega⟩, fun h => by omega⟩
 rw [mem_putAt]
 refine ⟨fun hh => hh.elim (fun e => ?_) id, .inr⟩
 rw [e] at hx
 exact absurd hx.symm man_ne_next
theorem pk2 {room : Int} {rs : List S63} {nx sq : Int} {rl : List S63} {b : List Int} {l : List S84} (h : PK room rs nx sq rl b 1 l) (hB : Bytes b) :
  ∃ l', store_Do.f room l 2 nextB ⟨#[]⟩ [] = some (room, l', 0) ∧ PK room rs nx sq rl b 2 l' := by
 obtain ⟨hf, hbd, hr, hg, _, hx, _⟩ := h
 obtain ⟨y, hy, he, hyb, _⟩ := hx (.inl rfl)
 have hs := formed_srt hf
 obtain ⟨hfo, hrd⟩ := mem_found hs hy he
 have hF := (doL_formed (bytes := []) hf nmd_next (kind := 2) (nto := ⟨#[]⟩) (by omega) (fun h => by omega) (fun _ => hfo) (fun h => by omega) (fun h => by omega)).1
 have hd : doL l 2 nextB ⟨#[]⟩ [] = l.set (idxS l nextB) ⟨y.f0, y.f1, (y.f1.length : Int)⟩ := by
  unfold doL
  simp only []
  rw [if_neg (by decide), if_pos trivial, hrd]
 rw [hd] at hF
 have hin : ∀ n, n ∈ nmL l → n ∈ nmL (l.set (idxS l nextB) ⟨y.f0, y.f1, (y.f1.length : Int)⟩) := by
  intro n hn
  obtain ⟨x, hx, hxe⟩ := in_nm.1 hn
  by_cases c : x.f0 = nextB
  ·exact in_nm.2 ⟨_, (mem_set hs hfo _ _).2 (.inl rfl), by show y.f0 = n; rw [he, ← c, hxe]⟩
  ·exact in_nm.2 ⟨x, (mem_set hs hfo _ _).2 (.inr ⟨hx, c⟩), hxe⟩
 have hbd2 := bytesD_set (y := ⟨y.f0, y.f1, (y.f1.length : Int)⟩) hbd hs hfo (hbd y hy)
 refine ⟨_, ?_, hF, hbd2, fun x hx => hin _ (hr x hx), fun _ => good_step (hg (by omega)) hF hbd2 (fun x hx => ?_) (fun r hr' => hin _ ((hg (by omega)).2.2.2 r hr')), fun h => by omega, fun _ => ⟨_, (mem_set hs hfo _ _).2 (.inl rfl), he, hyb, fun _ => by show (y.f1.length : Int) = _; rw [hyb]⟩, fun h => by omega⟩
 ·rw [do_f hf _ _ _ _ (Nat.zero_le _)]
  unfold doR
  rw [if_neg (fun hh => by rcases hh with hh | hh | hh | hh; exact hh hf; exact hh nmd_next; omega; omega), if_neg (fun hh => by omega), if_neg (fun hh => by rw [hfo] at hh; exact absurd hh.1 (by decide)), if_neg (fun hh => by omega), if_neg (fun hh => by omega), hd]
 ·rw [mem_set hs hfo]
  refine ⟨fun hh => hh.elim (fun e => ?_) (fun e => e.1), fun hh => .inr ⟨hh, fun e => man_ne_next (by rw [← e, hx])⟩⟩
  rw [e] at hx
  exact absurd (hx.symm.trans he) man_ne_next
theorem pk3 {room : Int} {rs : List S63} {nx sq : Int} {rl : List S63} {b : List Int} {l : List S84} (h : PK room rs nx sq rl b 2 l) (hB : Bytes b) :
  ∃ l', store_Do.f room l 3 nextB manB [] = some (room, l', 0) ∧ PK room rs nx sq rl b 3 l' := by
 obtain ⟨hf, hbd, hr, hg, _, hx, _⟩ := h
 obtain ⟨y, hy, he, hyb, hys⟩ := hx (.inr rfl)
 have hys := hys rfl
 have hs := formed_srt hf
 obtain ⟨hfo, hrd⟩ := mem_found hs hy he
 have hF := (doL_formed (bytes := []) hf nmd_next (kind := 3) (nto := manB) (by omega) (fun _ => nmd_man) (fun _ => hfo) (fun h => by omega) (fun h => by omega)).1
 have hse := srt_erase hs (idxS l nextB)
 have hme := mem_erase hs hfo
 have hD : store_Do.f room l 3 nextB manB [] = some (room, doL l 3 nextB manB [], 0) := by
  rw [do_f hf _ _ _ _ (Nat.zero_le _)]
  unfold doR
  rw [if_neg (fun hh => by rcases hh with hh | hh | hh | hh; exact hh hf; exact hh nmd_next; omega; omega), if_neg (fun hh => hh.2 nmd_man), if_neg (fun hh => by rw [hfo] at hh; exact absurd hh.1 (by decide)), if_neg (fun hh => by omega), if_neg (fun hh => by omega)]
 have hmem : ∀ x, x ∈ doL l 3 nextB manB [] ↔ x = ⟨manB, y.f1, y.f2⟩ ∨ (x ∈ l ∧ x.f0 ≠ nextB ∧ x.f0 ≠ manB) := by
  intro x
  unfold doL
  simp only []
  rw [if_neg (by decide), if_neg (by decide), if_neg (by decide), hrd]
  generalize l.eraseIdx (idxS l nextB) = E at hse hme ⊢
  cases hc : foundS E manB with
  | true =>
   rw [if_pos rfl, mem_set hse hc, hme, and_assoc]
  | false =>
   rw [if_neg (by decide), mem_putAt, hme]
   constructor
   ·rintro (h | h)
    ·exact .inl h
    ·exact .inr ⟨h.1, h.2, fun e => not_found hse hc ((hme x).2 h) e⟩
   ·rintro (h | h)
    ·exact .inl h
    ·exact .inr ⟨h.1, h.2.1⟩
 refine ⟨_, hD, hF, fun x hx => ?_, fun x hx => ?_, fun h => by omega, fun h => by omega, fun h => by omega, fun _ => ⟨_, (hmem _).2 (.inl rfl), rfl, hyb, hys⟩⟩
 ·rcases (hmem x).1 hx with rfl | hx
  ·exact hbd y hy
  ·exact hbd x hx.1
 ·obtain ⟨z, hz, hze⟩ := in_nm.1 (hr x hx)
  exact in_nm.2 ⟨z, (hmem z).2 (.inr ⟨hz, by rw [hze]; exact name_not.2, by rw [hze]; exact name_not.1⟩), hze⟩
theorem crash_nm (keeps : List S97) (l : List S84) : nmL (l.map (crashF keeps)) = nmL l := by
 unfold nmL
 rw [List.map_map]
 rfl
theorem crash_bytes (keeps : List S97) {l : List S84} (h : BytesD l) : BytesD (l.map (crashF keeps)) := by
 intro x hx
 obtain ⟨y, hy, rfl⟩ := List.mem_map.1 hx
 exact (h y hy).take _
theorem crash_rec {room : Int} {rs : List S63} {nx sq : Int} {rl : List S63} {cn cs : Int} {k : Nat} {l : List S84} (keeps : List S97) (hF : FormedC rl cn cs) (h : PK room rs nx sq rl (frame (bytesC rl cn cs)) k l) (hk : k ≤ 3) :
  (∃ ops, recF room (l.map (crashF keeps)) = (if k < 3 then rs else rl, if k < 3 then nx else cn, if k < 3 then sq else cs, ops, 0)) ∨ (k < 3 ∧ recF room (l.map (crashF keeps)) = ([], 0, 0, [], 13) ∧ ∃ x ∈ l, x.f0 = manB ∧ x.f2 < (x.f1.length : Int)) := by
 obtain ⟨hf, hbd, hr, hg, _, _, h3⟩ := h
 have hs := formed_srt hf
 have hcf := crash_formed keeps hf
 have hcs := formed_srt hcf
 have hokx := ((formed_iff2 room l).1 hf).2.1
 by_cases hk3 : k < 3
 ·obtain ⟨_, _, g2, g3⟩ := hg hk3
  have hcn : ∀ r ∈ rs, nameM r.f0 ∈ nmL (l.map (crashF keeps)) := by rw [crash_nm]; exact g3
  rw [if_pos hk3, if_pos hk3, if_pos hk3]
  by_cases c : ∃ x ∈ l, x.f0 = manB
  ·obtain ⟨x, hx, he⟩ := c
   obtain ⟨k1, k2, k4⟩ := crash_ok (keeps := keeps) (hokx x hx)
   have hC := recC_some hs hx he
   have hC2 := recC_some hcs (List.mem_map.2 ⟨x, hx, rfl⟩) (show (crashF keeps x).f0 = manB from he)
   rw [g2] at hC
   by_cases c2 : (crashF keeps x).f1.length < x.f1.length
   ·right
    refine ⟨hk3, ?_, x, hx, he, by omega⟩
    have : takeF (crashF keeps x).f1 = ([], 0, 0, 13) := by
     rw [k4]
     exact takeF_cut (by rw [← hC]) c2
    unfold recF
    rw [if_pos hcf, hC2, this]
    simp only []
    rw [if_neg (by decide)]
   ·left
    have e : (crashF keeps x).f1 = x.f1 := by
     rw [k4]
     exact List.take_of_length_le (by omega)
    exact ⟨_, rec_of_good ⟨hcf, crash_bytes keeps hbd, by rw [hC2, e, ← hC], hcn⟩⟩
  ·left
   have c1 : ∀ x ∈ l, x.f0 ≠ manB := fun x hx he => c ⟨x, hx, he⟩
   have hC := recC_none hs c1
   have hC2 := recC_none hcs (fun y hy he => by
    obtain ⟨x, hx, rfl⟩ := List.mem_map.1 hy
    exact c1 x hx he)
   exact ⟨_, rec_of_good ⟨hcf, crash_bytes keeps hbd, by rw [hC2, ← hC, g2], hcn⟩⟩
 ·left
  obtain ⟨x, hx, he, hxb, hxs⟩ := h3 (by omega)
  rw [if_neg hk3, if_neg hk3, if_neg hk3]
  obtain ⟨k1, k2, k4⟩ := crash_ok (keeps := keeps) (hokx x hx)
  have e : (crashF keeps x).f1 = x.f1 := by
   rw [k4]
   exact List.take_of_length_le (by rw [hxb]; omega)
  have hC2 := recC_some hcs (List.mem_map.2 ⟨x, hx, rfl⟩) (show (crashF keeps x).f0 = manB from he)
  exact ⟨_, rec_of_good ⟨hcf, crash_bytes keeps hbd, by rw [hC2, e, hxb, take_frame hF], by rw [crash_nm]; exact hr⟩⟩
theorem sure_l0 (room : Int) (l : List S84) (hl : l.length ≤ 256) {x : S84} (hx : x.f0 = manB) (hlt : x.f2 < (x.f1.length : Int)) : ∀ (n i : Nat), i + n = l.length → x ∈ l.drop i → dragnetlaw18_sure.l0 (n + 1) (i : Int) room l = some false := by
 intro n
 induction n with
 | zero =>
  intro i hi h
  rw [List.drop_of_length_le (by omega)] at h
  cases h
 | succ n ih =>
  intro i hi h
  have hil : i < l.length := by omega
  have hw : wrap64 ((i : Int) + 1) = ((i + 1 : Nat) : Int) := by unfold wrap64; omega
  rw [dragnetlaw18_sure.l0, if_pos (by omega), if_pos (by omega), hw]
  rw [List.drop_eq_getElem_cons hil, ← rd_get l i hil] at h
  rcases List.mem_cons.1 h with h | h
  ·have hm : x.f0.toList = [109] := by rw [hx, Lib.toList_data]; rfl
   rw [← h, if_pos hm, if_pos hlt]
  ·rw [ih (i + 1) (by omega) h]
   split
   ·split <;> rfl
   ·rfl
theorem sure_f (room : Int) {l : List S84} (hl : l.length ≤ 256) (h : ∃ x ∈ l, x.f0 = manB ∧ x.f2 < (x.f1.length : Int)) : dragnetlaw18_sure.f 300 room l = some false := by
 obtain ⟨x, hx, he, hlt⟩ := h
 refine at_rounds (fun k => dragnetlaw18_sure.mono _ _ k) (show l.length + 1 ≤ 300 by omega) ?_
 exact sure_l0 room l hl he hlt l.length 0 (by omega) (by rw [List.drop_zero]; exact hx)
def has (l : List S84) (x : S63) : Bool := foundS l (nameM x.f0)
theorem read_has {room : Int} {l : List S84} (h : FormedR room l) (x : S63) : ∃ (b : List Int) (e : Int), store_Read.f 800 room l (nameM x.f0) = some (b, e) ∧ (e = 0 ↔ has l x = true) := by
 have hr := own_read room l (nameM x.f0) (reach_of h)
 have hl := h.2.2.2.1
 have h8 := at_rounds (fun k => store_Read.mono _ _ _ k) (show 3 * l.length + 3 ≤ 800 by omega) hr
 refine ⟨(RR room l (nameM x.f0)).1, (RR room l (nameM x.f0)).2, h8, ?_⟩
 unfold RR has
 by_cases c : foundS l (nameM x.f0) = true
 ·have hn := nm_nmd h ((found_in (formed_srt h) _).1 c)
  rw [if_pos ⟨h, hn⟩, if_pos c]
  simp [c]
 ·constructor
  ·intro h0
   by_cases c1 : FormedR room l ∧ nmd (nameM x.f0)
   ·rw [if_pos c1, if_neg c] at h0
    exact absurd h0 (by decide)
   ·rw [if_neg c1] at h0
    exact absurd h0 (by decide)
  ·intro h0
   exact absurd h0 c
def leftL (l : List S84) (cl : List S63) : List S63 := cl.filter (has l)
theorem left_in {room : Int} {l : List S84} (h : FormedR room l) (cl : List S63) : ∀ x ∈ leftL l cl, nameM x.f0 ∈ nmL l := fun x hx => (found_in (formed_srt h) _).1 (List.mem_filter.1 hx).2
theorem commit_f {rl : List S63} {cn cs : Int} (h : rl.length < 140737488355328) : manifest_Commit.f rl cn cs = some (if FormedC rl cn cs then ([⟨1, nextB, ⟨#[]⟩, frame (bytesC rl cn cs)⟩, ⟨2, nextB, ⟨#[]⟩, []⟩, ⟨3, nextB, manB, []⟩], 0) else ([], 1)) := by
 unfold manifest_Commit.f manifest_Put.f
 rw [if_pos h]
 by_cases c : FormedC rl cn cs
 ·rw [if_pos c, if_pos c, wrap_f _ (by have := bytesC_len c; omega), Option.bind_some, if_pos rfl]
  rfl
 ·rw [if_neg c, if_neg c, Option.bind_some, if_neg (by decide)]
theorem formed18_f {rl : List S63} {cn cs : Int} (h : rl.length < 140737488355328) : dragnetref18_Formed.f rl cn cs = some (decide (FormedC rl cn cs)) := by
 unfold dragnetref18_Formed.f
 rw [if_pos h]
theorem go_len {room : Int} {l : List S84} {rs : List S63} {nx sq : Int} (h : GoodM room l rs nx sq) : (goL l rs).length ≤ 256 := by
 unfold goL
 have h1 := List.length_filter_le (fun x : ByteArray => !(inSt (recStay rs rs.length) x.data.toList)) (nmL l)
 have h2 := h.1.2.2.2.1
 rw [nm_len] at h1
 omega
theorem rs_len {room : Int} {l : List S84} {rs : List S63} {nx sq : Int} (h : GoodM room l rs nx sq) : rs.length ≤ 140737488355328 := by
 have h1 := recC_len l
 rw [h.2.2.1] at h1
 show rs.length ≤ _
 have : rs.length ≤ 64 := h1
 omega
theorem rd60_get (l : List S60) (i : Nat) (h : i < l.length) : rd_T60 l (i : Int) = l[i] := by
 unfold rd_T60
 rw [Int.toNat_natCast, List.getD_eq_getElem?_getD, List.getElem?_eq_getElem h]
 rfl
theorem rm_step {room : Int} {rs : List S63} {nx sq : Int} {G : List ByteArray} {ops : List S60} {i : Nat} {l : List S84} (ho : ops = G.map opR) (hG : G.Nodup) (hst : ∀ n ∈ G, n ∉ recStay rs rs.length) (h : Clr room rs nx sq G i l) (hi : i < ops.length) :
  ∃ nm l', store_Do.f room l 4 nm ⟨#[]⟩ [] = some (room, l', 0) ∧ Clr room rs nx sq G (i + 1) l' ∧ rd_T60 ops (i : Int) = ⟨4, nm, ⟨#[]⟩, []⟩ := by
 subst ho
 have hi2 : i < G.length := by rwa [List.length_map] at hi
 obtain ⟨l', h1, h2⟩ := clr_step hG hst hi2 h
 refine ⟨_, l', h1, h2, ?_⟩
 rw [rd60_get _ i hi, List.getElem_map]
 rfl
theorem left_succ (l : List S84) (cl : List S63) (i : Nat) (h : i < cl.length) : leftL l (cl.take (i + 1)) = leftL l (cl.take i) ++ (if has l (rd_T63 cl (i : Int)) = true then [rd_T63 cl (i : Int)] else []) := by
 rw [take63 cl i h]
 unfold leftL
 rw [List.filter_append, List.filter_cons, List.filter_nil]
theorem crash_f {room : Int} {l : List S84} {keeps : List S97} (h : FormedR room l) (hk : KeepsOK keeps) : store_Crash.f room l keeps = some (room, l.map (crashF keeps), 0) := by
 unfold store_Crash.f
 rw [if_pos ⟨(reach_of h).small, hk⟩, if_pos h]
theorem st_step {room : Int} {rs : List S63} {nx sq : Int} {rl : List S63} {cn cs : Int} {st : List S60} {k : Nat} {l : List S84} (hst : st = [⟨1, nextB, ⟨#[]⟩, frame (bytesC rl cn cs)⟩, ⟨2, nextB, ⟨#[]⟩, []⟩, ⟨3, nextB, manB, []⟩]) (h : PK room rs nx sq rl (frame (bytesC rl cn cs)) (k - 1) l) (hk : 1 ≤ k) (hk3 : k ≤ 3) (hF : FormedC rl cn cs) :
  ∃ (kind : Int) (tn : ByteArray) (bs : List Int), rd_T60 st ((k - 1 : Nat) : Int) = ⟨kind, nextB, tn, bs⟩ ∧ bs.length ≤ 140737488351232 ∧ ((∃ e : Int, (e = 6 ∨ e = 11) ∧ k = 1 ∧ store_Do.f room l kind nextB tn bs = some (0, [], e)) ∨ ∃ l', store_Do.f room l kind nextB tn bs = some (room, l', 0) ∧ PK room rs nx sq rl (frame (bytesC rl cn cs)) k l') := by
 subst hst
 have hB : Bytes (frame (bytesC rl cn cs)) := frame_bytes (bytesC_byte hF)
 have hlen : (frame (bytesC rl cn cs)).length ≤ 140737488351232 := by
  rw [frame_length]
  have := bytesC_len hF
  omega
 rcases (show k = 1 ∨ k = 2 ∨ k = 3 by omega) with rfl | rfl | rfl
 ·refine ⟨1, ⟨#[]⟩, frame (bytesC rl cn cs), rfl, hlen, ?_⟩
  rcases pk1 h hB hlen with ⟨e, he, hd⟩ | ⟨l', hd, hp⟩
  ·exact .inl ⟨e, he, rfl, hd⟩
  ·exact .inr ⟨l', hd, hp⟩
 ·refine ⟨2, ⟨#[]⟩, [], rfl, Nat.zero_le _, ?_⟩
  obtain ⟨l', hd, hp⟩ := pk2 h hB
  exact .inr ⟨l', hd, hp⟩
 ·refine ⟨3, manB, [], rfl, Nat.zero_le _, ?_⟩
  obtain ⟨l', hd, hp⟩ := pk3 h hB
  exact .inr ⟨l', hd, hp⟩
theorem heap84 : Kd.Heap k84 := Kd.heap_iso _ (Kd.heap_pair Kd.heap_string (Kd.heap_pair (Kd.heap_slice 5 (Kd.heap_int _)) (Kd.heap_int _)))
theorem heap63 : Kd.Heap k63 := Kd.heap_iso _ (Kd.heap_pair (Kd.heap_int _) (Kd.heap_pair (Kd.heap_int _) (Kd.heap_pair (Kd.heap_int _) (Kd.heap_int _))))
theorem do_calls (a0_0 : Int) (A : Option Addr) (c : Nat) (L : List S84) (kind : Int) (nm tn : ByteArray) (A3 : Option Addr) (n3 e3 : Nat) (bs : List Int) (r1 : Int) (r2 : List S84) (r3 : Int) (w : World) (hr : Kd.C k84 w A L.length L) (hc : L.length ≤ c) (hb : Kd.C (Kd.int .u8) w A3 n3 bs) (hn : bs.length = n3) (he : n3 ≤ e3) (h : store_Do.f a0_0 L kind nm tn bs = some (r1, r2, r3)) :
  Calls Tryd.prog 29 #[.agg #[.int .i64 a0_0, .slice A L.length c], .agg #[.int .i64 kind, .string nm, .string tn, .slice A3 n3 e3]] w fun e w' => ∃ v1_ : Value, e = .returned (.tuple #[.agg #[.int .i64 r1, v1_], .int .i64 r3]) ∧ Kd.V k84 84 w' w.heap.size (fun k_ => w.heap.size ≤ k_) v1_ r2 ∧ Below w.heap.size w w' := by
 subst hn
 exact store_Do.calls a0_0 A c L kind nm tn A3 e3 bs r1 r2 r3 w hr hc hb he h
end Go.Proofs.YtdcifmonhaklcaaDoor.A
