/- Walks by hand. -/
import Derived.Test.YtdcifmonhaklcaaDoorTrPlR0
import Derived.Test.YtdcifmonhaklcaaDoorTrRx11
import Derived.Test.YtdcifmonhaklcaaDoorTrRx16
import Derived.Test.YtdcifmonhaklcaaDoorTrRx17
namespace Go.Proofs.YtdcifmonhaklcaaDoor.R
open Go.RowKit YtdcifmonhaklcaaDoorW.PrintWords YtdcifmonhaklcaaDoorW.PrintLast YtdcifmonhaklcaaDoorW.PrintMore
attribute [local go_sem] min2_int min_two
set_option linter.unusedVariables false
set_option linter.unusedSimpArgs false
theorem rname_eq (n : Int) (k : Nat) (hk : 20 ≤ k) : dragnetref18_Name.f k n = some (nameM n) := by
 obtain ⟨r, h1, h2⟩ := rname_f n k hk
 rw [h1, toList_inj h2]
theorem nm_mem {l : List S84} {n : ByteArray} : n ∈ nmL l ↔ ∃ j : Nat, j < l.length ∧ (rd_T84 l (j : Int)).f0 = n := by
 unfold nmL
 rw [List.mem_map]
 constructor
 ·rintro ⟨x, hx, rfl⟩
  obtain ⟨j, hj, hxj⟩ := List.mem_iff_getElem.1 hx
  exact ⟨j, hj, by rw [rd_get l j hj, hxj]⟩
 ·rintro ⟨j, hj, rfl⟩
  exact ⟨_, rdm l j hj, rfl⟩
theorem found_mem {l : List S84} (hs : Srt l) (n : ByteArray) : foundS l n = true ↔ n ∈ nmL l := by
 rw [nm_mem]
 constructor
 ·intro h
  exact ⟨idxS l n, found_lt h, found_name h⟩
 ·rintro ⟨j, hj, hn⟩
  have h0 : cmpS n n = 0 := cmp_self _
  have hge : idxS l n ≤ j := idx_high l n hj (by rw [hn, h0]; omega)
  have hlt : idxS l n < l.length := by omega
  have he : idxS l n = j := by
   rcases Nat.lt_or_eq_of_le hge with h | h
   ·have h1 := srt_get hs h hj
    rw [hn] at h1
    exact absurd h1 (above_idx hs n (Nat.le_refl _) hlt)
   ·exact h
  unfold foundS
  rw [he, hn, h0, decide_eq_true hj]
  rfl
theorem nm_nmd {room : Int} {l : List S84} (hf : FormedR room l) {n : ByteArray} (h : n ∈ nmL l) : nmd n := by
 obtain ⟨j, hj, rfl⟩ := nm_mem.1 h
 have h1 := ((formed_iff room l).1 hf).1 j hj
 exact h1.1
theorem rr_zero {room : Int} {l : List S84} (hf : FormedR room l) (n : ByteArray) : (RR room l n).2 = 0 ↔ Lib.containsS (nmL l) n = true := by
 rw [Lib.containsS_iff]
 unfold RR
 constructor
 ·intro h
  by_cases c : FormedR room l ∧ nmd n
  ·rw [if_pos c] at h
   by_cases c2 : foundS l n = true
   ·exact (found_mem (formed_srt hf) n).1 c2
   ·rw [if_neg c2] at h
    exact absurd h (by decide)
  ·rw [if_neg c] at h
   exact absurd h (by decide)
 ·intro h
  rw [if_pos ⟨hf, nm_nmd hf h⟩, if_pos ((found_mem (formed_srt hf) n).2 h)]
theorem stay_len (rs : List S63) (i : Nat) (h : i ≤ rs.length) : (recStay rs i).length = i + 1 := by
 unfold recStay
 rw [List.length_cons, List.length_map, List.length_take]
 omega
section
variable (room : Int) (l : List S84) (rs : List S63) (nx sq : Int)
theorem rec_l2 (st : List ByteArray) (ops : List S60) (t : Nat) (ht : t < l.length) (hl : l.length ≤ 1000) (hst : st.length ≤ 1000) (ho : ops.length ≤ 1000) (K : Nat) : ∀ (m j : Nat) (b : Bool), j + m = st.length → dragnetref18_Recover.l2 (K + m + 1) st ops (t : Int) b (j : Int) room l rs nx sq = (if (b || inSt (st.drop j) (rd_T84 l (t : Int)).f0.data.toList) = true then dragnetref18_Recover.l1 K st ops ((t + 1 : Nat) : Int) room l rs nx sq else dragnetref18_Recover.l1 K st (ops ++ [opR (rd_T84 l (t : Int)).f0]) ((t + 1 : Nat) : Int) room l rs nx sq) := by
 intro m
 have hw : wrap64 ((t : Int) + 1) = ((t + 1 : Nat) : Int) := by unfold wrap64; omega
 induction m with
 | zero =>
  intro j b h
  rw [Nat.add_zero, dragnetref18_Recover.l2, if_neg (by omega), List.drop_of_length_le (by omega)]
  cases b with
  | true => rw [if_pos rfl, if_pos (by rfl), hw]
  | false => rw [if_neg Bool.false_ne_true, if_pos (by omega), if_pos (by omega), if_pos (by omega), if_neg (by exact Bool.false_ne_true), hw]; rfl
 | succ m ih =>
  intro j b h
  have hwj : wrap64 ((j : Int) + 1) = ((j + 1 : Nat) : Int) := by unfold wrap64; omega
  have hj : j < st.length := by omega
  have hr : rdOf ByteArray.empty st (j : Int) = st[j] := by
   unfold rdOf
   rw [Int.toNat_natCast, List.getD_eq_getElem?_getD, List.getElem?_eq_getElem hj]
   rfl
  have hd : inSt (st.drop j) (rd_T84 l (t : Int)).f0.data.toList = ((rdOf ByteArray.empty st (j : Int)).toList == (rd_T84 l (t : Int)).f0.toList || inSt (st.drop (j + 1)) (rd_T84 l (t : Int)).f0.data.toList) := by
   rw [List.drop_eq_getElem_cons hj, hr, Lib.toList_data, Lib.toList_data]
   rfl
  rw [show K + (m + 1) + 1 = (K + m + 1) + 1 by omega, dragnetref18_Recover.l2, if_pos (by omega)]
  cases b with
  | true => rw [if_pos rfl, hwj, ih (j + 1) true (by omega), Bool.true_or, Bool.true_or]
  | false => rw [if_neg Bool.false_ne_true, if_pos (by omega), if_pos (by omega), if_pos (by omega), hwj, ih (j + 1) _ (by omega), Bool.false_or, hd]
theorem rec_l1 (st : List ByteArray) (hl : l.length ≤ 1000) (hst : st.length ≤ 1000) (e : Nat) : ∀ (m t : Nat), t + m = l.length → dragnetref18_Recover.l1 (m * (st.length + 2) + 1 + e) st (recOps ((nmL l).take t) st) (t : Int) room l rs nx sq = some (rs, nx, sq, recOps (nmL l) st, 0) := by
 intro m
 induction m with
 | zero =>
  intro t h
  rw [show 0 * (st.length + 2) + 1 + e = e + 1 by omega, dragnetref18_Recover.l1, if_neg (by omega), List.take_of_length_le (by rw [nm_len]; omega)]
 | succ m ih =>
  intro t h
  have ho : (recOps ((nmL l).take t) st).length ≤ 1000 := by
   have := recOps_len ((nmL l).take t) st
   rw [List.length_take, nm_len] at this
   omega
  have hn : rdOf ByteArray.empty (nmL l) (t : Int) = (rd_T84 l (t : Int)).f0 := by
   unfold rdOf
   rw [Int.toNat_natCast, List.getD_eq_getElem?_getD, List.getElem?_eq_getElem (by rw [nm_len]; omega), rd_get l t (by omega)]
   unfold nmL
   rw [List.getElem_map]
   rfl
  rw [show (m + 1) * (st.length + 2) + 1 + e = ((m * (st.length + 2) + 1 + e) + st.length + 1) + 1 by rw [Nat.add_mul]; omega, dragnetref18_Recover.l1, if_pos (by omega)]
  have h2 := rec_l2 room l rs nx sq st (recOps ((nmL l).take t) st) t (by omega) hl hst ho (m * (st.length + 2) + 1 + e) st.length 0 false (by omega)
  rw [show ((0 : Nat) : Int) = 0 from rfl, List.drop_zero, Bool.false_or] at h2
  rw [h2]
  have hs := recOps_succ (nmL l) st t (by rw [nm_len]; omega)
  rw [hn] at hs
  by_cases c : inSt st (rd_T84 l (t : Int)).f0.data.toList = true
  ·rw [if_pos c] at hs ⊢
   rw [List.append_nil] at hs
   rw [← hs]
   exact ih (t + 1) (by omega)
  ·rw [if_neg c] at hs ⊢
   rw [← hs]
   exact ih (t + 1) (by omega)
theorem rec_l0 (hr : Reach l) (hf : FormedR room l) (hrs : rs.length ≤ 64) (K : Nat) (hK : l.length + 30 ≤ K) : ∀ (m i : Nat), i + m = rs.length → (∀ j, j < i → Lib.containsS (nmL l) (nameM (rd_T63 rs (j : Int)).f0) = true) → dragnetref18_Recover.l0 (K + m + 1) (recStay rs i) (i : Int) room l rs nx sq = (if recOk (nmL l) rs = true then dragnetref18_Recover.l1 K (recStay rs rs.length) [] 0 room l rs nx sq else some ([], 0, 0, [], 13)) := by
 intro m
 induction m with
 | zero =>
  intro i h hok
  obtain rfl : i = rs.length := by omega
  rw [Nat.add_zero, dragnetref18_Recover.l0, if_neg (by omega), if_pos (recOk_yes hok)]
 | succ m ih =>
  intro i h hok
  have hw : wrap64 ((i : Int) + 1) = ((i + 1 : Nat) : Int) := by unfold wrap64; omega
  rw [show K + (m + 1) + 1 = (K + m + 1) + 1 by omega, dragnetref18_Recover.l0, if_pos (by omega), if_pos (by omega), rname_eq _ _ (by omega), Option.bind_some, at_rounds (fun k => dragnetref16_Read.mono _ _ _ k) (show l.length + 2 ≤ K + m + 1 by omega) (ref_read room l _ hr), Option.bind_some]
  by_cases c : (RR room l (nameM (rd_T63 rs (i : Int)).f0)).2 = 0
  ·have hc := (rr_zero hf _).1 c
   rw [if_pos c, if_pos (by rw [stay_len rs i (by omega)]; omega), hw, ← recStay_succ rs i (by omega)]
   exact ih (i + 1) (by omega) (fun j hj => by
    rcases Nat.lt_or_eq_of_le (Nat.lt_succ_iff.1 hj) with h3 | h3
    ·exact hok j h3
    ·rw [h3]
     exact hc)
  ·have hc : Lib.containsS (nmL l) (nameM (rd_T63 rs (i : Int)).f0) = false := by
    cases hcc : Lib.containsS (nmL l) (nameM (rd_T63 rs (i : Int)).f0) with
    | true => exact absurd ((rr_zero hf _).2 hcc) c
    | false => rfl
   rw [if_neg c, if_neg (by rw [recOk_no (by omega) hc]; exact Bool.false_ne_true)]
end
theorem takeF_err (l : List Int) (h : (takeF l).2.2.2 ≠ 0) : takeF l = ([], 0, 0, 13) := by
 unfold takeF at h ⊢
 by_cases c : (unwrap l).2 = 0
 ·rw [if_pos c] at h ⊢
  unfold takeM at h ⊢
  simp only [] at h ⊢
  split
  ·rfl
  ·next hn =>
   rw [if_neg hn] at h
   exact absurd rfl h
 ·rw [if_neg c]
def manB : ByteArray := ⟨#[109]⟩
def recC (l : List S84) : List S63 × Int × Int × Int := if foundS l manB = true then takeF (rd_T84 l (idxS l manB : Int)).f1 else ([], 0, 0, 0)
def recF (room : Int) (l : List S84) : List S63 × Int × Int × List S60 × Int :=
 if FormedR room l then (if (recC l).2.2.2 = 0 then (if recOk (nmL l) (recC l).1 = true then ((recC l).1, (recC l).2.1, (recC l).2.2.1, recOps (nmL l) (recStay (recC l).1 (recC l).1.length), 0) else ([], 0, 0, [], 13)) else ([], 0, 0, [], 13)) else ([], 0, 0, [], 1)
theorem recC_len (l : List S84) : (recC l).1.length ≤ 64 := by
 unfold recC
 split
 ·exact takeF_len _
 ·exact Nat.zero_le _
def BytesD (l : List S84) : Prop := ∀ x ∈ l, Bytes x.f1
theorem rec_m {room : Int} {l : List S84} (hf : FormedR room l) : RR room l manB = if foundS l manB = true then ((rd_T84 l (idxS l manB : Int)).f1, 0) else ([], 8) := by
 unfold RR
 rw [if_pos ⟨hf, by unfold nmd manB; decide⟩]
theorem own_rec (room : Int) (l : List S84) (hr : Reach l) (hb : BytesD l) : manifest_Recover.f room l = some (recF room l) := by
 unfold manifest_Recover.f recF
 rw [show (⟨#[109]⟩ : ByteArray) = manB from rfl, own_read room l manB hr, Option.bind_some]
 by_cases hf : FormedR room l
 ·rw [if_pos hf, rec_m hf]
  have hN : store_Names.f (3 * l.length + 3) room l = some (nmL l) := by rw [own_names room l hr, if_pos hf]
  have hlen : (nmL l).length ≤ 274877906944 := by
   have := hf.2.2.2.1
   rw [nm_len]
   omega
  have hsz : ∀ n, n ∈ nmL l → n.size ≤ maxLen := fun n hn => by
   have h2 := (nm_nmd hf hn).2
   unfold maxLen
   omega
  have key : ∀ c : List S63 × Int × Int × Int, c.1.length ≤ 64 → (c.2.2.2 ≠ 0 → c = ([], 0, 0, 13)) → ((some c).bind fun t => if t.2.2.2 = 0 then ((store_Names.f (3 * l.length + 3) room l).bind fun names => if names.length ≤ 274877906944 ∧ t.1.length ≤ 64 ∧ ∀ n, n ∈ names → n.size ≤ maxLen then (if recOk names t.1 = true then some (t.1, t.2.1, t.2.2.1, recOps names (recStay t.1 t.1.length), 0) else some ([], 0, 0, [], 13)) else none) else some ([], 0, 0, [], t.2.2.2)) = some (if c.2.2.2 = 0 then (if recOk (nmL l) c.1 = true then (c.1, c.2.1, c.2.2.1, recOps (nmL l) (recStay c.1 c.1.length), 0) else ([], 0, 0, [], 13)) else ([], 0, 0, [], 13)) := by
   intro c hc he
   rw [Option.bind_some]
   by_cases c0 : c.2.2.2 = 0
   ·rw [if_pos c0, if_pos c0, hN, Option.bind_some, if_pos ⟨hlen, hc, hsz⟩]
    by_cases c1 : recOk (nmL l) c.1 = true
    ·rw [if_pos c1, if_pos c1]
    ·rw [if_neg c1, if_neg c1]
   ·rw [if_neg c0, if_neg c0, he c0]
  cases hfd : foundS l manB with
  | true =>
   have hi := rdm l _ (found_lt hfd)
   have hC : recC l = takeF (rd_T84 l (idxS l manB : Int)).f1 := by unfold recC; rw [if_pos hfd]
   rw [if_pos rfl, if_neg (show ¬ (0 : Int) = 1 by decide), if_pos (show (((rd_T84 l (idxS l manB : Int)).f1, (0 : Int)) : List Int × Int).2 = 0 from rfl), mtake_f (hb _ hi) (by have := hr.2 _ hi; show (rd_T84 l (idxS l manB : Int)).f1.length < _; omega), hC]
   exact key _ (takeF_len _) (takeF_err _)
  | false =>
   have hC : recC l = ([], 0, 0, 0) := by unfold recC; rw [hfd, if_neg Bool.false_ne_true]
   rw [if_neg Bool.false_ne_true, if_neg (show ¬ (8 : Int) = 1 by decide), if_neg (show ¬ (8 : Int) = 0 by decide), hC]
   exact key ([], 0, 0, 0) (Nat.zero_le _) (fun h => absurd rfl h)
 ·have hRR : RR room l manB = ([], 1) := by unfold RR; rw [if_neg (fun h => hf h.1)]
  rw [if_neg hf, hRR, if_pos rfl]
theorem ref_rec (room : Int) (l : List S84) (hr : Reach l) (hb : BytesD l) : ∃ K, ∀ k, K ≤ k → dragnetref18_Recover.f k room l = some (recF room l) := by
 by_cases hf : FormedR room l
 ·have hl := hf.2.2.2.1
  have hcl := recC_len l
  obtain ⟨s, hs⟩ : ∃ s, s = (recStay (recC l).1 (recC l).1.length).length := ⟨_, rfl⟩
  have hs2 : s ≤ 65 := by rw [hs, stay_len _ _ (Nat.le_refl _)]; omega
  obtain ⟨K, hK⟩ : ∃ K, K = l.length * (s + 2) + 1 + (l.length + 30) := ⟨_, rfl⟩
  refine ⟨K + (recC l).1.length + 2, fun k hk => at_rounds (fun k => dragnetref18_Recover.mono _ _ k) hk ?_⟩
  have hj : ∀ (rs : List S63) (nx sq : Int), rs = (recC l).1 → dragnetref18_Recover.j0 (K + (recC l).1.length + 2) room l rs nx sq = some (if recOk (nmL l) rs = true then (rs, nx, sq, recOps (nmL l) (recStay rs rs.length), 0) else ([], 0, 0, [], 13)) := by
   intro rs nx sq hrs
   rw [show K + (recC l).1.length + 2 = (K + rs.length + 1) + 1 by rw [hrs], dragnetref18_Recover.j0]
   have h0 := rec_l0 room l rs nx sq hr hf (by rw [hrs]; exact hcl) K (by rw [hK]; omega) rs.length 0 (by omega) (fun j hj => absurd hj (Nat.not_lt_zero j))
   have e0 : recStay rs 0 = [⟨#[109]⟩] := rfl
   rw [e0] at h0
   rw [show ((0 : Nat) : Int) = 0 from rfl] at h0
   rw [h0]
   by_cases c : recOk (nmL l) rs = true
   ·rw [if_pos c, if_pos c]
    have h1 := rec_l1 room l rs nx sq (recStay rs rs.length) (by omega) (by rw [hrs, ← hs]; omega) (l.length + 30) l.length 0 (by omega)
    rw [hrs, ← hs, ← hK] at h1
    rw [hrs]
    exact h1
   ·rw [if_neg c, if_neg c]
  have h16 : dragnetref16_Formed.f room l = some true := by
   unfold dragnetref16_Formed.f
   rw [if_pos (by omega), decide_eq_true hf]
  have hrd : dragnetref16_Read.f (K + (recC l).1.length + 2) room l manB = some (RR room l manB) := at_rounds (fun k => dragnetref16_Read.mono _ _ _ k) (by rw [hK]; omega) (ref_read room l manB hr)
  unfold dragnetref18_Recover.f
  rw [h16, Option.bind_some, if_pos rfl, show (⟨#[109]⟩ : ByteArray) = manB from rfl, hrd, rec_m hf, Option.bind_some]
  unfold recF
  rw [if_pos hf]
  cases hfd : foundS l manB with
  | true =>
   have hi := rdm l _ (found_lt hfd)
   have hC : recC l = takeF (rd_T84 l (idxS l manB : Int)).f1 := by unfold recC; rw [if_pos hfd]
   rw [if_pos rfl, if_pos (show (((rd_T84 l (idxS l manB : Int)).f1, (0 : Int)) : List Int × Int).2 = 0 from rfl), rtake18_f (hb _ hi) (by have := hr.2 _ hi; show (rd_T84 l (idxS l manB : Int)).f1.length < _; omega), Option.bind_some, ← hC]
   by_cases c0 : (recC l).2.2.2 = 0
   ·rw [if_pos c0, if_pos c0, hj _ _ _ rfl]
   ·rw [if_neg c0, if_neg c0]
  | false =>
   have hC : recC l = ([], 0, 0, 0) := by unfold recC; rw [hfd, if_neg Bool.false_ne_true]
   rw [if_neg Bool.false_ne_true, if_neg (show ¬ (8 : Int) = 0 by decide), hj [] 0 0 (by rw [hC]), hC, if_pos rfl]
 ·refine ⟨0, fun k hk => ?_⟩
  have hlt := hr.1
  unfold dragnetref18_Recover.f dragnetref16_Formed.f recF
  rw [if_pos (by omega), Option.bind_some, decide_eq_false hf, if_neg Bool.false_ne_true, if_neg hf]
theorem recF_len (room : Int) (l : List S84) : (recF room l).1.length ≤ 64 ∧ (recF room l).2.2.2.1.length ≤ 256 := by
 unfold recF
 by_cases hf : FormedR room l
 ·rw [if_pos hf]
  by_cases c0 : (recC l).2.2.2 = 0
  ·rw [if_pos c0]
   by_cases c1 : recOk (nmL l) (recC l).1 = true
   ·rw [if_pos c1]
    refine ⟨recC_len l, ?_⟩
    show (recOps (nmL l) _).length ≤ 256
    have := recOps_len (nmL l) (recStay (recC l).1 (recC l).1.length)
    have h2 := hf.2.2.2.1
    rw [nm_len] at this
    omega
   ·rw [if_neg c1]
    exact ⟨Nat.zero_le _, Nat.zero_le _⟩
  ·rw [if_neg c0]
   exact ⟨Nat.zero_le _, Nat.zero_le _⟩
 ·rw [if_neg hf]
  exact ⟨Nat.zero_le _, Nat.zero_le _⟩
end Go.Proofs.YtdcifmonhaklcaaDoor.R
