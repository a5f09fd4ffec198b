/- Walks: each Go function told here comes to what the plain function beside it says, wherever that one answers. -/
import Derived.Test.YtdcifmonhaklcaaDoorTaAx0
import Derived.Test.YtdcifmonhaklcaaDoorTaAx2
import Derived.Test.YtdcifmonhaklcaaDoorTaAx3
import Derived.Test.YtdcifmonhaklcaaDoorTaAx5
import Derived.Test.YtdcifmonhaklcaaDoorTaAx9
namespace Go.Proofs.YtdcifmonhaklcaaDoor.A
open Go.RowKit YtdcifmonhaklcaaDoorW.PrintWords YtdcifmonhaklcaaDoorW.PrintLast YtdcifmonhaklcaaDoorW.PrintMore
attribute [local go_sem] max2_int min2_int max_two min_two
set_option linter.unusedVariables false
set_option linter.unusedSimpArgs false
theorem dec_length (k : Nat) : ∀ u, u < 10 ^ (k + 1) → (Lib.decDigits u).length ≤ k + 1 := by
 induction k with
 | zero =>
  intro u h
  rw [Lib.decDigits_one (by omega)]
  exact Nat.le_refl 1
 | succ k ih =>
  intro u h
  rw [Lib.decDigits]
  by_cases h1 : u < 10
  ·rw [dif_pos h1]
   exact Nat.succ_le_succ (Nat.zero_le _)
  ·rw [dif_neg h1, List.length_append]
   have := ih (u / 10) (by rw [Nat.pow_succ] at h; omega)
   rw [List.length_singleton]
   omega
def nameM (n : Int) : ByteArray := if n < 0 then ⟨#[]⟩ else if n > 2147483647 then ⟨#[]⟩ else (⟨#[115]⟩ : ByteArray) ++ ⟨(Lib.decDigits n.toNat).toArray⟩
theorem name_f (n : Int) : manifest_Name.f n = some (nameM n) := by
 unfold manifest_Name.f nameM
 by_cases h1 : n < 0
 ·rw [if_pos h1, if_pos h1]
 ·rw [if_neg h1, if_neg h1]
  by_cases h2 : n > 2147483647
  ·rw [if_pos h2, if_pos h2]
  ·rw [if_neg h2, if_neg h2]
   unfold strconv_Itoa.f
   have e : Lib.itoa n = Lib.decDigits n.toNat := by unfold Lib.itoa; rw [if_neg h1]
   have hl := dec_length 9 n.toNat (by omega)
   rw [if_pos ⟨by omega, by omega⟩, Option.bind_some, e, if_pos (by show 1 + (Lib.decDigits n.toNat).toArray.size ≤ _; rw [List.size_toArray]; omega)]
theorem name_list {n : Int} (h0 : 0 ≤ n) (h1 : n ≤ 2147483647) : (nameM n).toList = 115 :: Lib.decDigits n.toNat := by
 unfold nameM
 rw [if_neg (by omega), if_neg (by omega), Lib.toList_data, ByteArray.data_append]
 simp
theorem name_out {n : Int} (h : n < 0 ∨ n > 2147483647) : (nameM n).toList = [] := by
 unfold nameM
 by_cases h1 : n < 0
 ·rw [if_pos h1, Lib.toList_data]
 ·rw [if_neg h1, if_pos (by omega), Lib.toList_data]
open Go.Maps
theorem keyLawS : Keyed Tryd.prog 9 := string_keyed Tryd.underlying9
theorem keyOf_strb (s : ByteArray) (h : s.size ≤ maxLen) : keyOf Tryd.prog 9 (.string s) = some (.string s.data.toList) := by
 simp [keyOf, Tryd.underlying9, mapKey]
 exact h
def inSt (s : List ByteArray) (q : List UInt8) : Bool := s.any fun n => n.data.toList == q
def StayOf (D : DataW Unit) (s : List ByteArray) : Prop := IsMap D ∧ ∀ q : List UInt8, D.atKey (.string q) (.lit (.bool false)) = .lit (.bool (inSt s q))
theorem StayOf.start : StayOf (.map []) [] := ⟨isMap_empty, fun q => rfl⟩
theorem StayOf.step {D : DataW Unit} {s : List ByteArray} (h : StayOf D s) (n : ByteArray) : StayOf (D.put (.string n.data.toList) (.lit (.bool true))) (s ++ [n]) := by
 refine ⟨h.1.put _ _, fun q => ?_⟩
 unfold inSt
 rw [List.any_append]
 by_cases hq : n.data.toList = q
 ·subst hq
  rw [show ([n].any fun m => m.data.toList == n.data.toList) = true by simp, Bool.or_true]
  exact atKey_put_same h.1 (show WideAt.IsKeyLit (.string _) from trivial) _ _
 ·have hne : (Lit.string q) ≠ .string n.data.toList := fun e => by
   injection e with e
   exact hq e.symm
  rw [atKey_put_other hne, h.2 q, show ([n].any fun m => m.data.toList == q) = false by simp [hq], Bool.or_false]
  rfl
theorem look_str {D : DataW Unit} {gm n : Nat} {W : World} {s : List ByteArray} (h : W.ownsMap Tryd.prog 9 (plainElem (H := Unit) Tryd.prog 4) gm n D) (hs : StayOf D s) (x : ByteArray) (hx : x.size ≤ maxLen) :
  (Instr.lookup 87 (.map (some gm)) (.string x) false).run Tryd.prog W = .ok (.bool (inSt s x.data.toList)) W := by
 obtain ⟨v, ps, h2, h3⟩ := h.lookup keyLawS Tryd.underlying87 (zeroB4 W) (plainElem_bool Tryd.underlying4 false) (keyOf_strb x hx)
 rw [hs.2] at h3
 rw [h2]
 have h4 : v = .bool (inSt s x.data.toList) := by
  unfold plainElem at h3
  simp only [Tryd.underlying4] at h3
  cases v <;> simp at h3
  rw [h3.1]
 rw [h4]
theorem ownsMap_grown {P : Program} {k : TypeId} {R : Value → Option (DataW Unit × List MemPlace)} {W W' : World} {b n : Nat} {D : DataW Unit} {row : Option Nat} (h : W.ownsMap P k R b n D) (hg : W.grownBy W' row) (hn : some b ≠ row) : W'.ownsMap P k R b n D := by
 have hlt := h.lt
 obtain ⟨es, clock, hb, r⟩ := h
 exact ⟨es, clock, (hg.block b hlt hn).trans hb, r⟩
theorem ownsMap_noCells {P : Program} {k : TypeId} {R : Value → Option (DataW Unit × List MemPlace)} {W : World} {b n : Nat} {D : DataW Unit} (h : W.ownsMap P k R b n D) {c : Array Value} {t : Nat} {f : Nat × Nat} : W.heap[b]? ≠ some (.cells c t f) := by
 obtain ⟨es, clock, hb, _⟩ := h
 rw [hb]
 intro e
 injection e with e
 cases e
theorem contains_calls (W : World) (A : Option Addr) (c : Nat) (names : List ByteArray) (x : ByteArray) (hN : Kd.C Kd.string W A names.length names) (hl : names.length ≤ 9223372036854775807) :
  Calls Tryd.prog 45 #[.slice A names.length c, .string x] W fun e w' => e = .returned (.bool (Lib.containsS names x)) ∧ w' = W := by
 cases names with
 | nil => exact Tryd.slices_Contains_string_empty A c x W
 | cons m r =>
  obtain ⟨ad, hA, h0⟩ := Kd.at_string hN 0 (Int.le_refl _) (by rw [List.length_cons]; omega)
  subst hA
  obtain ⟨b, off, spot⟩ := ad
  have hs : spot = none := by
   cases spot with
   | none => rfl
   | some y =>
    exfalso
    have h1 : W.cell? ⟨b, off, some y⟩ = some (.string (rdOf ByteArray.empty (m :: r) 0)) := h0
    unfold World.cell? at h1
    simp only [] at h1
    split at h1
    ·rw [if_pos (by rfl)] at h1
     cases h1
    ·cases h1
  subst hs
  have h2 := Tryd.slices_Contains_string b off (m :: r).length c (m :: r) x W (Nat.le_refl _) hl (fun j hj => by
   obtain ⟨ad, hA, h3⟩ := Kd.at_string hN (j : Int) (by omega) (by omega)
   injection hA with hA
   subst hA
   rw [Int.toNat_natCast] at h3
   by_cases hj0 : j = 0
   ·subst hj0
    exact h3
   ·unfold Addr.add at h3
    rw [if_neg hj0] at h3
    exact h3)
  rw [List.take_length] at h2
  exact h2
def recStay (rs : List S63) (i : Nat) : List ByteArray := ⟨#[109]⟩ :: (rs.take i).map fun x => nameM x.f0
theorem recStay_succ (rs : List S63) (i : Nat) (h : i < rs.length) : recStay rs (i + 1) = recStay rs i ++ [nameM (rd_T63 rs (i : Int)).f0] := by
 unfold recStay
 rw [take63 rs i h, List.map_append, List.cons_append]
 rfl
def recOk (names : List ByteArray) (rs : List S63) : Bool := rs.all fun x => Lib.containsS names (nameM x.f0)
theorem recOk_no {names : List ByteArray} {rs : List S63} {i : Nat} (h : i < rs.length) (hc : Lib.containsS names (nameM (rd_T63 rs (i : Int)).f0) = false) : recOk names rs = false := by
 unfold recOk
 rw [List.all_eq_false]
 refine ⟨rd_T63 rs (i : Int), ?_, by rw [hc]; exact Bool.false_ne_true⟩
 unfold rd_T63
 rw [Int.toNat_natCast, List.getD_eq_getElem?_getD, List.getElem?_eq_getElem h]
 exact List.getElem_mem h
theorem recOk_yes {names : List ByteArray} {rs : List S63} (h : ∀ i, i < rs.length → Lib.containsS names (nameM (rd_T63 rs (i : Int)).f0) = true) : recOk names rs = true := by
 unfold recOk
 rw [List.all_eq_true]
 intro x hx
 obtain ⟨i, hi, hxi⟩ := List.mem_iff_getElem.1 hx
 have h2 := h i hi
 unfold rd_T63 at h2
 rw [Int.toNat_natCast, List.getD_eq_getElem?_getD, List.getElem?_eq_getElem hi, hxi] at h2
 exact h2
def opR (x : ByteArray) : S60 := ⟨4, x, ⟨#[]⟩, []⟩
def recOps (names st : List ByteArray) : List S60 := (names.filter fun x => !(inSt st x.data.toList)).map opR
theorem recOps_succ (names st : List ByteArray) (i : Nat) (h : i < names.length) : recOps (names.take (i + 1)) st = recOps (names.take i) st ++ (if inSt st (rdOf ByteArray.empty names (i : Int)).data.toList = true then [] else [opR (rdOf ByteArray.empty names (i : Int))]) := by
 have e : rdOf ByteArray.empty names (i : Int) = names[i] := by
  unfold rdOf
  rw [Int.toNat_natCast, List.getD_eq_getElem?_getD, List.getElem?_eq_getElem h]
  rfl
 unfold recOps
 rw [List.take_succ_eq_append_getElem h, List.filter_append, List.map_append, e]
 congr 1
 cases hc : inSt st (names[i]).data.toList with
 | true => rw [if_pos rfl, List.filter_cons, hc]; rfl
 | false => rw [if_neg Bool.false_ne_true, List.filter_cons, hc]; rfl
theorem recOps_len (names st : List ByteArray) : (recOps names st).length ≤ names.length := by
 unfold recOps
 rw [List.length_map]
 exact List.length_filter_le _ _
def manifest_Recover.f (a0_0 : Int) (l0_1 : List S84) : Option (List S63 × Int × Int × List S60 × Int) :=
 (store_Read.f (3 * l0_1.length + 3) a0_0 l0_1 ⟨#[109]⟩).bind fun q => if q.2 = 1 then some ([], 0, 0, [], 1) else
 ((if q.2 = 0 then manifest_Take.f q.1 else some ([], 0, 0, 0)) : Option (List S63 × Int × Int × Int)).bind fun t => if t.2.2.2 = 0 then
 ((store_Names.f (3 * l0_1.length + 3) a0_0 l0_1).bind fun names => if names.length ≤ 274877906944 ∧ t.1.length ≤ 64 ∧ ∀ n, n ∈ names → n.size ≤ maxLen then (if recOk names t.1 = true then some (t.1, t.2.1, t.2.2.1, recOps names (recStay t.1 t.1.length), 0) else some ([], 0, 0, [], 13)) else none) else some ([], 0, 0, [], t.2.2.2)
structure ZX (w W : World) (g2 g7 : Nat) (v : Value) (rs : List S63) (nx sq : Int) (vn : Value) (names : List ByteArray) : Prop where
 B : Below w.heap.size w W
 c2 : W.heap[g2]? = some (.cells #[.slice none 0 0, .int .i64 0, .int .i64 0] 27 (0, 0))
 c7 : W.heap[g7]? = some (.cells #[v, .int .i64 nx, .int .i64 sq] 27 (0, 0))
 hR : Kd.R k63 63 W w.heap.size (fun _ => True) v rs
 hN : Kd.R Kd.string 9 W w.heap.size (fun _ => True) vn names
section
variable {w W W' : World} {g2 g7 gm n : Nat} {v vn : Value} {rs : List S63} {nx sq : Int} {names : List ByteArray} {D : DataW Unit}
theorem ZX.step (h : ZX w W g2 g7 v rs nx sq vn names) (hb : Below W.heap.size W W') : ZX w W' g2 g7 v rs nx sq vn names :=
 ⟨below_step h.B hb, blk_below h.c2 hb, blk_below h.c7 hb, Kd.R_below h.hR hb, Kd.R_below h.hN hb⟩
theorem ZX.vis (h : ZX w W g2 g7 v rs nx sq vn names) : W.cell? ⟨g7, 0, none⟩ = some v ∧ W.cell? ⟨g7, 1, none⟩ = some (.int .i64 nx) ∧ W.cell? ⟨g7, 2, none⟩ = some (.int .i64 sq) ∧ W.cell? ⟨g2, 0, none⟩ = some (.slice none 0 0) ∧ W.cell? ⟨g2, 1, none⟩ = some (.int .i64 0) ∧ W.cell? ⟨g2, 2, none⟩ = some (.int .i64 0) ∧ W.frozen? ⟨g2, 0, none⟩ = false ∧ W.frozen? ⟨g2, 1, none⟩ = false ∧ W.frozen? ⟨g2, 2, none⟩ = false :=
 ⟨(blk_cell h.c7 0).trans rfl, (blk_cell h.c7 1).trans rfl, (blk_cell h.c7 2).trans rfl, (blk_cell h.c2 0).trans rfl, (blk_cell h.c2 1).trans rfl, (blk_cell h.c2 2).trans rfl, blk_frozen h.c2 0, blk_frozen h.c2 1, blk_frozen h.c2 2⟩
theorem ZX.turned (h : ZX w W g2 g7 v rs nx sq vn names) (hm : W.ownsMap Tryd.prog 9 (plainElem (H := Unit) Tryd.prog 4) gm n D) (hg : W.grownBy W' (some gm)) (hgm : w.heap.size ≤ gm) : ZX w W' g2 g7 v rs nx sq vn names := by
 have ne : ∀ {k : Nat} {c : Array Value} {t : Nat} {f : Nat × Nat}, W.heap[k]? = some (.cells c t f) → some k ≠ some gm := fun hk e => by
  injection e with e
  subst e
  exact ownsMap_noCells hm hk
 refine ⟨h.B.grown hg h.B.size (fun k hk => by injection hk with hk; subst hk; exact hgm), blk_grown h.c2 hg (fun e => ne h.c2 e), blk_grown h.c7 hg (fun e => ne h.c7 e), ?_, ?_⟩
 ·exact Kd.R_mono (Kd.R_grown (Kd.R_bound h.hR) hg (fun k hk e => by obtain ⟨_, _, _, q, _, c, hc⟩ := hk; exact ne hc e)) (fun _ _ => trivial)
 ·exact Kd.R_mono (Kd.R_grown (Kd.R_bound h.hN) hg (fun k hk e => by obtain ⟨_, _, _, q, _, c, hc⟩ := hk; exact ne hc e)) (fun _ _ => trivial)
theorem ZX.over (h : ZX w W g2 g7 v rs nx sq vn names) {vo : Value} (hty : ∀ k, vo.ownBlock = some k → ∃ cells, W.heap[k]? = some (.cells cells 60 (0, 0))) (hB : Below w.heap.size w W') (hg : W.grownBy W' vo.ownBlock) : ZX w W' g2 g7 v rs nx sq vn names := by
 have ne : ∀ {k : Nat} {c : Array Value} {f : Nat × Nat}, W.heap[k]? = some (.cells c 27 f) → some k ≠ vo.ownBlock := fun hk e => by
  obtain ⟨c, hc⟩ := hty _ e.symm
  rw [hk] at hc
  injection hc with hc
  injection hc with _ hc _
  exact absurd hc (by decide)
 exact ⟨hB, blk_grown h.c2 hg (ne h.c2), blk_grown h.c7 hg (ne h.c7), Kd.R_over' h.hR hty (by decide) hg, Kd.R_over' h.hN hty (by decide) hg⟩
theorem map_over (hm : W.ownsMap Tryd.prog 9 (plainElem (H := Unit) Tryd.prog 4) gm n D) {vo : Value} (hty : ∀ k, vo.ownBlock = some k → ∃ cells, W.heap[k]? = some (.cells cells 60 (0, 0))) (hg : W.grownBy W' vo.ownBlock) : W'.ownsMap Tryd.prog 9 (plainElem (H := Unit) Tryd.prog 4) gm n D :=
 ownsMap_grown hm hg (fun e => by
  obtain ⟨c, hc⟩ := hty gm e.symm
  exact ownsMap_noCells hm hc)
end
theorem nameM_size (n : Int) : (nameM n).size ≤ maxLen := by
 have h3 : (nameM n).size = (nameM n).toList.length := by rw [Lib.toList_data, Array.length_toList]; rfl
 rw [h3]
 by_cases h1 : n < 0 ∨ n > 2147483647
 ·rw [name_out h1]
  exact Nat.zero_le _
 ·rw [name_list (n := n) (by omega) (by omega), List.length_cons]
  have := dec_length 9 n.toNat (by omega)
  unfold maxLen
  omega
theorem rdOf_mem (names : List ByteArray) (t : Nat) (h : t < names.length) : rdOf ByteArray.empty names (t : Int) ∈ names := by
 unfold rdOf
 rw [Int.toNat_natCast, List.getD_eq_getElem?_getD, List.getElem?_eq_getElem h]
 exact List.getElem_mem h
set_option maxHeartbeats 8000000 in
set_option maxRecDepth 100000 in
theorem manifest_Recover.calls (a0_0 : Int) (A0_1 : Option Addr) (c0_1 : Nat) (l0_1 : List (S84)) (r1 : List (S63)) (r2 : Int) (r3 : Int) (r4 : List (S60)) (r5 : Int) (w : World) (hr0_1 : Kd.C k84 w A0_1 l0_1.length l0_1) (hc0_1 : l0_1.length ≤ c0_1) (hG : GT w) (h : manifest_Recover.f a0_0 l0_1 = some (r1, r2, r3, r4, r5)) :
  Calls Tryd.prog 26 #[.agg #[.int .i64 a0_0, .slice A0_1 l0_1.length c0_1]] w fun e w' => ∃ v0_ v3_ : Value, e = .returned (.tuple #[.agg #[v0_, .int .i64 r2, .int .i64 r3], v3_, .int .i64 r5]) ∧ Kd.R k63 63 w' w.heap.size (fun _ => True) v0_ r1 ∧ Kd.S k60 60 w' w.heap.size (fun _ => True) v3_ r4 ∧ Below w.heap.size w w' := by
 unfold manifest_Recover.f at h
 obtain ⟨⟨q, e⟩, hread, h⟩ := Option.bind_eq_some_iff.1 h
 have HR := Aside0.mk hr0_1
 have HC := Aside0.mk hc0_1
 have HG := Aside0.mk hG
 have HREAD := Aside0.mk hread
 have HB := Aside0.mk (Below.refl w.heap.size w)
 clear hr0_1 hc0_1 hG hread
 have hu27 := Tryd.underlying27
 have hu50 := Tryd.underlying50
 have hu63 := Tryd.underlying63
 have hu60 := Tryd.underlying60
 have hu25 := Tryd.underlying25
 have hu42 := Tryd.underlying42
 have hu85 := Tryd.underlying85
 by_cases he1 : e = 1
 ·rw [if_pos (show ((q, e) : List Int × Int).2 = 1 from he1)] at h
  simp only [Option.some.injEq, Prod.mk.injEq] at h
  obtain ⟨rfl, rfl, rfl, rfl, rfl⟩ := h
  subst he1
  go_enter Tryd.func26, Tryd.ntmps26
  go_wp2_with (first
   | ((with_reducible refine gate_dst (N := 1) rfl ?_); refine box_event ?hg (N := 1) ?hd (cs := #[.int .i64 a0_0, .slice A0_1 l0_1.length c0_1]) (t := 50) ?hr ?_; (case hd => rfl); (case hg => rfl); (case hr => first | (go_simp; done) | (go_simp; rfl)); intro g1 hg1 w1 hbox hb; have CB1 := Aside0.mk hbox; have HB_ := Aside0.mk (below_step HB.out hb); clear HB hb hbox hg1; have HB := HB_; clear HB_; have v10 : w1.cell? ⟨g1, 0, none⟩ = some (.int .i64 a0_0) := (blk_cell CB1.out 0).trans rfl; have v11 : w1.cell? ⟨g1, 1, none⟩ = some (.slice A0_1 l0_1.length c0_1) := (blk_cell CB1.out 1).trans rfl)
   | ((with_reducible refine gate_dst (N := 2) rfl ?_); refine box_event ?hg (N := 2) ?hd (cs := #[.slice none 0 0, .int .i64 0, .int .i64 0]) (t := 27) ?hr ?_; (case hd => rfl); (case hg => rfl); (case hr => first | (go_simp; done) | (go_simp; rfl)); intro g2 hg2 w2 hbox hb; have CB2x := Aside0.mk hbox; have G2 := Aside0.mk (show w.heap.size ≤ g2 by rw [hg2]; exact below_size HB.out); have HB_ := Aside0.mk (below_step HB.out hb); have CB1_ := Aside0.mk (blk_below CB1.out hb); clear HB CB1 v10 v11; have HB := HB_; have CB1 := CB1_; clear HB_ CB1_; have v10 : w2.cell? ⟨g1, 0, none⟩ = some (.int .i64 a0_0) := (blk_cell CB1.out 0).trans rfl; have v11 : w2.cell? ⟨g1, 1, none⟩ = some (.slice A0_1 l0_1.length c0_1) := (blk_cell CB1.out 1).trans rfl; have CB2 := CB2x; clear CB2x hb hbox hg2; have v20 : w2.cell? ⟨g2, 0, none⟩ = some (.slice none 0 0) := (blk_cell CB2.out 0).trans rfl; have v21 : w2.cell? ⟨g2, 1, none⟩ = some (.int .i64 0) := (blk_cell CB2.out 1).trans rfl; have v22 : w2.cell? ⟨g2, 2, none⟩ = some (.int .i64 0) := (blk_cell CB2.out 2).trans rfl; have z20 := blk_frozen CB2.out 0; have z21 := blk_frozen CB2.out 1; have z22 := blk_frozen CB2.out 2)
   | (go_at_call 30; ((with_reducible refine (store_Read.calls (3 * l0_1.length + 3) a0_0 A0_1 c0_1 l0_1 ⟨#[109]⟩ q 1 _ (Kd.C_below HR.out HB.out) HC.out HREAD.out).mono ?_); rintro e_ w3 ⟨v3, rfl, hR, hb⟩; obtain ⟨Aq, cq, rfl⟩ := Kd.R_slice hR; have HQC := Aside0.mk (Kd.R_reads' hR).2.1; have HQ := Aside0.mk (Kd.R_reads' hR).2.2; have HB_ := Aside0.mk (below_step HB.out hb); have CB1_ := Aside0.mk (blk_below CB1.out hb); have CB2_ := Aside0.mk (blk_below CB2.out hb); clear HB CB1 CB2 v10 v11 v20 v21 v22 z20 z21 z22; have HB := HB_; have CB1 := CB1_; have CB2 := CB2_; clear HB_ CB1_ CB2_; have v10 : w3.cell? ⟨g1, 0, none⟩ = some (.int .i64 a0_0) := (blk_cell CB1.out 0).trans rfl; have v11 : w3.cell? ⟨g1, 1, none⟩ = some (.slice A0_1 l0_1.length c0_1) := (blk_cell CB1.out 1).trans rfl; have v20 : w3.cell? ⟨g2, 0, none⟩ = some (.slice none 0 0) := (blk_cell CB2.out 0).trans rfl; have v21 : w3.cell? ⟨g2, 1, none⟩ = some (.int .i64 0) := (blk_cell CB2.out 1).trans rfl; have v22 : w3.cell? ⟨g2, 2, none⟩ = some (.int .i64 0) := (blk_cell CB2.out 2).trans rfl; have z20 := blk_frozen CB2.out 0; have z21 := blk_frozen CB2.out 1; have z22 := blk_frozen CB2.out 2; clear hb hR)))
  refine bodyPost_ret (results_ctt rfl _ _ g2 27 #[.slice none 0 0, .int .i64 0, .int .i64 0] (0, 0) _ rfl (blk_put (cs := #[.slice none 0 0, .int .i64 0, .int .i64 0]) (blk_put (cs := #[.slice none 0 0, .int .i64 0, .int .i64 0]) (blk_put (cs := #[.slice none 0 0, .int .i64 0, .int .i64 0]) CB2.out 0 _ rfl) 1 _ rfl) 2 _ rfl) Tryd.underlying27 rfl (by kernel_rfl)) rfl ?_
  exact ⟨_, _, rfl, Kd.R_nil _ _ _ _ _, Kd.S_nil _ _ _ _ _, below_set (below_set (below_set HB.out G2.out) G2.out) G2.out⟩
 ·by_cases he0 : e = 0
  ·subst he0
   rw [if_neg (show ¬ ((0 : Int) = 1) by decide), if_pos (show ((q, (0 : Int)) : List Int × Int).2 = 0 from rfl)] at h
   obtain ⟨⟨rs, nx, sq, ee⟩, htake, h⟩ := Option.bind_eq_some_iff.1 h
   have HTAKE := Aside0.mk htake
   clear htake
   by_cases hee : ee = 0
   ·subst hee
    rw [if_pos (show ((rs, nx, sq, (0 : Int)) : List S63 × Int × Int × Int).2.2.2 = 0 from rfl)] at h
    obtain ⟨names, hnames, h⟩ := Option.bind_eq_some_iff.1 h
    by_cases hbd : names.length ≤ 274877906944 ∧ rs.length ≤ 64 ∧ ∀ n, n ∈ names → n.size ≤ maxLen
    case neg => rw [if_neg (show ¬ (names.length ≤ 274877906944 ∧ ((rs, nx, sq, (0 : Int)) : List S63 × Int × Int × Int).1.length ≤ 64 ∧ ∀ n, n ∈ names → n.size ≤ maxLen) from hbd)] at h; cases h
    rw [if_pos (show names.length ≤ 274877906944 ∧ ((rs, nx, sq, (0 : Int)) : List S63 × Int × Int × Int).1.length ≤ 64 ∧ ∀ n, n ∈ names → n.size ≤ maxLen from hbd)] at h
    have HH : Aside0 ((if recOk names rs = true then some (rs, nx, sq, recOps names (recStay rs rs.length), 0) else some ([], 0, 0, [], 13)) = some (r1, r2, r3, r4, r5)) := ⟨h⟩
    have HBD := Aside0.mk hbd
    have HNAMES := Aside0.mk hnames
    clear h hbd hnames
    go_enter Tryd.func26, Tryd.ntmps26
    go_upto_region 9 with (first
     | ((with_reducible refine gate_dst (N := 1) rfl ?_); refine box_event ?hg (N := 1) ?hd (cs := #[.int .i64 a0_0, .slice A0_1 l0_1.length c0_1]) (t := 50) ?hr ?_; (case hd => rfl); (case hg => rfl); (case hr => first | (go_simp; done) | (go_simp; rfl)); intro g1 hg1 w1 hbox hb; have CB1 := Aside0.mk hbox; have HB_ := Aside0.mk (below_step HB.out hb); clear HB hb hbox hg1; have HB := HB_; clear HB_; have v10 : w1.cell? ⟨g1, 0, none⟩ = some (.int .i64 a0_0) := (blk_cell CB1.out 0).trans rfl; have v11 : w1.cell? ⟨g1, 1, none⟩ = some (.slice A0_1 l0_1.length c0_1) := (blk_cell CB1.out 1).trans rfl)
     | ((with_reducible refine gate_dst (N := 2) rfl ?_); refine box_event ?hg (N := 2) ?hd (cs := #[.slice none 0 0, .int .i64 0, .int .i64 0]) (t := 27) ?hr ?_; (case hd => rfl); (case hg => rfl); (case hr => first | (go_simp; done) | (go_simp; rfl)); intro g2 hg2 w2 hbox hb; have CB2x := Aside0.mk hbox; have G2 := Aside0.mk (show w.heap.size ≤ g2 by rw [hg2]; exact below_size HB.out); have HB_ := Aside0.mk (below_step HB.out hb); have CB1_ := Aside0.mk (blk_below CB1.out hb); clear HB CB1 v10 v11; have HB := HB_; have CB1 := CB1_; clear HB_ CB1_; have v10 : w2.cell? ⟨g1, 0, none⟩ = some (.int .i64 a0_0) := (blk_cell CB1.out 0).trans rfl; have v11 : w2.cell? ⟨g1, 1, none⟩ = some (.slice A0_1 l0_1.length c0_1) := (blk_cell CB1.out 1).trans rfl; have CB2 := CB2x; clear CB2x hb hbox hg2; have v20 : w2.cell? ⟨g2, 0, none⟩ = some (.slice none 0 0) := (blk_cell CB2.out 0).trans rfl; have v21 : w2.cell? ⟨g2, 1, none⟩ = some (.int .i64 0) := (blk_cell CB2.out 1).trans rfl; have v22 : w2.cell? ⟨g2, 2, none⟩ = some (.int .i64 0) := (blk_cell CB2.out 2).trans rfl; have z20 := blk_frozen CB2.out 0; have z21 := blk_frozen CB2.out 1; have z22 := blk_frozen CB2.out 2)
     | (go_at_call 30; ((with_reducible refine (store_Read.calls (3 * l0_1.length + 3) a0_0 A0_1 c0_1 l0_1 ⟨#[109]⟩ q 0 _ (Kd.C_below HR.out HB.out) HC.out HREAD.out).mono ?_); rintro e_ w3 ⟨v3, rfl, hR, hb⟩; obtain ⟨Aq, cq, rfl⟩ := Kd.R_slice hR; have HQC := Aside0.mk (Kd.R_reads' hR).2.1; have HQ := Aside0.mk (Kd.R_reads' hR).2.2; have HB_ := Aside0.mk (below_step HB.out hb); have CB1_ := Aside0.mk (blk_below CB1.out hb); have CB2_ := Aside0.mk (blk_below CB2.out hb); clear HB CB1 CB2 v10 v11 v20 v21 v22 z20 z21 z22; have HB := HB_; have CB1 := CB1_; have CB2 := CB2_; clear HB_ CB1_ CB2_; have v10 : w3.cell? ⟨g1, 0, none⟩ = some (.int .i64 a0_0) := (blk_cell CB1.out 0).trans rfl; have v11 : w3.cell? ⟨g1, 1, none⟩ = some (.slice A0_1 l0_1.length c0_1) := (blk_cell CB1.out 1).trans rfl; have v20 : w3.cell? ⟨g2, 0, none⟩ = some (.slice none 0 0) := (blk_cell CB2.out 0).trans rfl; have v21 : w3.cell? ⟨g2, 1, none⟩ = some (.int .i64 0) := (blk_cell CB2.out 1).trans rfl; have v22 : w3.cell? ⟨g2, 2, none⟩ = some (.int .i64 0) := (blk_cell CB2.out 2).trans rfl; have z20 := blk_frozen CB2.out 0; have z21 := blk_frozen CB2.out 1; have z22 := blk_frozen CB2.out 2; clear hb hR))
     | ((with_reducible refine gate_dst (N := 7) rfl ?_); refine box_event ?hg (N := 7) ?hd (cs := #[.slice none 0 0, .int .i64 0, .int .i64 0]) (t := 27) ?hr ?_; (case hd => rfl); (case hg => rfl); (case hr => first | (go_simp; done) | (go_simp; rfl)); (intro g7 hg7 w4 hbox hb; have CB7x := Aside0.mk hbox; have HB3 := HB; have CB23 := CB2; have CB13 := CB1; have HB_ := Aside0.mk (below_step HB.out hb); have CB1_ := Aside0.mk (blk_below CB1.out hb); have CB2_ := Aside0.mk (blk_below CB2.out hb); have HQ_ := Aside0.mk (Kd.C_below HQ.out hb); clear HB CB1 CB2 HQ v10 v11 v20 v21 v22 z20 z21 z22; have HB := HB_; have CB1 := CB1_; have CB2 := CB2_; have HQ := HQ_; clear HB_ CB1_ CB2_ HQ_; have v10 : w4.cell? ⟨g1, 0, none⟩ = some (.int .i64 a0_0) := (blk_cell CB1.out 0).trans rfl; have v11 : w4.cell? ⟨g1, 1, none⟩ = some (.slice A0_1 l0_1.length c0_1) := (blk_cell CB1.out 1).trans rfl; have v20 : w4.cell? ⟨g2, 0, none⟩ = some (.slice none 0 0) := (blk_cell CB2.out 0).trans rfl; have v21 : w4.cell? ⟨g2, 1, none⟩ = some (.int .i64 0) := (blk_cell CB2.out 1).trans rfl; have v22 : w4.cell? ⟨g2, 2, none⟩ = some (.int .i64 0) := (blk_cell CB2.out 2).trans rfl; have z20 := blk_frozen CB2.out 0; have z21 := blk_frozen CB2.out 1; have z22 := blk_frozen CB2.out 2; have CB7 := CB7x; have G7 : Aside0 (w.heap.size ≤ g7) := ⟨by rw [hg7]; exact below_size HB3.out⟩; have G27 : Aside0 (g2 ≠ g7) := ⟨by rw [hg7]; exact Nat.ne_of_lt (blk_lt CB23.out)⟩; have G17 : Aside0 (g1 ≠ g7) := ⟨by rw [hg7]; exact Nat.ne_of_lt (blk_lt CB13.out)⟩; clear HB3 CB23 CB13; clear CB7x hb hbox hg7; have v70 : w4.cell? ⟨g7, 0, none⟩ = some (.slice none 0 0) := (blk_cell CB7.out 0).trans rfl; have v71 : w4.cell? ⟨g7, 1, none⟩ = some (.int .i64 0) := (blk_cell CB7.out 1).trans rfl; have v72 : w4.cell? ⟨g7, 2, none⟩ = some (.int .i64 0) := (blk_cell CB7.out 2).trans rfl; have z70 := blk_frozen CB7.out 0; have z71 := blk_frozen CB7.out 1; have z72 := blk_frozen CB7.out 2))
     | (go_at_call 11; ((with_reducible refine (manifest_Take.calls Aq cq q rs nx sq 0 _ HQ.out HQC.out (GT.below HG.out HB.out) HTAKE.out).mono ?_); rintro e_ w5 ⟨v5, rfl, hR, hb⟩; obtain ⟨Av, cv, rfl⟩ := Kd.R_slice hR; have HRS := Aside0.mk (Kd.R_lower hR (below_size HB.out)); have G5 := Aside0.mk (blk_lt CB7.out); have HB_ := Aside0.mk (below_step HB.out hb); have CB1_ := Aside0.mk (blk_below CB1.out hb); have CB2_ := Aside0.mk (blk_below CB2.out hb); have CB7_ := Aside0.mk (blk_below CB7.out hb); clear HB CB1 CB2 CB7 v10 v11 v20 v21 v22 z20 z21 z22 v70 v71 v72 z70 z71 z72; have HB := HB_; have CB1 := CB1_; have CB2 := CB2_; have CB7 := CB7_; clear HB_ CB1_ CB2_ CB7_; have v10 : w5.cell? ⟨g1, 0, none⟩ = some (.int .i64 a0_0) := (blk_cell CB1.out 0).trans rfl; have v11 : w5.cell? ⟨g1, 1, none⟩ = some (.slice A0_1 l0_1.length c0_1) := (blk_cell CB1.out 1).trans rfl; have v20 : w5.cell? ⟨g2, 0, none⟩ = some (.slice none 0 0) := (blk_cell CB2.out 0).trans rfl; have v21 : w5.cell? ⟨g2, 1, none⟩ = some (.int .i64 0) := (blk_cell CB2.out 1).trans rfl; have v22 : w5.cell? ⟨g2, 2, none⟩ = some (.int .i64 0) := (blk_cell CB2.out 2).trans rfl; have z20 := blk_frozen CB2.out 0; have z21 := blk_frozen CB2.out 1; have z22 := blk_frozen CB2.out 2; have v70 : w5.cell? ⟨g7, 0, none⟩ = some (.slice none 0 0) := (blk_cell CB7.out 0).trans rfl; have v71 : w5.cell? ⟨g7, 1, none⟩ = some (.int .i64 0) := (blk_cell CB7.out 1).trans rfl; have v72 : w5.cell? ⟨g7, 2, none⟩ = some (.int .i64 0) := (blk_cell CB7.out 2).trans rfl; have z70 := blk_frozen CB7.out 0; have z71 := blk_frozen CB7.out 1; have z72 := blk_frozen CB7.out 2; clear hb hR)))
    have HB_ : Aside0 (Below w.heap.size w (((w5.setCell ⟨g7, 0, none⟩ (.slice Av rs.length cv)).setCell ⟨g7, 1, none⟩ (.int .i64 nx)).setCell ⟨g7, 2, none⟩ (.int .i64 sq))) := ⟨(below_set (below_set (below_set HB.out G7.out) G7.out) G7.out)⟩
    have CB7_ := Aside0.mk (blk_put (cs' := #[.slice Av rs.length cv, .int .i64 nx, .int .i64 sq]) (blk_put (cs' := #[.slice Av rs.length cv, .int .i64 nx, .int .i64 0]) (blk_put (cs' := #[.slice Av rs.length cv, .int .i64 0, .int .i64 0]) CB7.out 0 (.slice Av rs.length cv) rfl) 1 (.int .i64 nx) rfl) 2 (.int .i64 sq) rfl)
    have CB2_ : Aside0 ((((w5.setCell ⟨g7, 0, none⟩ (.slice Av rs.length cv)).setCell ⟨g7, 1, none⟩ (.int .i64 nx)).setCell ⟨g7, 2, none⟩ (.int .i64 sq)).heap[g2]? = some (.cells #[.slice none 0 0, .int .i64 0, .int .i64 0] 27 (0, 0))) := ⟨(blk_far (blk_far (blk_far CB2.out (show g2 ≠ g7 from G27.out) _) (show g2 ≠ g7 from G27.out) _) (show g2 ≠ g7 from G27.out) _)⟩
    have CB1_ : Aside0 ((((w5.setCell ⟨g7, 0, none⟩ (.slice Av rs.length cv)).setCell ⟨g7, 1, none⟩ (.int .i64 nx)).setCell ⟨g7, 2, none⟩ (.int .i64 sq)).heap[g1]? = some (.cells #[.int .i64 a0_0, .slice A0_1 l0_1.length c0_1] 50 (0, 0))) := ⟨(blk_far (blk_far (blk_far CB1.out (show g1 ≠ g7 from G17.out) _) (show g1 ≠ g7 from G17.out) _) (show g1 ≠ g7 from G17.out) _)⟩
    have HRS_ : Aside0 (Kd.R k63 63 (((w5.setCell ⟨g7, 0, none⟩ (.slice Av rs.length cv)).setCell ⟨g7, 1, none⟩ (.int .i64 nx)).setCell ⟨g7, 2, none⟩ (.int .i64 sq)) w.heap.size (fun _ => True) (.slice Av rs.length cv) rs) := ⟨Kd.R_mono (Kd.R_far (p := ⟨g7, 2, none⟩) (Kd.R_far (p := ⟨g7, 1, none⟩) (Kd.R_far (p := ⟨g7, 0, none⟩) (Kd.R_types HRS.out CB7.out (by decide)) (fun _ hk => hk.2) _) (fun _ hk => hk.2) _) (fun _ hk => hk.2) _) (fun _ h_ => h_.1)⟩
    clear HB HRS CB1 CB2 CB7 v10 v11 v20 v21 v22 z20 z21 z22 v70 v71 v72 z70 z71 z72
    generalize (((w5.setCell ⟨g7, 0, none⟩ (.slice Av rs.length cv)).setCell ⟨g7, 1, none⟩ (.int .i64 nx)).setCell ⟨g7, 2, none⟩ (.int .i64 sq)) = W5 at *
    have HB := HB_
    have CB7 := CB7_
    have CB2 := CB2_
    have CB1 := CB1_
    have HRS := HRS_
    clear HB_ CB7_ CB2_ CB1_ HRS_
    have v10 : W5.cell? ⟨g1, 0, none⟩ = some (.int .i64 a0_0) := (blk_cell CB1.out 0).trans rfl
    have v11 : W5.cell? ⟨g1, 1, none⟩ = some (.slice A0_1 l0_1.length c0_1) := (blk_cell CB1.out 1).trans rfl
    have v20 : W5.cell? ⟨g2, 0, none⟩ = some (.slice none 0 0) := (blk_cell CB2.out 0).trans rfl
    have v21 : W5.cell? ⟨g2, 1, none⟩ = some (.int .i64 0) := (blk_cell CB2.out 1).trans rfl
    have v22 : W5.cell? ⟨g2, 2, none⟩ = some (.int .i64 0) := (blk_cell CB2.out 2).trans rfl
    have z20 := blk_frozen CB2.out 0
    have z21 := blk_frozen CB2.out 1
    have z22 := blk_frozen CB2.out 2
    go_upto_region 10 with (first
     | (go_at_call 44; ((with_reducible refine (store_Names.calls (3 * l0_1.length + 3) a0_0 A0_1 c0_1 l0_1 names _ (Kd.C_below HR.out HB.out) HC.out HNAMES.out).mono ?_); rintro e_ w6 ⟨v6, rfl, hR, hb⟩; have HX := Aside0.mk (ZX.mk (vn := v6) (below_step HB.out hb) (blk_below CB2.out hb) (blk_below CB7.out hb) (Kd.R_below HRS.out hb) (Kd.R_lower hR (below_size HB.out))); clear HB HRS CB1 CB2 v10 v11 v20 v21 v22 z20 z21 z22 CB7 hR hb)))
    obtain ⟨An, cn, hvn⟩ := Kd.R_slice HX.out.hN
    subst hvn
    have hm0 := World.ownsMap_made (H := Unit) w6 Tryd.prog 9 (plainElem (H := Unit) Tryd.prog 4)
    obtain ⟨W2, hup, hm1, hturn⟩ := hm0.store keyLawS Tryd.underlying87 (show 0 < maxLen by decide) (keyOf_strb ⟨#[109]⟩ (by decide)) (plainElem_bool Tryd.underlying4 true)
    have GM := Aside0.mk (below_size HX.out.B)
    have HX2 := Aside0.mk ((HX.out.step (below_alloc (Below.refl _ _) (.map #[] 0))).turned hm0 hturn.grown GM.out)
    have HM := Aside0.mk hm1
    have HS := Aside0.mk (StayOf.start.step ⟨#[109]⟩)
    clear HX hm0 hm1 hturn
    have hmm := @run_makeMap Tryd.prog
    obtain ⟨v70, v71, v72, v20, v21, v22, z20, z21, z22⟩ := HX2.out.vis
    go_upto_region 12 with (first
     | fail)
    clear hmm hup
    generalize w6.heap.size = gm at *
    go_loopw [43] (fun v43 w' => ∃ (i : Nat) (D : DataW Unit), v43 = .int .i64 i ∧ i ≤ rs.length ∧ Aside0 (ZX w w' g2 g7 (.slice Av rs.length cv) rs nx sq (.slice An names.length cn) names) ∧ Aside0 (w'.ownsMap Tryd.prog 9 (plainElem (H := Unit) Tryd.prog 4) gm (i + 1) D) ∧ Aside0 (StayOf D (recStay rs i)) ∧ Aside0 (∀ j, j < i → Lib.containsS names (nameM (rd_T63 rs (j : Int)).f0) = true)) (fun v43 _ => rs.length - (intOf v43).toNat)
    case atStart => exact ⟨0, _, rfl, Nat.zero_le _, HX2, HM, HS, ⟨fun j hj => absurd hj (Nat.not_lt_zero j)⟩⟩
    case round =>
     clear HX2 HM HS v70 v71 v72 v20 v21 v22 z20 z21 z22
     obtain ⟨i, D, rfl, hil, HX, HM, HS, HOKS⟩ := hrel
     obtain ⟨v70, v71, v72, v20, v21, v22, z20, z21, z22⟩ := HX.out.vis
     by_cases cs : i < rs.length
     ·have csd := decide_eq_true (show (i : Int) < (rs.length : Int) by omega)
      obtain ⟨ad, rfl, hx0, hx1, hx2, hx3⟩ := at_T63 (Kd.R_reads' HX.out.hR).2.2 (i : Int) (by omega) (by omega)
      obtain ⟨x, hx⟩ : ∃ x, x = rd_T63 rs (i : Int) := ⟨_, rfl⟩
      have HXX := Aside0.mk hx
      rw [← hx] at hx0 hx1 hx2 hx3
      rw [Int.toNat_natCast] at hx0 hx1 hx2 hx3
      clear hx
      obtain ⟨nm, hnm⟩ : ∃ nm, nm = nameM x.f0 := ⟨_, rfl⟩
      have HNM := Aside0.mk hnm
      have HNS := Aside0.mk (show nm.size ≤ maxLen by rw [hnm]; exact nameM_size _)
      have HNF := Aside0.mk (show manifest_Name.f x.f0 = some nm by rw [hnm]; exact name_f _)
      clear hnm
      have q0 := eq_true (show (0 : Int) ≤ (i : Int) by omega)
      have q1 := eq_true (show (i : Int) < (rs.length : Int) by omega)
      have hwr : IntKind.i64.wrap ((i : Int) + 1) = ((i + 1 : Nat) : Int) := by rw [IntKind.wrap_i64]; have := HBD.out.2.1; omega
      go_upto_region 14 with (first
       | fail)
      have BX := Aside0.mk (blk_new wr (.cells #[.int .i64 x.f0, .int .i64 x.f1, .int .i64 x.f2, .int .i64 x.f3] 63 (0, 0)))
      have HX_ := Aside0.mk (HX.out.step (below_alloc (Below.refl _ _) (.cells #[.int .i64 x.f0, .int .i64 x.f1, .int .i64 x.f2, .int .i64 x.f3] 63 (0, 0))))
      have HM_ := Aside0.mk (ownsMap_belowM HM.out (below_alloc (Below.refl _ _) (.cells #[.int .i64 x.f0, .int .i64 x.f1, .int .i64 x.f2, .int .i64 x.f3] 63 (0, 0))))
      clear HX HM hx0 hx1 hx2 hx3 v70 v71 v72 v20 v21 v22 z20 z21 z22
      generalize wr.alloc (.cells #[.int .i64 x.f0, .int .i64 x.f1, .int .i64 x.f2, .int .i64 x.f3] 63 (0, 0)) = W3 at *
      generalize wr.heap.size = g11 at *
      have HX := HX_
      have HM := HM_
      clear HX_ HM_
      obtain ⟨v70, v71, v72, v20, v21, v22, z20, z21, z22⟩ := HX.out.vis
      have y0 : W3.cell? ⟨g11, 0, none⟩ = some (.int .i64 x.f0) := (blk_cell BX.out 0).trans rfl
      cases hcn : Lib.containsS names nm with
      | false =>
       have hh := HH.out
       rw [if_neg (by rw [recOk_no cs (by rw [← HXX.out, ← HNM.out]; exact hcn)]; exact Bool.false_ne_true)] at hh
       simp only [Option.some.injEq, Prod.mk.injEq] at hh
       obtain ⟨rfl, rfl, rfl, rfl, rfl⟩ := hh
       go_wp2_with (first
        | (go_at_call 17; ((with_reducible refine (manifest_Name.calls x.f0 nm _ (GT.below HG.out HX.out.B) HNF.out).mono ?_); rintro e_ w7 ⟨rfl, hb⟩; have HX_ := Aside0.mk (HX.out.step hb); have HM_ := Aside0.mk (ownsMap_belowM HM.out hb); clear HX HM hb v70 v71 v72 v20 v21 v22 z20 z21 z22; have HX := HX_; have HM := HM_; clear HX_ HM_; obtain ⟨v70, v71, v72, v20, v21, v22, z20, z21, z22⟩ := HX.out.vis))
        | (go_at_call 45; ((with_reducible refine (contains_calls _ An cn names nm (Kd.R_reads' HX.out.hN).2.2 (by have := HBD.out.1; omega)).mono ?_); rintro e_ w8 ⟨rfl, rfl⟩)))
       refine bodyPost_ret (results_ctt rfl _ _ g2 27 #[.slice none 0 0, .int .i64 0, .int .i64 0] (0, 0) _ rfl (blk_put (cs := #[.slice none 0 0, .int .i64 0, .int .i64 0]) (blk_put (cs := #[.slice none 0 0, .int .i64 0, .int .i64 0]) (blk_put (cs := #[.slice none 0 0, .int .i64 0, .int .i64 0]) HX.out.c2 0 _ rfl) 1 _ rfl) 2 _ rfl) Tryd.underlying27 rfl (by kernel_rfl)) rfl ?_
       exact ⟨_, _, rfl, Kd.R_nil _ _ _ _ _, Kd.S_nil _ _ _ _ _, below_set (below_set (below_set HX.out.B G2.out) G2.out) G2.out⟩
      | true =>
       have HCN := Aside0.mk hcn
       go_wp2_with (first
        | (go_at_call 17; ((with_reducible refine (manifest_Name.calls x.f0 nm _ (GT.below HG.out HX.out.B) HNF.out).mono ?_); rintro e_ w7 ⟨rfl, hb⟩; have HX_ := Aside0.mk (HX.out.step hb); have HM_ := Aside0.mk (ownsMap_belowM HM.out hb); clear HX HM hb v70 v71 v72 v20 v21 v22 z20 z21 z22; have HX := HX_; have HM := HM_; clear HX_ HM_; obtain ⟨v70, v71, v72, v20, v21, v22, z20, z21, z22⟩ := HX.out.vis))
        | (go_at_call 45; ((with_reducible refine (contains_calls _ An cn names nm (Kd.R_reads' HX.out.hN).2.2 (by have := HBD.out.1; omega)).mono ?_); rintro e_ w8 ⟨rfl, rfl⟩))
        | (at_mapUpdate; (refine wpList_mapUpdate_own _ rfl _ _ _ 87 rfl 9 4 keyLawS Tryd.underlying87 (plainElem (H := Unit) Tryd.prog 4) gm (i + 1) D rfl HM.out (by have := HBD.out.2.1; unfold maxLen; omega) _ _ (.string nm.data.toList) rfl rfl (keyOf_strb nm HNS.out) (.lit (.bool true)) [] (plainElem_bool Tryd.underlying4 true) ?_; intro w9 hown hgrow; have HM2 := Aside0.mk hown; have HX2 := Aside0.mk (HX.out.turned HM.out hgrow GM.out); clear hown hgrow HX HM v70 v71 v72 v20 v21 v22 z20 z21 z22)))
       go_roundw
       ·exact ⟨i + 1, _, rfl, cs, HX2, HM2, ⟨by rw [recStay_succ _ i cs, ← HXX.out, ← HNM.out]; exact HS.out.step nm⟩, ⟨fun j hj => by rcases Nat.lt_or_eq_of_le (Nat.lt_succ_iff.1 hj) with h3 | h3; exact HOKS.out j h3; rw [h3, ← HXX.out, ← HNM.out]; exact HCN.out⟩⟩
       ·show rs.length - (((i + 1 : Nat) : Int)).toNat < rs.length - (i : Int).toNat
        omega
     ·obtain rfl : i = rs.length := by omega
      have csd : decide ((rs.length : Int) < (rs.length : Int)) = false := decide_eq_false (Int.lt_irrefl _)
      have hyes := recOk_yes HOKS.out
      have hh := HH.out
      rw [if_pos hyes] at hh
      simp only [Option.some.injEq, Prod.mk.injEq] at hh
      obtain ⟨rfl, rfl, rfl, hr4, rfl⟩ := hh
      obtain ⟨st, hst⟩ : ∃ st, st = recStay rs rs.length := ⟨_, rfl⟩
      rw [← hst] at hr4 HS
      have HR4 := Aside0.mk hr4
      clear hyes hst hr4
      go_wp2
      go_loopw [13, 60] (fun v13 v60 w' => ∃ (t : Nat) (vo : Value) (ops : List S60), v13 = vo ∧ v60 = .int .i64 t ∧ t ≤ names.length ∧ Aside0 (ops = recOps (names.take t) st) ∧ Aside0 (ZX w w' g2 g7 (.slice Av rs.length cv) rs nx sq (.slice An names.length cn) names) ∧ Aside0 (w'.ownsMap Tryd.prog 9 (plainElem (H := Unit) Tryd.prog 4) gm (rs.length + 1) D) ∧ Aside0 (Kd.S k60 60 w' w.heap.size (fun _ => True) vo ops)) (fun _ v60 _ => names.length - (intOf v60).toNat)
      case atStart => exact ⟨0, _, [], rfl, rfl, Nat.zero_le _, ⟨rfl⟩, HX, HM, ⟨Kd.S_nil _ _ _ _ _⟩⟩
      case round =>
       clear HX HM v70 v71 v72 v20 v21 v22 z20 z21 z22
       obtain ⟨t, vo, ops, hvo, rfl, htl, HOP, HX, HM, HO⟩ := hrel
       subst hvo
       obtain ⟨v70, v71, v72, v20, v21, v22, z20, z21, z22⟩ := HX.out.vis
       by_cases ct : t < names.length
       ·have ctd := decide_eq_true (show (t : Int) < (names.length : Int) by omega)
        obtain ⟨an, rfl, hs0⟩ := Kd.at_string (Kd.R_reads' HX.out.hN).2.2 (t : Int) (by omega) (by omega)
        obtain ⟨y, hy⟩ : ∃ y, y = rdOf ByteArray.empty names (t : Int) := ⟨_, rfl⟩
        have HY := Aside0.mk hy
        have HYS := Aside0.mk (show y.size ≤ maxLen by rw [hy]; exact HBD.out.2.2 _ (rdOf_mem names t ct))
        rw [← hy, Int.toNat_natCast] at hs0
        clear hy
        have s0 := eq_true (show (0 : Int) ≤ (t : Int) by omega)
        have s1 := eq_true (show (t : Int) < (names.length : Int) by omega)
        have hwt : IntKind.i64.wrap ((t : Int) + 1) = ((t + 1 : Nat) : Int) := by rw [IntKind.wrap_i64]; have := HBD.out.1; omega
        have HOL := Aside0.mk (show ops.length ≤ t by rw [HOP.out]; have := recOps_len (names.take t) st; rw [List.length_take] at this; omega)
        have hlk := look_str HM.out HS.out y HYS.out
        cases hin : inSt st y.data.toList with
        | true =>
         rw [hin] at hlk
         have HIN := Aside0.mk hin
         clear hin
         go_wp2
         go_roundw
         ·exact ⟨t + 1, u13, ops, rfl, rfl, ct, ⟨by rw [recOps_succ names st t ct, ← HY.out, HIN.out, if_pos rfl, List.append_nil]; exact HOP.out⟩, HX, HM, HO⟩
         ·show names.length - (((t + 1 : Nat) : Int)).toNat < names.length - (t : Int).toNat
          omega
        | false =>
         rw [hin] at hlk
         have HIN := Aside0.mk hin
         clear hin
         go_wp2_with (first
          | ((with_reducible refine gate_builtin (b := .append) (xs := #[.tmp 68, .tmp 71]) rfl ?_); at_builtin; (refine Kd.S_append k60 (w0 := w) w.heap.size rfl (.tmp 68) (.tmp 71) 42 60 (.agg #[(.int .i64 0), (.string ⟨#[]⟩), (.string ⟨#[]⟩), (.slice none 0 0)]) 64 rfl Tryd.underlying42 info60 rfl (by decide) (by omega) u13 ops (⟨4, y, (⟨#[]⟩ : ByteArray), ([] : List Int)⟩ : S60) [.int .i64 4, .string y, .string (⟨#[]⟩ : ByteArray), .slice none 0 0] (fun _ => True) (fun _ => False) rfl rfl ?aP (fun k_ hk_ => hk_.elim) ?aF ?aO ?aB ?aS ?aL ?_; (case aP => exact k60_mkM _ _ _ (⟨4, y, (⟨#[]⟩ : ByteArray), ([] : List Int)⟩ : S60) (Kd.R_nil _ _ _ _ _)); (case aB => exact HX.out.B); (case aF => exact (fun _ _ => trivial)); (case aO => exact Kd.S_mono HO.out (fun k_ hk => ⟨trivial, fun e_ => e_⟩)); (case aS => exact below_size HX.out.B); (case aL => exact (by have := HOL.out; have := HBD.out.1; omega)); intro v72_ w9 ho hb hgr hat; have HX2 := Aside0.mk (HX.out.over (Kd.S_typed HO.out) hb hgr); have HM2 := Aside0.mk (map_over HM.out (Kd.S_typed HO.out) hgr); have HO2 := Aside0.mk ho; clear ho hb hgr hat HX HM HO v70 v71 v72 v20 v21 v22 z20 z21 z22)))
         go_roundw
         ·exact ⟨t + 1, _, ops ++ [⟨4, y, ⟨#[]⟩, []⟩], rfl, rfl, ct, ⟨by rw [recOps_succ names st t ct, ← HY.out, HIN.out, if_neg Bool.false_ne_true, HOP.out]; rfl⟩, HX2, HM2, HO2⟩
         ·show names.length - (((t + 1 : Nat) : Int)).toNat < names.length - (t : Int).toNat
          omega
       ·obtain rfl : t = names.length := by omega
        have ctd : decide ((names.length : Int) < (names.length : Int)) = false := decide_eq_false (Int.lt_irrefl _)
        rw [List.take_length] at HOP
        go_wp2
        refine bodyPost_ret (results_ctt rfl _ _ g2 27 #[.slice Av rs.length cv, .int .i64 nx, .int .i64 sq] (0, 0) _ rfl (blk_put (cs := #[.slice Av rs.length cv, .int .i64 nx, .int .i64 0]) (blk_put (cs := #[.slice Av rs.length cv, .int .i64 0, .int .i64 0]) (blk_put (cs := #[.slice none 0 0, .int .i64 0, .int .i64 0]) HX.out.c2 0 _ rfl) 1 _ rfl) 2 _ rfl) Tryd.underlying27 rfl (by kernel_rfl)) rfl ?_
        refine ⟨_, _, rfl, Kd.R_mono (Kd.R_far (p := ⟨g2, 2, none⟩) (Kd.R_far (p := ⟨g2, 1, none⟩) (Kd.R_far (p := ⟨g2, 0, none⟩) (Kd.R_types HX.out.hR HX.out.c2 (by decide)) (fun _ hk => hk.2) _) (fun _ hk => hk.2) _) (fun _ hk => hk.2) _) (fun _ h_ => h_.1), ?_, below_set (below_set (below_set HX.out.B G2.out) G2.out) G2.out⟩
        rw [← HR4.out, ← HOP.out]
        exact Kd.S_mono (Kd.S_far (p := ⟨g2, 2, none⟩) (Kd.S_far (p := ⟨g2, 1, none⟩) (Kd.S_far (p := ⟨g2, 0, none⟩) (Kd.S_types HO.out HX.out.c2 (by decide)) (fun _ hk => hk.2) _) (fun _ hk => hk.2) _) (fun _ hk => hk.2) _) (fun _ h_ => h_.1)
   ·rw [if_neg (show ¬ ((rs, nx, sq, ee) : List S63 × Int × Int × Int).2.2.2 = 0 from hee)] at h
    simp only [Option.some.injEq, Prod.mk.injEq] at h
    obtain ⟨rfl, rfl, rfl, rfl, rfl⟩ := h
    have heea : (ee == 0) = false := beq_eq_false_iff_ne.mpr hee
    have heeb : (ee != 0) = true := bne_iff_ne.mpr hee
    have heec : (ee = 0) = False := eq_false hee
    clear hee
    go_enter Tryd.func26, Tryd.ntmps26
    go_upto_region 7 with (first
     | ((with_reducible refine gate_dst (N := 1) rfl ?_); refine box_event ?hg (N := 1) ?hd (cs := #[.int .i64 a0_0, .slice A0_1 l0_1.length c0_1]) (t := 50) ?hr ?_; (case hd => rfl); (case hg => rfl); (case hr => first | (go_simp; done) | (go_simp; rfl)); intro g1 hg1 w1 hbox hb; have CB1 := Aside0.mk hbox; have HB_ := Aside0.mk (below_step HB.out hb); clear HB hb hbox hg1; have HB := HB_; clear HB_; have v10 : w1.cell? ⟨g1, 0, none⟩ = some (.int .i64 a0_0) := (blk_cell CB1.out 0).trans rfl; have v11 : w1.cell? ⟨g1, 1, none⟩ = some (.slice A0_1 l0_1.length c0_1) := (blk_cell CB1.out 1).trans rfl)
     | ((with_reducible refine gate_dst (N := 2) rfl ?_); refine box_event ?hg (N := 2) ?hd (cs := #[.slice none 0 0, .int .i64 0, .int .i64 0]) (t := 27) ?hr ?_; (case hd => rfl); (case hg => rfl); (case hr => first | (go_simp; done) | (go_simp; rfl)); intro g2 hg2 w2 hbox hb; have CB2x := Aside0.mk hbox; have G2 := Aside0.mk (show w.heap.size ≤ g2 by rw [hg2]; exact below_size HB.out); have HB_ := Aside0.mk (below_step HB.out hb); have CB1_ := Aside0.mk (blk_below CB1.out hb); clear HB CB1 v10 v11; have HB := HB_; have CB1 := CB1_; clear HB_ CB1_; have v10 : w2.cell? ⟨g1, 0, none⟩ = some (.int .i64 a0_0) := (blk_cell CB1.out 0).trans rfl; have v11 : w2.cell? ⟨g1, 1, none⟩ = some (.slice A0_1 l0_1.length c0_1) := (blk_cell CB1.out 1).trans rfl; have CB2 := CB2x; clear CB2x hb hbox hg2; have v20 : w2.cell? ⟨g2, 0, none⟩ = some (.slice none 0 0) := (blk_cell CB2.out 0).trans rfl; have v21 : w2.cell? ⟨g2, 1, none⟩ = some (.int .i64 0) := (blk_cell CB2.out 1).trans rfl; have v22 : w2.cell? ⟨g2, 2, none⟩ = some (.int .i64 0) := (blk_cell CB2.out 2).trans rfl; have z20 := blk_frozen CB2.out 0; have z21 := blk_frozen CB2.out 1; have z22 := blk_frozen CB2.out 2)
     | (go_at_call 30; ((with_reducible refine (store_Read.calls (3 * l0_1.length + 3) a0_0 A0_1 c0_1 l0_1 ⟨#[109]⟩ q 0 _ (Kd.C_below HR.out HB.out) HC.out HREAD.out).mono ?_); rintro e_ w3 ⟨v3, rfl, hR, hb⟩; obtain ⟨Aq, cq, rfl⟩ := Kd.R_slice hR; have HQC := Aside0.mk (Kd.R_reads' hR).2.1; have HQ := Aside0.mk (Kd.R_reads' hR).2.2; have HB_ := Aside0.mk (below_step HB.out hb); have CB1_ := Aside0.mk (blk_below CB1.out hb); have CB2_ := Aside0.mk (blk_below CB2.out hb); clear HB CB1 CB2 v10 v11 v20 v21 v22 z20 z21 z22; have HB := HB_; have CB1 := CB1_; have CB2 := CB2_; clear HB_ CB1_ CB2_; have v10 : w3.cell? ⟨g1, 0, none⟩ = some (.int .i64 a0_0) := (blk_cell CB1.out 0).trans rfl; have v11 : w3.cell? ⟨g1, 1, none⟩ = some (.slice A0_1 l0_1.length c0_1) := (blk_cell CB1.out 1).trans rfl; have v20 : w3.cell? ⟨g2, 0, none⟩ = some (.slice none 0 0) := (blk_cell CB2.out 0).trans rfl; have v21 : w3.cell? ⟨g2, 1, none⟩ = some (.int .i64 0) := (blk_cell CB2.out 1).trans rfl; have v22 : w3.cell? ⟨g2, 2, none⟩ = some (.int .i64 0) := (blk_cell CB2.out 2).trans rfl; have z20 := blk_frozen CB2.out 0; have z21 := blk_frozen CB2.out 1; have z22 := blk_frozen CB2.out 2; clear hb hR))
     | ((with_reducible refine gate_dst (N := 7) rfl ?_); refine box_event ?hg (N := 7) ?hd (cs := #[.slice none 0 0, .int .i64 0, .int .i64 0]) (t := 27) ?hr ?_; (case hd => rfl); (case hg => rfl); (case hr => first | (go_simp; done) | (go_simp; rfl)); (intro g7 hg7 w4 hbox hb; have CB7x := Aside0.mk hbox; have HB3 := HB; have CB23 := CB2; have CB13 := CB1; have HB_ := Aside0.mk (below_step HB.out hb); have CB1_ := Aside0.mk (blk_below CB1.out hb); have CB2_ := Aside0.mk (blk_below CB2.out hb); have HQ_ := Aside0.mk (Kd.C_below HQ.out hb); clear HB CB1 CB2 HQ v10 v11 v20 v21 v22 z20 z21 z22; have HB := HB_; have CB1 := CB1_; have CB2 := CB2_; have HQ := HQ_; clear HB_ CB1_ CB2_ HQ_; have v10 : w4.cell? ⟨g1, 0, none⟩ = some (.int .i64 a0_0) := (blk_cell CB1.out 0).trans rfl; have v11 : w4.cell? ⟨g1, 1, none⟩ = some (.slice A0_1 l0_1.length c0_1) := (blk_cell CB1.out 1).trans rfl; have v20 : w4.cell? ⟨g2, 0, none⟩ = some (.slice none 0 0) := (blk_cell CB2.out 0).trans rfl; have v21 : w4.cell? ⟨g2, 1, none⟩ = some (.int .i64 0) := (blk_cell CB2.out 1).trans rfl; have v22 : w4.cell? ⟨g2, 2, none⟩ = some (.int .i64 0) := (blk_cell CB2.out 2).trans rfl; have z20 := blk_frozen CB2.out 0; have z21 := blk_frozen CB2.out 1; have z22 := blk_frozen CB2.out 2; have CB7 := CB7x; have G7 : Aside0 (w.heap.size ≤ g7) := ⟨by rw [hg7]; exact below_size HB3.out⟩; have G27 : Aside0 (g2 ≠ g7) := ⟨by rw [hg7]; exact Nat.ne_of_lt (blk_lt CB23.out)⟩; have G17 : Aside0 (g1 ≠ g7) := ⟨by rw [hg7]; exact Nat.ne_of_lt (blk_lt CB13.out)⟩; clear HB3 CB23 CB13; clear CB7x hb hbox hg7; have v70 : w4.cell? ⟨g7, 0, none⟩ = some (.slice none 0 0) := (blk_cell CB7.out 0).trans rfl; have v71 : w4.cell? ⟨g7, 1, none⟩ = some (.int .i64 0) := (blk_cell CB7.out 1).trans rfl; have v72 : w4.cell? ⟨g7, 2, none⟩ = some (.int .i64 0) := (blk_cell CB7.out 2).trans rfl; have z70 := blk_frozen CB7.out 0; have z71 := blk_frozen CB7.out 1; have z72 := blk_frozen CB7.out 2))
     | (go_at_call 11; ((with_reducible refine (manifest_Take.calls Aq cq q rs nx sq ee _ HQ.out HQC.out (GT.below HG.out HB.out) HTAKE.out).mono ?_); rintro e_ w5 ⟨v5, rfl, hR, hb⟩; obtain ⟨Av, cv, rfl⟩ := Kd.R_slice hR; have HRS := Aside0.mk (Kd.R_lower hR (below_size HB.out)); have G5 := Aside0.mk (blk_lt CB7.out); have HB_ := Aside0.mk (below_step HB.out hb); have CB1_ := Aside0.mk (blk_below CB1.out hb); have CB2_ := Aside0.mk (blk_below CB2.out hb); have CB7_ := Aside0.mk (blk_below CB7.out hb); clear HB CB1 CB2 CB7 v10 v11 v20 v21 v22 z20 z21 z22 v70 v71 v72 z70 z71 z72; have HB := HB_; have CB1 := CB1_; have CB2 := CB2_; have CB7 := CB7_; clear HB_ CB1_ CB2_ CB7_; have v10 : w5.cell? ⟨g1, 0, none⟩ = some (.int .i64 a0_0) := (blk_cell CB1.out 0).trans rfl; have v11 : w5.cell? ⟨g1, 1, none⟩ = some (.slice A0_1 l0_1.length c0_1) := (blk_cell CB1.out 1).trans rfl; have v20 : w5.cell? ⟨g2, 0, none⟩ = some (.slice none 0 0) := (blk_cell CB2.out 0).trans rfl; have v21 : w5.cell? ⟨g2, 1, none⟩ = some (.int .i64 0) := (blk_cell CB2.out 1).trans rfl; have v22 : w5.cell? ⟨g2, 2, none⟩ = some (.int .i64 0) := (blk_cell CB2.out 2).trans rfl; have z20 := blk_frozen CB2.out 0; have z21 := blk_frozen CB2.out 1; have z22 := blk_frozen CB2.out 2; have v70 : w5.cell? ⟨g7, 0, none⟩ = some (.slice none 0 0) := (blk_cell CB7.out 0).trans rfl; have v71 : w5.cell? ⟨g7, 1, none⟩ = some (.int .i64 0) := (blk_cell CB7.out 1).trans rfl; have v72 : w5.cell? ⟨g7, 2, none⟩ = some (.int .i64 0) := (blk_cell CB7.out 2).trans rfl; have z70 := blk_frozen CB7.out 0; have z71 := blk_frozen CB7.out 1; have z72 := blk_frozen CB7.out 2; clear hb hR)))
    have HB_ : Aside0 (Below w.heap.size w (((w5.setCell ⟨g7, 0, none⟩ (.slice Av rs.length cv)).setCell ⟨g7, 1, none⟩ (.int .i64 nx)).setCell ⟨g7, 2, none⟩ (.int .i64 sq))) := ⟨(below_set (below_set (below_set HB.out G7.out) G7.out) G7.out)⟩
    have CB7_ := Aside0.mk (blk_put (cs' := #[.slice Av rs.length cv, .int .i64 nx, .int .i64 sq]) (blk_put (cs' := #[.slice Av rs.length cv, .int .i64 nx, .int .i64 0]) (blk_put (cs' := #[.slice Av rs.length cv, .int .i64 0, .int .i64 0]) CB7.out 0 (.slice Av rs.length cv) rfl) 1 (.int .i64 nx) rfl) 2 (.int .i64 sq) rfl)
    have CB2_ : Aside0 ((((w5.setCell ⟨g7, 0, none⟩ (.slice Av rs.length cv)).setCell ⟨g7, 1, none⟩ (.int .i64 nx)).setCell ⟨g7, 2, none⟩ (.int .i64 sq)).heap[g2]? = some (.cells #[.slice none 0 0, .int .i64 0, .int .i64 0] 27 (0, 0))) := ⟨(blk_far (blk_far (blk_far CB2.out (show g2 ≠ g7 from G27.out) _) (show g2 ≠ g7 from G27.out) _) (show g2 ≠ g7 from G27.out) _)⟩
    have CB1_ : Aside0 ((((w5.setCell ⟨g7, 0, none⟩ (.slice Av rs.length cv)).setCell ⟨g7, 1, none⟩ (.int .i64 nx)).setCell ⟨g7, 2, none⟩ (.int .i64 sq)).heap[g1]? = some (.cells #[.int .i64 a0_0, .slice A0_1 l0_1.length c0_1] 50 (0, 0))) := ⟨(blk_far (blk_far (blk_far CB1.out (show g1 ≠ g7 from G17.out) _) (show g1 ≠ g7 from G17.out) _) (show g1 ≠ g7 from G17.out) _)⟩
    have HRS_ : Aside0 (Kd.R k63 63 (((w5.setCell ⟨g7, 0, none⟩ (.slice Av rs.length cv)).setCell ⟨g7, 1, none⟩ (.int .i64 nx)).setCell ⟨g7, 2, none⟩ (.int .i64 sq)) w.heap.size (fun _ => True) (.slice Av rs.length cv) rs) := ⟨Kd.R_mono (Kd.R_far (p := ⟨g7, 2, none⟩) (Kd.R_far (p := ⟨g7, 1, none⟩) (Kd.R_far (p := ⟨g7, 0, none⟩) (Kd.R_types HRS.out CB7.out (by decide)) (fun _ hk => hk.2) _) (fun _ hk => hk.2) _) (fun _ hk => hk.2) _) (fun _ h_ => h_.1)⟩
    clear HB HRS CB1 CB2 CB7 v10 v11 v20 v21 v22 z20 z21 z22 v70 v71 v72 z70 z71 z72
    generalize (((w5.setCell ⟨g7, 0, none⟩ (.slice Av rs.length cv)).setCell ⟨g7, 1, none⟩ (.int .i64 nx)).setCell ⟨g7, 2, none⟩ (.int .i64 sq)) = W5 at *
    have HB := HB_
    have CB7 := CB7_
    have CB2 := CB2_
    have CB1 := CB1_
    have HRS := HRS_
    clear HB_ CB7_ CB2_ CB1_ HRS_
    have v10 : W5.cell? ⟨g1, 0, none⟩ = some (.int .i64 a0_0) := (blk_cell CB1.out 0).trans rfl
    have v11 : W5.cell? ⟨g1, 1, none⟩ = some (.slice A0_1 l0_1.length c0_1) := (blk_cell CB1.out 1).trans rfl
    have v20 : W5.cell? ⟨g2, 0, none⟩ = some (.slice none 0 0) := (blk_cell CB2.out 0).trans rfl
    have v21 : W5.cell? ⟨g2, 1, none⟩ = some (.int .i64 0) := (blk_cell CB2.out 1).trans rfl
    have v22 : W5.cell? ⟨g2, 2, none⟩ = some (.int .i64 0) := (blk_cell CB2.out 2).trans rfl
    have z20 := blk_frozen CB2.out 0
    have z21 := blk_frozen CB2.out 1
    have z22 := blk_frozen CB2.out 2
    go_wp2
    refine bodyPost_ret (results_ctt rfl _ _ g2 27 #[.slice none 0 0, .int .i64 0, .int .i64 0] (0, 0) _ rfl (blk_put (cs := #[.slice none 0 0, .int .i64 0, .int .i64 0]) (blk_put (cs := #[.slice none 0 0, .int .i64 0, .int .i64 0]) (blk_put (cs := #[.slice none 0 0, .int .i64 0, .int .i64 0]) CB2.out 0 _ rfl) 1 _ rfl) 2 _ rfl) Tryd.underlying27 rfl (by kernel_rfl)) rfl ?_
    exact ⟨_, _, rfl, Kd.R_nil _ _ _ _ _, Kd.S_nil _ _ _ _ _, below_set (below_set (below_set HB.out G2.out) G2.out) G2.out⟩
  ·rw [if_neg (show ¬ ((q, e) : List Int × Int).2 = 1 from he1), if_neg (show ¬ ((q, e) : List Int × Int).2 = 0 from he0)] at h
   obtain ⟨⟨rs, nx, sq, ee⟩, htake, h⟩ := Option.bind_eq_some_iff.1 h
   simp only [Option.some.injEq, Prod.mk.injEq] at htake
   obtain ⟨rfl, rfl, rfl, rfl⟩ := htake
   rw [if_pos (show ((([] : List S63), (0 : Int), (0 : Int), (0 : Int)) : List S63 × Int × Int × Int).2.2.2 = 0 from rfl)] at h
   obtain ⟨names, hnames, h⟩ := Option.bind_eq_some_iff.1 h
   by_cases hbd : names.length ≤ 274877906944 ∧ ([] : List S63).length ≤ 64 ∧ ∀ n, n ∈ names → n.size ≤ maxLen
   case neg => rw [if_neg (show ¬ (names.length ≤ 274877906944 ∧ ((([] : List S63), (0 : Int), (0 : Int), (0 : Int)) : List S63 × Int × Int × Int).1.length ≤ 64 ∧ ∀ n, n ∈ names → n.size ≤ maxLen) from hbd)] at h; cases h
   rw [if_pos (show names.length ≤ 274877906944 ∧ ((([] : List S63), (0 : Int), (0 : Int), (0 : Int)) : List S63 × Int × Int × Int).1.length ≤ 64 ∧ ∀ n, n ∈ names → n.size ≤ maxLen from hbd)] at h
   have HH : Aside0 ((if recOk names ([] : List S63) = true then some (([] : List S63), (0 : Int), (0 : Int), recOps names (recStay ([] : List S63) ([] : List S63).length), 0) else some ([], 0, 0, [], 13)) = some (r1, r2, r3, r4, r5)) := ⟨h⟩
   have HBD := Aside0.mk hbd
   have HNAMES := Aside0.mk hnames
   clear h hbd hnames
   have he1a : (e == 1) = false := beq_eq_false_iff_ne.mpr he1
   have he1b : (e != 1) = true := bne_iff_ne.mpr he1
   have he1c : (e = 1) = False := eq_false he1
   have he0a : (e == 0) = false := beq_eq_false_iff_ne.mpr he0
   have he0b : (e != 0) = true := bne_iff_ne.mpr he0
   have he0c : (e = 0) = False := eq_false he0
   clear he0 he1
   go_enter Tryd.func26, Tryd.ntmps26
   go_upto_region 9 with (first
    | ((with_reducible refine gate_dst (N := 1) rfl ?_); refine box_event ?hg (N := 1) ?hd (cs := #[.int .i64 a0_0, .slice A0_1 l0_1.length c0_1]) (t := 50) ?hr ?_; (case hd => rfl); (case hg => rfl); (case hr => first | (go_simp; done) | (go_simp; rfl)); intro g1 hg1 w1 hbox hb; have CB1 := Aside0.mk hbox; have HB_ := Aside0.mk (below_step HB.out hb); clear HB hb hbox hg1; have HB := HB_; clear HB_; have v10 : w1.cell? ⟨g1, 0, none⟩ = some (.int .i64 a0_0) := (blk_cell CB1.out 0).trans rfl; have v11 : w1.cell? ⟨g1, 1, none⟩ = some (.slice A0_1 l0_1.length c0_1) := (blk_cell CB1.out 1).trans rfl)
    | ((with_reducible refine gate_dst (N := 2) rfl ?_); refine box_event ?hg (N := 2) ?hd (cs := #[.slice none 0 0, .int .i64 0, .int .i64 0]) (t := 27) ?hr ?_; (case hd => rfl); (case hg => rfl); (case hr => first | (go_simp; done) | (go_simp; rfl)); intro g2 hg2 w2 hbox hb; have CB2x := Aside0.mk hbox; have G2 := Aside0.mk (show w.heap.size ≤ g2 by rw [hg2]; exact below_size HB.out); have HB_ := Aside0.mk (below_step HB.out hb); have CB1_ := Aside0.mk (blk_below CB1.out hb); clear HB CB1 v10 v11; have HB := HB_; have CB1 := CB1_; clear HB_ CB1_; have v10 : w2.cell? ⟨g1, 0, none⟩ = some (.int .i64 a0_0) := (blk_cell CB1.out 0).trans rfl; have v11 : w2.cell? ⟨g1, 1, none⟩ = some (.slice A0_1 l0_1.length c0_1) := (blk_cell CB1.out 1).trans rfl; have CB2 := CB2x; clear CB2x hb hbox hg2; have v20 : w2.cell? ⟨g2, 0, none⟩ = some (.slice none 0 0) := (blk_cell CB2.out 0).trans rfl; have v21 : w2.cell? ⟨g2, 1, none⟩ = some (.int .i64 0) := (blk_cell CB2.out 1).trans rfl; have v22 : w2.cell? ⟨g2, 2, none⟩ = some (.int .i64 0) := (blk_cell CB2.out 2).trans rfl; have z20 := blk_frozen CB2.out 0; have z21 := blk_frozen CB2.out 1; have z22 := blk_frozen CB2.out 2)
    | (go_at_call 30; ((with_reducible refine (store_Read.calls (3 * l0_1.length + 3) a0_0 A0_1 c0_1 l0_1 ⟨#[109]⟩ q e _ (Kd.C_below HR.out HB.out) HC.out HREAD.out).mono ?_); rintro e_ w3 ⟨v3, rfl, hR, hb⟩; obtain ⟨Aq, cq, rfl⟩ := Kd.R_slice hR; have HQC := Aside0.mk (Kd.R_reads' hR).2.1; have HQ := Aside0.mk (Kd.R_reads' hR).2.2; have HB_ := Aside0.mk (below_step HB.out hb); have CB1_ := Aside0.mk (blk_below CB1.out hb); have CB2_ := Aside0.mk (blk_below CB2.out hb); clear HB CB1 CB2 v10 v11 v20 v21 v22 z20 z21 z22; have HB := HB_; have CB1 := CB1_; have CB2 := CB2_; clear HB_ CB1_ CB2_; have v10 : w3.cell? ⟨g1, 0, none⟩ = some (.int .i64 a0_0) := (blk_cell CB1.out 0).trans rfl; have v11 : w3.cell? ⟨g1, 1, none⟩ = some (.slice A0_1 l0_1.length c0_1) := (blk_cell CB1.out 1).trans rfl; have v20 : w3.cell? ⟨g2, 0, none⟩ = some (.slice none 0 0) := (blk_cell CB2.out 0).trans rfl; have v21 : w3.cell? ⟨g2, 1, none⟩ = some (.int .i64 0) := (blk_cell CB2.out 1).trans rfl; have v22 : w3.cell? ⟨g2, 2, none⟩ = some (.int .i64 0) := (blk_cell CB2.out 2).trans rfl; have z20 := blk_frozen CB2.out 0; have z21 := blk_frozen CB2.out 1; have z22 := blk_frozen CB2.out 2; clear hb hR))
    | ((with_reducible refine gate_dst (N := 7) rfl ?_); refine box_event ?hg (N := 7) ?hd (cs := #[.slice none 0 0, .int .i64 0, .int .i64 0]) (t := 27) ?hr ?_; (case hd => rfl); (case hg => rfl); (case hr => first | (go_simp; done) | (go_simp; rfl)); (intro g7 hg7 w4 hbox hb; have CB7x := Aside0.mk hbox; have HB3 := HB; have CB23 := CB2; have CB13 := CB1; have HB_ := Aside0.mk (below_step HB.out hb); have CB1_ := Aside0.mk (blk_below CB1.out hb); have CB2_ := Aside0.mk (blk_below CB2.out hb); have HQ_ := Aside0.mk (Kd.C_below HQ.out hb); clear HB CB1 CB2 HQ v10 v11 v20 v21 v22 z20 z21 z22; have HB := HB_; have CB1 := CB1_; have CB2 := CB2_; have HQ := HQ_; clear HB_ CB1_ CB2_ HQ_; have v10 : w4.cell? ⟨g1, 0, none⟩ = some (.int .i64 a0_0) := (blk_cell CB1.out 0).trans rfl; have v11 : w4.cell? ⟨g1, 1, none⟩ = some (.slice A0_1 l0_1.length c0_1) := (blk_cell CB1.out 1).trans rfl; have v20 : w4.cell? ⟨g2, 0, none⟩ = some (.slice none 0 0) := (blk_cell CB2.out 0).trans rfl; have v21 : w4.cell? ⟨g2, 1, none⟩ = some (.int .i64 0) := (blk_cell CB2.out 1).trans rfl; have v22 : w4.cell? ⟨g2, 2, none⟩ = some (.int .i64 0) := (blk_cell CB2.out 2).trans rfl; have z20 := blk_frozen CB2.out 0; have z21 := blk_frozen CB2.out 1; have z22 := blk_frozen CB2.out 2; have CB7 := CB7x; have G7 : Aside0 (w.heap.size ≤ g7) := ⟨by rw [hg7]; exact below_size HB3.out⟩; have G27 : Aside0 (g2 ≠ g7) := ⟨by rw [hg7]; exact Nat.ne_of_lt (blk_lt CB23.out)⟩; have G17 : Aside0 (g1 ≠ g7) := ⟨by rw [hg7]; exact Nat.ne_of_lt (blk_lt CB13.out)⟩; clear HB3 CB23 CB13; clear CB7x hb hbox hg7; have v70 : w4.cell? ⟨g7, 0, none⟩ = some (.slice none 0 0) := (blk_cell CB7.out 0).trans rfl; have v71 : w4.cell? ⟨g7, 1, none⟩ = some (.int .i64 0) := (blk_cell CB7.out 1).trans rfl; have v72 : w4.cell? ⟨g7, 2, none⟩ = some (.int .i64 0) := (blk_cell CB7.out 2).trans rfl; have z70 := blk_frozen CB7.out 0; have z71 := blk_frozen CB7.out 1; have z72 := blk_frozen CB7.out 2)))
   obtain ⟨rs, hrs⟩ : ∃ rs : List S63, rs = [] := ⟨_, rfl⟩
   obtain ⟨Av, hAv⟩ : ∃ Av : Option Addr, Av = none := ⟨_, rfl⟩
   obtain ⟨cv, hcv⟩ : ∃ cv : Nat, cv = 0 := ⟨_, rfl⟩
   obtain ⟨nx, hnx⟩ : ∃ nx : Int, nx = 0 := ⟨_, rfl⟩
   obtain ⟨sq, hsq⟩ : ∃ sq : Int, sq = 0 := ⟨_, rfl⟩
   have hsl : (.slice none 0 0 : Value) = .slice Av rs.length cv := by rw [hrs, hAv, hcv]; rfl
   have HRS : Aside0 (Kd.R k63 63 w4 w.heap.size (fun _ => True) (.slice Av rs.length cv) rs) := ⟨by rw [hrs, hAv, hcv]; exact Kd.R_nil _ _ _ _ _⟩
   have CB7_ : Aside0 (w4.heap[g7]? = some (.cells #[.slice Av rs.length cv, .int .i64 nx, .int .i64 sq] 27 (0, 0))) := ⟨by rw [← hsl, hnx, hsq]; exact CB7.out⟩
   have HH_ : Aside0 ((if recOk names rs = true then some (rs, nx, sq, recOps names (recStay rs rs.length), 0) else some ([], 0, 0, [], 13)) = some (r1, r2, r3, r4, r5)) := ⟨by rw [hrs, hnx, hsq]; exact HH.out⟩
   have HBD_ : Aside0 (names.length ≤ 274877906944 ∧ rs.length ≤ 64 ∧ ∀ n, n ∈ names → n.size ≤ maxLen) := ⟨by rw [hrs]; exact HBD.out⟩
   clear HH HBD hsl hrs hAv hcv hnx hsq CB7 v70 v71 v72 z70 z71 z72
   have CB7 := CB7_
   have HH := HH_
   have HBD := HBD_
   clear CB7_ HH_ HBD_
   go_upto_region 10 with (first
    | (go_at_call 44; ((with_reducible refine (store_Names.calls (3 * l0_1.length + 3) a0_0 A0_1 c0_1 l0_1 names _ (Kd.C_below HR.out HB.out) HC.out HNAMES.out).mono ?_); rintro e_ w6 ⟨v6, rfl, hR, hb⟩; have HX := Aside0.mk (ZX.mk (vn := v6) (below_step HB.out hb) (blk_below CB2.out hb) (blk_below CB7.out hb) (Kd.R_below HRS.out hb) (Kd.R_lower hR (below_size HB.out))); clear HB HRS CB1 CB2 v10 v11 v20 v21 v22 z20 z21 z22 CB7 hR hb)))
   obtain ⟨An, cn, hvn⟩ := Kd.R_slice HX.out.hN
   subst hvn
   have hm0 := World.ownsMap_made (H := Unit) w6 Tryd.prog 9 (plainElem (H := Unit) Tryd.prog 4)
   obtain ⟨W2, hup, hm1, hturn⟩ := hm0.store keyLawS Tryd.underlying87 (show 0 < maxLen by decide) (keyOf_strb ⟨#[109]⟩ (by decide)) (plainElem_bool Tryd.underlying4 true)
   have GM := Aside0.mk (below_size HX.out.B)
   have HX2 := Aside0.mk ((HX.out.step (below_alloc (Below.refl _ _) (.map #[] 0))).turned hm0 hturn.grown GM.out)
   have HM := Aside0.mk hm1
   have HS := Aside0.mk (StayOf.start.step ⟨#[109]⟩)
   clear HX hm0 hm1 hturn
   have hmm := @run_makeMap Tryd.prog
   obtain ⟨v70, v71, v72, v20, v21, v22, z20, z21, z22⟩ := HX2.out.vis
   go_upto_region 12 with (first
    | fail)
   clear hmm hup
   generalize w6.heap.size = gm at *
   go_loopw [43] (fun v43 w' => ∃ (i : Nat) (D : DataW Unit), v43 = .int .i64 i ∧ i ≤ rs.length ∧ Aside0 (ZX w w' g2 g7 (.slice Av rs.length cv) rs nx sq (.slice An names.length cn) names) ∧ Aside0 (w'.ownsMap Tryd.prog 9 (plainElem (H := Unit) Tryd.prog 4) gm (i + 1) D) ∧ Aside0 (StayOf D (recStay rs i)) ∧ Aside0 (∀ j, j < i → Lib.containsS names (nameM (rd_T63 rs (j : Int)).f0) = true)) (fun v43 _ => rs.length - (intOf v43).toNat)
   case atStart => exact ⟨0, _, rfl, Nat.zero_le _, HX2, HM, HS, ⟨fun j hj => absurd hj (Nat.not_lt_zero j)⟩⟩
   case round =>
    clear HX2 HM HS v70 v71 v72 v20 v21 v22 z20 z21 z22
    obtain ⟨i, D, rfl, hil, HX, HM, HS, HOKS⟩ := hrel
    obtain ⟨v70, v71, v72, v20, v21, v22, z20, z21, z22⟩ := HX.out.vis
    by_cases cs : i < rs.length
    ·have csd := decide_eq_true (show (i : Int) < (rs.length : Int) by omega)
     obtain ⟨ad, rfl, hx0, hx1, hx2, hx3⟩ := at_T63 (Kd.R_reads' HX.out.hR).2.2 (i : Int) (by omega) (by omega)
     obtain ⟨x, hx⟩ : ∃ x, x = rd_T63 rs (i : Int) := ⟨_, rfl⟩
     have HXX := Aside0.mk hx
     rw [← hx] at hx0 hx1 hx2 hx3
     rw [Int.toNat_natCast] at hx0 hx1 hx2 hx3
     clear hx
     obtain ⟨nm, hnm⟩ : ∃ nm, nm = nameM x.f0 := ⟨_, rfl⟩
     have HNM := Aside0.mk hnm
     have HNS := Aside0.mk (show nm.size ≤ maxLen by rw [hnm]; exact nameM_size _)
     have HNF := Aside0.mk (show manifest_Name.f x.f0 = some nm by rw [hnm]; exact name_f _)
     clear hnm
     have q0 := eq_true (show (0 : Int) ≤ (i : Int) by omega)
     have q1 := eq_true (show (i : Int) < (rs.length : Int) by omega)
     have hwr : IntKind.i64.wrap ((i : Int) + 1) = ((i + 1 : Nat) : Int) := by rw [IntKind.wrap_i64]; have := HBD.out.2.1; omega
     go_upto_region 14 with (first
      | fail)
     have BX := Aside0.mk (blk_new wr (.cells #[.int .i64 x.f0, .int .i64 x.f1, .int .i64 x.f2, .int .i64 x.f3] 63 (0, 0)))
     have HX_ := Aside0.mk (HX.out.step (below_alloc (Below.refl _ _) (.cells #[.int .i64 x.f0, .int .i64 x.f1, .int .i64 x.f2, .int .i64 x.f3] 63 (0, 0))))
     have HM_ := Aside0.mk (ownsMap_belowM HM.out (below_alloc (Below.refl _ _) (.cells #[.int .i64 x.f0, .int .i64 x.f1, .int .i64 x.f2, .int .i64 x.f3] 63 (0, 0))))
     clear HX HM hx0 hx1 hx2 hx3 v70 v71 v72 v20 v21 v22 z20 z21 z22
     generalize wr.alloc (.cells #[.int .i64 x.f0, .int .i64 x.f1, .int .i64 x.f2, .int .i64 x.f3] 63 (0, 0)) = W3 at *
     generalize wr.heap.size = g11 at *
     have HX := HX_
     have HM := HM_
     clear HX_ HM_
     obtain ⟨v70, v71, v72, v20, v21, v22, z20, z21, z22⟩ := HX.out.vis
     have y0 : W3.cell? ⟨g11, 0, none⟩ = some (.int .i64 x.f0) := (blk_cell BX.out 0).trans rfl
     cases hcn : Lib.containsS names nm with
     | false =>
      have hh := HH.out
      rw [if_neg (by rw [recOk_no cs (by rw [← HXX.out, ← HNM.out]; exact hcn)]; exact Bool.false_ne_true)] at hh
      simp only [Option.some.injEq, Prod.mk.injEq] at hh
      obtain ⟨rfl, rfl, rfl, rfl, rfl⟩ := hh
      go_wp2_with (first
       | (go_at_call 17; ((with_reducible refine (manifest_Name.calls x.f0 nm _ (GT.below HG.out HX.out.B) HNF.out).mono ?_); rintro e_ w7 ⟨rfl, hb⟩; have HX_ := Aside0.mk (HX.out.step hb); have HM_ := Aside0.mk (ownsMap_belowM HM.out hb); clear HX HM hb v70 v71 v72 v20 v21 v22 z20 z21 z22; have HX := HX_; have HM := HM_; clear HX_ HM_; obtain ⟨v70, v71, v72, v20, v21, v22, z20, z21, z22⟩ := HX.out.vis))
       | (go_at_call 45; ((with_reducible refine (contains_calls _ An cn names nm (Kd.R_reads' HX.out.hN).2.2 (by have := HBD.out.1; omega)).mono ?_); rintro e_ w8 ⟨rfl, rfl⟩)))
      refine bodyPost_ret (results_ctt rfl _ _ g2 27 #[.slice none 0 0, .int .i64 0, .int .i64 0] (0, 0) _ rfl (blk_put (cs := #[.slice none 0 0, .int .i64 0, .int .i64 0]) (blk_put (cs := #[.slice none 0 0, .int .i64 0, .int .i64 0]) (blk_put (cs := #[.slice none 0 0, .int .i64 0, .int .i64 0]) HX.out.c2 0 _ rfl) 1 _ rfl) 2 _ rfl) Tryd.underlying27 rfl (by kernel_rfl)) rfl ?_
      exact ⟨_, _, rfl, Kd.R_nil _ _ _ _ _, Kd.S_nil _ _ _ _ _, below_set (below_set (below_set HX.out.B G2.out) G2.out) G2.out⟩
     | true =>
      have HCN := Aside0.mk hcn
      go_wp2_with (first
       | (go_at_call 17; ((with_reducible refine (manifest_Name.calls x.f0 nm _ (GT.below HG.out HX.out.B) HNF.out).mono ?_); rintro e_ w7 ⟨rfl, hb⟩; have HX_ := Aside0.mk (HX.out.step hb); have HM_ := Aside0.mk (ownsMap_belowM HM.out hb); clear HX HM hb v70 v71 v72 v20 v21 v22 z20 z21 z22; have HX := HX_; have HM := HM_; clear HX_ HM_; obtain ⟨v70, v71, v72, v20, v21, v22, z20, z21, z22⟩ := HX.out.vis))
       | (go_at_call 45; ((with_reducible refine (contains_calls _ An cn names nm (Kd.R_reads' HX.out.hN).2.2 (by have := HBD.out.1; omega)).mono ?_); rintro e_ w8 ⟨rfl, rfl⟩))
       | (at_mapUpdate; (refine wpList_mapUpdate_own _ rfl _ _ _ 87 rfl 9 4 keyLawS Tryd.underlying87 (plainElem (H := Unit) Tryd.prog 4) gm (i + 1) D rfl HM.out (by have := HBD.out.2.1; unfold maxLen; omega) _ _ (.string nm.data.toList) rfl rfl (keyOf_strb nm HNS.out) (.lit (.bool true)) [] (plainElem_bool Tryd.underlying4 true) ?_; intro w9 hown hgrow; have HM2 := Aside0.mk hown; have HX2 := Aside0.mk (HX.out.turned HM.out hgrow GM.out); clear hown hgrow HX HM v70 v71 v72 v20 v21 v22 z20 z21 z22)))
      go_roundw
      ·exact ⟨i + 1, _, rfl, cs, HX2, HM2, ⟨by rw [recStay_succ _ i cs, ← HXX.out, ← HNM.out]; exact HS.out.step nm⟩, ⟨fun j hj => by rcases Nat.lt_or_eq_of_le (Nat.lt_succ_iff.1 hj) with h3 | h3; exact HOKS.out j h3; rw [h3, ← HXX.out, ← HNM.out]; exact HCN.out⟩⟩
      ·show rs.length - (((i + 1 : Nat) : Int)).toNat < rs.length - (i : Int).toNat
       omega
    ·obtain rfl : i = rs.length := by omega
     have csd : decide ((rs.length : Int) < (rs.length : Int)) = false := decide_eq_false (Int.lt_irrefl _)
     have hyes := recOk_yes HOKS.out
     have hh := HH.out
     rw [if_pos hyes] at hh
     simp only [Option.some.injEq, Prod.mk.injEq] at hh
     obtain ⟨rfl, rfl, rfl, hr4, rfl⟩ := hh
     obtain ⟨st, hst⟩ : ∃ st, st = recStay rs rs.length := ⟨_, rfl⟩
     rw [← hst] at hr4 HS
     have HR4 := Aside0.mk hr4
     clear hyes hst hr4
     go_wp2
     go_loopw [13, 60] (fun v13 v60 w' => ∃ (t : Nat) (vo : Value) (ops : List S60), v13 = vo ∧ v60 = .int .i64 t ∧ t ≤ names.length ∧ Aside0 (ops = recOps (names.take t) st) ∧ Aside0 (ZX w w' g2 g7 (.slice Av rs.length cv) rs nx sq (.slice An names.length cn) names) ∧ Aside0 (w'.ownsMap Tryd.prog 9 (plainElem (H := Unit) Tryd.prog 4) gm (rs.length + 1) D) ∧ Aside0 (Kd.S k60 60 w' w.heap.size (fun _ => True) vo ops)) (fun _ v60 _ => names.length - (intOf v60).toNat)
     case atStart => exact ⟨0, _, [], rfl, rfl, Nat.zero_le _, ⟨rfl⟩, HX, HM, ⟨Kd.S_nil _ _ _ _ _⟩⟩
     case round =>
      clear HX HM v70 v71 v72 v20 v21 v22 z20 z21 z22
      obtain ⟨t, vo, ops, hvo, rfl, htl, HOP, HX, HM, HO⟩ := hrel
      subst hvo
      obtain ⟨v70, v71, v72, v20, v21, v22, z20, z21, z22⟩ := HX.out.vis
      by_cases ct : t < names.length
      ·have ctd := decide_eq_true (show (t : Int) < (names.length : Int) by omega)
       obtain ⟨an, rfl, hs0⟩ := Kd.at_string (Kd.R_reads' HX.out.hN).2.2 (t : Int) (by omega) (by omega)
       obtain ⟨y, hy⟩ : ∃ y, y = rdOf ByteArray.empty names (t : Int) := ⟨_, rfl⟩
       have HY := Aside0.mk hy
       have HYS := Aside0.mk (show y.size ≤ maxLen by rw [hy]; exact HBD.out.2.2 _ (rdOf_mem names t ct))
       rw [← hy, Int.toNat_natCast] at hs0
       clear hy
       have s0 := eq_true (show (0 : Int) ≤ (t : Int) by omega)
       have s1 := eq_true (show (t : Int) < (names.length : Int) by omega)
       have hwt : IntKind.i64.wrap ((t : Int) + 1) = ((t + 1 : Nat) : Int) := by rw [IntKind.wrap_i64]; have := HBD.out.1; omega
       have HOL := Aside0.mk (show ops.length ≤ t by rw [HOP.out]; have := recOps_len (names.take t) st; rw [List.length_take] at this; omega)
       have hlk := look_str HM.out HS.out y HYS.out
       cases hin : inSt st y.data.toList with
       | true =>
        rw [hin] at hlk
        have HIN := Aside0.mk hin
        clear hin
        go_wp2
        go_roundw
        ·exact ⟨t + 1, u13, ops, rfl, rfl, ct, ⟨by rw [recOps_succ names st t ct, ← HY.out, HIN.out, if_pos rfl, List.append_nil]; exact HOP.out⟩, HX, HM, HO⟩
        ·show names.length - (((t + 1 : Nat) : Int)).toNat < names.length - (t : Int).toNat
         omega
       | false =>
        rw [hin] at hlk
        have HIN := Aside0.mk hin
        clear hin
        go_wp2_with (first
         | ((with_reducible refine gate_builtin (b := .append) (xs := #[.tmp 68, .tmp 71]) rfl ?_); at_builtin; (refine Kd.S_append k60 (w0 := w) w.heap.size rfl (.tmp 68) (.tmp 71) 42 60 (.agg #[(.int .i64 0), (.string ⟨#[]⟩), (.string ⟨#[]⟩), (.slice none 0 0)]) 64 rfl Tryd.underlying42 info60 rfl (by decide) (by omega) u13 ops (⟨4, y, (⟨#[]⟩ : ByteArray), ([] : List Int)⟩ : S60) [.int .i64 4, .string y, .string (⟨#[]⟩ : ByteArray), .slice none 0 0] (fun _ => True) (fun _ => False) rfl rfl ?aP (fun k_ hk_ => hk_.elim) ?aF ?aO ?aB ?aS ?aL ?_; (case aP => exact k60_mkM _ _ _ (⟨4, y, (⟨#[]⟩ : ByteArray), ([] : List Int)⟩ : S60) (Kd.R_nil _ _ _ _ _)); (case aB => exact HX.out.B); (case aF => exact (fun _ _ => trivial)); (case aO => exact Kd.S_mono HO.out (fun k_ hk => ⟨trivial, fun e_ => e_⟩)); (case aS => exact below_size HX.out.B); (case aL => exact (by have := HOL.out; have := HBD.out.1; omega)); intro v72_ w9 ho hb hgr hat; have HX2 := Aside0.mk (HX.out.over (Kd.S_typed HO.out) hb hgr); have HM2 := Aside0.mk (map_over HM.out (Kd.S_typed HO.out) hgr); have HO2 := Aside0.mk ho; clear ho hb hgr hat HX HM HO v70 v71 v72 v20 v21 v22 z20 z21 z22)))
        go_roundw
        ·exact ⟨t + 1, _, ops ++ [⟨4, y, ⟨#[]⟩, []⟩], rfl, rfl, ct, ⟨by rw [recOps_succ names st t ct, ← HY.out, HIN.out, if_neg Bool.false_ne_true, HOP.out]; rfl⟩, HX2, HM2, HO2⟩
        ·show names.length - (((t + 1 : Nat) : Int)).toNat < names.length - (t : Int).toNat
         omega
      ·obtain rfl : t = names.length := by omega
       have ctd : decide ((names.length : Int) < (names.length : Int)) = false := decide_eq_false (Int.lt_irrefl _)
       rw [List.take_length] at HOP
       go_wp2
       refine bodyPost_ret (results_ctt rfl _ _ g2 27 #[.slice Av rs.length cv, .int .i64 nx, .int .i64 sq] (0, 0) _ rfl (blk_put (cs := #[.slice Av rs.length cv, .int .i64 nx, .int .i64 0]) (blk_put (cs := #[.slice Av rs.length cv, .int .i64 0, .int .i64 0]) (blk_put (cs := #[.slice none 0 0, .int .i64 0, .int .i64 0]) HX.out.c2 0 _ rfl) 1 _ rfl) 2 _ rfl) Tryd.underlying27 rfl (by kernel_rfl)) rfl ?_
       refine ⟨_, _, rfl, Kd.R_mono (Kd.R_far (p := ⟨g2, 2, none⟩) (Kd.R_far (p := ⟨g2, 1, none⟩) (Kd.R_far (p := ⟨g2, 0, none⟩) (Kd.R_types HX.out.hR HX.out.c2 (by decide)) (fun _ hk => hk.2) _) (fun _ hk => hk.2) _) (fun _ hk => hk.2) _) (fun _ h_ => h_.1), ?_, below_set (below_set (below_set HX.out.B G2.out) G2.out) G2.out⟩
       rw [← HR4.out, ← HOP.out]
       exact Kd.S_mono (Kd.S_far (p := ⟨g2, 2, none⟩) (Kd.S_far (p := ⟨g2, 1, none⟩) (Kd.S_far (p := ⟨g2, 0, none⟩) (Kd.S_types HO.out HX.out.c2 (by decide)) (fun _ hk => hk.2) _) (fun _ hk => hk.2) _) (fun _ hk => hk.2) _) (fun _ h_ => h_.1)
end Go.Proofs.YtdcifmonhaklcaaDoor.A
