/- Walks by hand. -/
import Derived.Test.YtdcifmonhaklcaaDoorTpPlP1
import Derived.Test.YtdcifmonhaklcaaDoorTpQx14
namespace Go.Proofs.YtdcifmonhaklcaaDoor.Q
open Go.RowKit Go.Proofs.YtdcifmonhaklcaaDoorW.PrintWords Go.Proofs.YtdcifmonhaklcaaDoorW.PrintLast Go.Proofs.YtdcifmonhaklcaaDoorW.PrintMore
attribute [local go_sem] min2_int min_two -- for this text's walks alone
set_option linter.unusedVariables false
set_option linter.unusedSimpArgs false
theorem puts_law (l : List S63) (a b n : Int) (hl : l.length < 4398046511104) : ∃ k, dragnetlaw18_ManifestPuts.f k l a b n = some true := by
  refine ⟨2 * l.length + 100, ?_⟩
  obtain ⟨nm, hn1, hn2⟩ := rname_f n (2 * l.length + 100) (by omega)
  have hcopy : dragnetref18_Copy.f l a b = some (l, a, b) := by
    unfold dragnetref18_Copy.f
    rw [Option.bind_some, if_pos (by rw [List.length_nil]; omega), List.nil_append]
  have hj : ∀ t e, dragnetlaw18_ManifestPuts.j0 (2 * l.length + 100) t e false l a b = (if e = 0 then ((dragnetref18_Bytes.f l a b).bind fun t297 => ((dragnetref01_Same.f t t297).bind fun t300 => (some t300))) else (if (t.length : Int) = 0 then (some true) else (some false))) := by
    intro t e
    rw [show 2 * l.length + 100 = (2 * l.length + 99) + 1 by omega, dragnetlaw18_ManifestPuts.j0, if_neg Bool.false_ne_true]
  unfold dragnetlaw18_ManifestPuts.f dragnetlaw18_alive.f
  rw [Option.bind_some, if_pos rfl, hcopy, Option.bind_some]
  by_cases hf : FormedC l a b
  · have hput : manifest_Put.f l a b = some (frame (bytesC l a b), 0) := by
      unfold manifest_Put.f
      rw [if_pos (by omega), if_pos hf, wrap_f _ (by have := bytesC_len hf; omega)]
    have hF : manifest_Formed.f l a b = some true := by unfold manifest_Formed.f; rw [if_pos (by omega), decide_eq_true hf]
    have hR : dragnetref18_Formed.f l a b = some true := by unfold dragnetref18_Formed.f; rw [if_pos (by omega), decide_eq_true hf]
    have hcm : manifest_Commit.f l a b = some ([⟨1, ⟨#[110]⟩, ⟨#[]⟩, frame (bytesC l a b)⟩, ⟨2, ⟨#[110]⟩, ⟨#[]⟩, []⟩, ⟨3, ⟨#[110]⟩, ⟨#[109]⟩, []⟩], 0) := by
      unfold manifest_Commit.f
      rw [hput, Option.bind_some, if_pos rfl]
    have hcr : dragnetref18_Commit.f l a b = some ([⟨1, ⟨#[110]⟩, ⟨#[]⟩, frame (bytesC l a b)⟩, ⟨2, ⟨#[110]⟩, ⟨#[]⟩, []⟩, ⟨3, ⟨#[110]⟩, ⟨#[109]⟩, []⟩], 0) := by
      unfold dragnetref18_Commit.f
      rw [hR, Option.bind_some, if_pos rfl, rbytes18_f hf, Option.bind_some]
    rw [hput, Option.bind_some, hcm, Option.bind_some, hcr, Option.bind_some, hF, Option.bind_some, hR, Option.bind_some, if_neg (by decide), ops_refl _ (by simp) _ (by simp), Option.bind_some, if_pos rfl, if_pos rfl, if_pos rfl, name_f, Option.bind_some, hn1, Option.bind_some, if_pos hn2, same18_reflk l a b (by omega) _ (by omega), Option.bind_some]
    show dragnetlaw18_ManifestPuts.j0 _ _ _ false _ _ _ = _
    rw [hj, if_pos rfl, rbytes18_f hf, Option.bind_some, same_refl, Option.bind_some]
  · have hput : manifest_Put.f l a b = some ([], 1) := by
      unfold manifest_Put.f
      rw [if_pos (by omega), if_neg hf]
    have hF : manifest_Formed.f l a b = some false := by unfold manifest_Formed.f; rw [if_pos (by omega), decide_eq_false hf]
    have hR : dragnetref18_Formed.f l a b = some false := by unfold dragnetref18_Formed.f; rw [if_pos (by omega), decide_eq_false hf]
    have hcm : manifest_Commit.f l a b = some ([], 1) := by
      unfold manifest_Commit.f
      rw [hput, Option.bind_some, if_neg (by show ¬ (1 : Int) = 0; decide)]
    have hcr : dragnetref18_Commit.f l a b = some ([], 1) := by
      unfold dragnetref18_Commit.f
      rw [hR, Option.bind_some, if_neg Bool.false_ne_true]
    rw [hput, Option.bind_some, hcm, Option.bind_some, hcr, Option.bind_some, hF, Option.bind_some, hR, Option.bind_some, if_neg (by decide), ops_refl _ (by simp) _ (by simp), Option.bind_some, if_pos rfl, if_pos rfl, if_pos rfl, name_f, Option.bind_some, hn1, Option.bind_some, if_pos hn2, same18_reflk l a b (by omega) _ (by omega), Option.bind_some]
    show dragnetlaw18_ManifestPuts.j0 _ _ _ false _ _ _ = _
    rw [hj, if_neg (by decide)]
    exact if_pos rfl
theorem puts_q (l : List S63) (a b c : Int) (hq0 : QCh l a b) (hq1 : (Lit.int .i64 c).wf = true) : ∃ k, dragnetlaw18_ManifestPuts.f k l a b c = some true :=
  puts_law l a b c (by have := QCh_len hq0; omega)
end Go.Proofs.YtdcifmonhaklcaaDoor.Q
