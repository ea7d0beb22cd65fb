import Derived.Test.YtinhfpljdjlomaaGreatXPath2
import Derived.Test.YtinhfpljdjlomaaGreatXShapeR
/-!
Arguments that are corners.
-/
open Go Go.WideShapes Go.RowKit Go.Proofs
namespace Ab
set_option maxRecDepth 100000
theorem shp_paths {k : Nat} {x : AV} (h : Shp Tryz.prog (k + 6) 44 [x]) : ∃ c : List Ps, x = pthv c ∧ QDc c ∧ (c.length : Int) ≤ 9223372036854775807 := by
  obtain ⟨rows, e, hl, hr⟩ := shp_slice Tryz.underlying44 h
  injection e with e _
  subst e
  have : ∀ rows : List (List AV), (∀ r ∈ rows, Shp Tryz.prog (k + 5) 30 r) → ∃ c : List Ps, rows = prow c ∧ QDc c := by
    intro rows
    induction rows with
    | nil => intro _; exact ⟨[], rfl, fun _ h => by cases h⟩
    | cons r rows ih =>
      intro h
      obtain ⟨c, rfl, hc⟩ := ih fun q hq => h q (by simp [hq])
      obtain ⟨p, rfl, hp, hq⟩ : ∃ p, r = [AV.sl p] ∧ p.length ≤ maxLen ∧ ∀ r ∈ p, QD r := by
        obtain ⟨p, e, hl, hr⟩ := shp_slice Tryz.underlying30 (h r (by simp))
        exact ⟨p, e, hl, fun r hr' => shp_Q (hr r hr')⟩
      refine ⟨p :: c, rfl, fun q hq' => ?_⟩
      rcases List.mem_cons.1 hq' with rfl | hq'
      · exact ⟨hq, by unfold maxLen at hp; omega⟩
      · exact hc q hq'
  obtain ⟨c, rfl, hc⟩ := this rows hr
  exact ⟨c, rfl, hc, by rw [prow_len] at hl; unfold maxLen at hl; omega⟩
end Ab
