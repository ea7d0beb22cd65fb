import Derived.Test.YtinhfpljdjlomaaGreatXPath7
import Derived.Test.YtinhfpljdjlomaaGreatXWorks
import Derived.Test.YtinhfpljdjlomaaGreatXShapeP
/-!
The law PathReverses.
-/
open Go Go.Proofs
namespace Ab
set_option maxRecDepth 100000
set_option maxHeartbeats 1000000

theorem pathB_rev {c : List Ps} (h : pathB c = true) : pathB c.reverse = true := by
  obtain ⟨n, h1, ⟨h2, h3⟩, h4⟩ := pathB_iff.1 h
  exact pathB_iff.2 ⟨n, h1, ⟨by simpa using h2, by simpa using h3⟩, fun p hp => h4 p (by simpa using hp)⟩
theorem joinB_iff {a b : List Ps} : joinB a b = true ↔ pathB a = true ∧ pathB b = true ∧ a.getD (a.length - 1) [] = b.getD 0 [] ∧ a.length + b.length ≤ 25 := by
  unfold joinB
  simp only [Bool.and_eq_true, decide_eq_true_eq, same_iff]
theorem path_ends {c : List Ps} (h : pathB c = true) : ∃ x l y m, c = x :: l ∧ c = m ++ [y] ∧ c.getD 0 [] = x ∧ c.getD (c.length - 1) [] = y := by
  have h0 := (okc_of h).2.1.2
  match c, h0 with
  | x :: l, _ =>
    refine ⟨x, l, (x :: l).getLast (by simp), (x :: l).dropLast, rfl, (List.dropLast_concat_getLast (by simp)).symm, rfl, ?_⟩
    rw [List.getD_eq_getElem?_getD, List.getLast_eq_getElem, List.getElem?_eq_getElem (by simp)]
    rfl
theorem pathB_join {a b : List Ps} (h : joinB a b = true) : pathB (a ++ b.drop 1) = true := by
  obtain ⟨ha, hb, he, hl⟩ := joinB_iff.1 h
  obtain ⟨x, l, y, m, e1, e2, e3, e4⟩ := path_ends ha
  obtain ⟨x', l', y', m', e1', e2', e3', e4'⟩ := path_ends hb
  obtain ⟨n, h1, ⟨h2, h3⟩, h4⟩ := pathB_iff.1 ha
  obtain ⟨n', h1', ⟨h2', h3'⟩, h4'⟩ := pathB_iff.1 hb
  rw [e4, e3'] at he
  have q1 := (h4 y (by rw [e2]; simp)).1
  have q2 := (h4' x' (by rw [e1']; simp)).1
  refine pathB_iff.2 ⟨n, h1, ⟨by rw [List.length_append]; omega, by rw [List.length_append, List.length_drop]; omega⟩, fun p hp => ?_⟩
  rcases List.mem_append.1 hp with hp | hp
  · exact h4 p hp
  · have := h4' p (List.mem_of_mem_drop hp)
    exact ⟨by rw [this.1, ← q2, ← he, q1], this.2⟩
end Ab
