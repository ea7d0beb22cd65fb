import Derived.Test.YtinhfpljdjlomaaGreatXWorks
import Derived.Test.YtinhfpljdjlomaaGreatXStep
/-!
The law PathDetours.
-/
open Go Go.Proofs
namespace Ab
set_option maxRecDepth 1000000

theorem det_out {n : Int} (h : n < -4 ∨ 4 < n) : Spec Tryz.prog [] 12 [.int .i64 n] (.tup [.sl [], .int .i64 1]) := by
  refine spec_fn T_ok mixed_ok 1 Tryz.func12 fn_ok12 (by kernel_rfl) ?_
  refine gr (fun g => ?_) (fun g => ?_)
  · repeat (first | refine gT ?_ | refine gF ?_ | refine brT ?_ | refine brF ?_)
    exact And.intro (Or.inr rfl) rfl
  · have g2 : 4 < n := by
      rcases h with h | h
      · exact absurd h g
      · exact h
    have e : decide (n > 4) = true := decide_eq_true g2
    repeat (first | refine gT ?_ | refine gF ?_ | refine brT ?_ | refine brF ?_)
    refine br (fun _ => ?_) (fun g3 => absurd g2 g3)
    exact And.intro (Or.inr rfl) rfl
theorem det16_out {n : Int} (h : n < -4 ∨ 4 < n) : Spec Tryz.prog [] 13 [.int .i64 n] (.tup [.sl [], .int .i64 1]) := by
  refine spec_fn T_ok mixed_ok 1 Tryz.func13 fn_ok13 (by kernel_rfl) ?_
  refine gr (fun g => ?_) (fun g => ?_)
  · repeat (first | refine gT ?_ | refine gF ?_ | refine brT ?_ | refine brF ?_)
    exact And.intro (Or.inr rfl) rfl
  · have g2 : 4 < n := by
      rcases h with h | h
      · exact absurd h g
      · exact h
    repeat (first | refine gT ?_ | refine gF ?_ | refine brT ?_ | refine brF ?_)
    refine br (fun _ => ?_) (fun g3 => absurd g2 g3)
    exact And.intro (Or.inr rfl) rfl
theorem det_law_out {n : Int} (h : n < -4 ∨ 4 < n) : Spec Tryz.prog [] 3 [.int .i64 n] (.bool true) := by
  refine spec_fn T_ok mixed_ok 1 Tryz.func3 fn_ok3 (by kernel_rfl) ?_
  first | refine Exists.intro _ (And.intro (det_out h) ?_) | refine Hn_by (Exists.intro _ (And.intro (det_out h) ?_))
  first | refine Exists.intro _ (And.intro (det16_out h) ?_) | refine Hn_by (Exists.intro _ (And.intro (det16_out h) ?_))
  first | refine Exists.intro _ (And.intro (works_spec) ?_) | refine Hn_by (Exists.intro _ (And.intro (works_spec) ?_))
  repeat (first | refine gT ?_ | refine gF ?_ | refine brT ?_ | refine brF ?_)
  refine aw_loop (fun _ : Nat => stOf [(3, .sl []), (4, .int .i64 1), (7, .int .i64 0)] [] 0) (fun _ => True) (fun _ => 0) 0 trivial (le_by ⟨rfl, rfl, rfl, trivial⟩ trivial (Nat.le_refl _)) ?_
  rintro x _ P hP
  repeat (first | refine gT ?_ | refine gF ?_ | refine brT ?_ | refine brF ?_)
  exact And.intro (Or.inr rfl) rfl

/-- in the range: nine runs -/
def kw : List (Nat × List AV × AV) := [(14, [], .bool true)]
theorem kw_ok : ∀ p ∈ kw, Spec Tryz.prog [] p.1 p.2.1 p.2.2 := by
  intro p hp
  simp only [kw, List.mem_cons, List.not_mem_nil, or_false] at hp
  subst hp
  exact works_spec
theorem det_law_run {n : Int} (h : runFX T [] FT 1000 [] (kn kw) 3 3 [.int .i64 n] = some (.bool true)) : Spec Tryz.prog [] 3 [.int .i64 n] (.bool true) := runFX_spec T_ok mixed_ok FT_ok (kn_ok kw_ok) 3 h
theorem detl_law (n : Int) : Spec Tryz.prog [] 3 [.int .i64 n] (.bool true) := by
  by_cases h : n < -4 ∨ 4 < n
  · exact det_law_out h
  · have : n = -4 ∨ n = -3 ∨ n = -2 ∨ n = -1 ∨ n = 0 ∨ n = 1 ∨ n = 2 ∨ n = 3 ∨ n = 4 := by omega
    rcases this with rfl | rfl | rfl | rfl | rfl | rfl | rfl | rfl | rfl
    all_goals exact det_law_run (by kernel_rfl)
end Ab
