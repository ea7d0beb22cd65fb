import Derived.Test.YtinhfpljdjlomaaGreatXPath8
import Derived.Test.YtinhfpljdjlomaaGreatXReverses
/-!
The law PathCorners.
-/
open Go Go.Proofs
namespace Ab
set_option maxRecDepth 100000
set_option maxHeartbeats 1000000

/-- what comes out is corners and an error -/
theorem rev_form {c : List Ps} : ∃ l e, revF c = .tup [pthv l, .int .i64 e] ∧ Okc l ∧ l.length ≤ 24 := by
  unfold revF
  cases h : pathB c with
  | true =>
    have := okc_of (pathB_rev h)
    exact ⟨_, _, rfl, this.1, this.2.1.1⟩
  | false => exact ⟨[], _, rfl, (fun _ h => by cases h), Nat.zero_le _⟩
theorem join_form {a b : List Ps} : ∃ l e, joinF a b = .tup [pthv l, .int .i64 e] ∧ Okc l ∧ l.length ≤ 24 := by
  unfold joinF
  cases h : joinB a b with
  | true =>
    have := okc_of (pathB_join h)
    exact ⟨_, _, rfl, this.1, this.2.1.1⟩
  | false => exact ⟨[], _, rfl, (fun _ h => by cases h), Nat.zero_le _⟩
theorem corners_law {a b : List Ps} {n : Int} (ha : QDc a) (hb : QDc b) (la : (a.length : Int) ≤ 9223372036854775807) (lb : (b.length : Int) ≤ 9223372036854775807) : Spec Tryz.prog [] 6 [pthv a, pthv b, .int .i64 n] (.bool true) := by
  obtain ⟨f1, fa⟩ := few_spec la
  obtain ⟨f2, fb⟩ := few_spec lb
  cases f1 with
  | false =>
    refine spec_fn T_ok mixed_ok 0 Tryz.func6 fn_ok6 (by kernel_rfl) ?_
    first | refine Exists.intro _ (And.intro (fa) ?_) | refine Hn_by (Exists.intro _ (And.intro (fa) ?_))
    repeat (first | refine gT ?_ | refine gF ?_ | refine brT ?_ | refine brF ?_)
    first | refine Exists.intro _ (And.intro (works_spec) ?_) | refine Hn_by (Exists.intro _ (And.intro (works_spec) ?_))
    exact And.intro (Or.inr rfl) rfl
  | true =>
  cases f2 with
  | false =>
    refine spec_fn T_ok mixed_ok 0 Tryz.func6 fn_ok6 (by kernel_rfl) ?_
    first | refine Exists.intro _ (And.intro (fa) ?_) | refine Hn_by (Exists.intro _ (And.intro (fa) ?_))
    repeat (first | refine gT ?_ | refine gF ?_ | refine brT ?_ | refine brF ?_)
    first | refine Exists.intro _ (And.intro (fb) ?_) | refine Hn_by (Exists.intro _ (And.intro (fb) ?_))
    repeat (first | refine gT ?_ | refine gF ?_ | refine brT ?_ | refine brF ?_)
    first | refine Exists.intro _ (And.intro (works_spec) ?_) | refine Hn_by (Exists.intro _ (And.intro (works_spec) ?_))
    exact And.intro (Or.inr rfl) rfl
  | true =>
  have r1 := reverse_spec ha
  have r2 := rreverse_spec ha
  have j1 := join_spec ha hb
  have j2 := rjoin_spec ha hb
  have c1 := check_spec (n := n) ha
  have c2 := rcheck_spec (n := n) ha
  have d1 := closed_spec ha
  have d2 := rclosed_spec ha
  obtain ⟨l, e, er, ol, ll⟩ := rev_form (c := a)
  obtain ⟨m, f, ej, om, lm⟩ := join_form (a := a) (b := b)
  rw [er] at r1 r2
  rw [ej] at j1 j2
  have p1 := paths_spec ol ol.qd (by omega)
  have p2 := paths_spec om om.qd (by omega)
  rw [same_true rfl] at p1 p2
  generalize chkF a n = k at c1 c2
  generalize closedB a = z at d1 d2
  refine spec_fn T_ok mixed_ok 0 Tryz.func6 fn_ok6 (by kernel_rfl) ?_
  first | refine Exists.intro _ (And.intro (fa) ?_) | refine Hn_by (Exists.intro _ (And.intro (fa) ?_))
  repeat (first | refine gT ?_ | refine gF ?_ | refine brT ?_ | refine brF ?_)
  first | refine Exists.intro _ (And.intro (fb) ?_) | refine Hn_by (Exists.intro _ (And.intro (fb) ?_))
  repeat (first | refine gT ?_ | refine gF ?_ | refine brT ?_ | refine brF ?_)
  first | refine Exists.intro _ (And.intro (r1) ?_) | refine Hn_by (Exists.intro _ (And.intro (r1) ?_))
  first | refine Exists.intro _ (And.intro (r2) ?_) | refine Hn_by (Exists.intro _ (And.intro (r2) ?_))
  first | refine Exists.intro _ (And.intro (j1) ?_) | refine Hn_by (Exists.intro _ (And.intro (j1) ?_))
  first | refine Exists.intro _ (And.intro (j2) ?_) | refine Hn_by (Exists.intro _ (And.intro (j2) ?_))
  first | refine Exists.intro _ (And.intro (works_spec) ?_) | refine Hn_by (Exists.intro _ (And.intro (works_spec) ?_))
  repeat (first | refine gT ?_ | refine gF ?_ | refine brT ?_ | refine brF ?_)
  first | refine Exists.intro _ (And.intro (c1) ?_) | refine Hn_by (Exists.intro _ (And.intro (c1) ?_))
  repeat (first | refine gT ?_ | refine gF ?_ | refine brT ?_ | refine brF ?_)
  first | refine Exists.intro _ (And.intro (c2) ?_) | refine Hn_by (Exists.intro _ (And.intro (c2) ?_))
  repeat (first | refine gT ?_ | refine gF ?_ | refine brT ?_ | refine brF ?_)
  refine brE (fun _ => ?_) (fun g => absurd rfl g)
  repeat (first | refine gT ?_ | refine gF ?_ | refine brT ?_ | refine brF ?_)
  refine brE (fun _ => ?_) (fun g => absurd rfl g)
  repeat (first | refine gT ?_ | refine gF ?_ | refine brT ?_ | refine brF ?_)
  first | refine Exists.intro _ (And.intro (p1) ?_) | refine Hn_by (Exists.intro _ (And.intro (p1) ?_))
  repeat (first | refine gT ?_ | refine gF ?_ | refine brT ?_ | refine brF ?_)
  refine brE (fun _ => ?_) (fun g => absurd rfl g)
  repeat (first | refine gT ?_ | refine gF ?_ | refine brT ?_ | refine brF ?_)
  first | refine Exists.intro _ (And.intro (p2) ?_) | refine Hn_by (Exists.intro _ (And.intro (p2) ?_))
  repeat (first | refine gT ?_ | refine gF ?_ | refine brT ?_ | refine brF ?_)
  first | refine Exists.intro _ (And.intro (d1) ?_) | refine Hn_by (Exists.intro _ (And.intro (d1) ?_))
  repeat (first | refine gT ?_ | refine gF ?_ | refine brT ?_ | refine brF ?_)
  first | refine Exists.intro _ (And.intro (d2) ?_) | refine Hn_by (Exists.intro _ (And.intro (d2) ?_))
  repeat (first | refine gT ?_ | refine gF ?_ | refine brT ?_ | refine brF ?_)
  refine And.intro (Or.inr rfl) (congrArg AV.bool ?_)
  show (z == z) = true
  simp
end Ab
