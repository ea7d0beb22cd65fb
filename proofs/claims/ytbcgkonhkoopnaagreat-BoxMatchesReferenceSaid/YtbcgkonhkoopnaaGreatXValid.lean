import Derived.Test.YtbcgkonhkoopnaaGreatXBox
open Go Go.Proofs
namespace Ab
set_option maxRecDepth 100000
abbrev bx (a b c d : Int) (w : Bool) : AV := .agg [.int .i64 a, .int .i64 b, .int .i64 c, .int .i64 d, .bool w]
def MF : Int := 1152921504606846976
def validF (a b c d : Int) (w : Bool) : Bool :=
 match w with
 | true => and (a == 0) (and (b == 0) (and (c == 0) (and (d == 0) true)))
 | false => decide (a <= b ∧ c <= d ∧ maxL a [b, c, d] <= MF ∧ minL a [b, c, d] ≥ -MF)
theorem wide_run : runF T [] FT 1000 base1 1 47 [] = some (bx 0 0 0 0 true) := by kernel_rfl
theorem wide_spec : Spec Tryz.prog [] 47 [] (bx 0 0 0 0 true) := runF_spec T_ok mixed_ok FT_ok base1_ok 1 wide_run
theorem valid_spec (a b c d : Int) (w : Bool) : Spec Tryz.prog [] 19 [bx a b c d w] (.bool (validF a b c d w)) := by
 refine spec_fn T_ok mixed_ok 1 Tryz.func19 fn_ok19 (by kernel_rfl) ?_
 cases w with
 | true =>
  refine brT ?_
  refine And.intro (by kernel_rfl) ?_
  refine And.intro rfl ?_
  first | refine Exists.intro _ (And.intro (wide_spec) ?_) | refine Hn_by (Exists.intro _ (And.intro (wide_spec) ?_))
  exact And.intro (Or.inr rfl) rfl
 | false =>
  refine brF ?_
  refine br (fun h1 => ?_) (fun h1 => ?_)
  ·repeat (first | refine gT ?_ | refine gF ?_ | refine brT ?_ | refine brF ?_)
   refine br (fun h2 => ?_) (fun h2 => ?_)
   ·repeat (first | refine gT ?_ | refine gF ?_ | refine brT ?_ | refine brF ?_)
    refine Hn_by (And.intro ⟨rfl, Nat.le_refl _⟩ (Exists.intro _ (And.intro (max_spec [] a [b, c, d] (by simp)) ?_)))
    repeat (first | refine gT ?_ | refine gF ?_ | refine brT ?_ | refine brF ?_)
    refine br (fun h3 => ?_) (fun h3 => ?_)
    ·repeat (first | refine gT ?_ | refine gF ?_ | refine brT ?_ | refine brF ?_)
     refine Hn_by (And.intro ⟨rfl, Nat.le_refl _⟩ (Exists.intro _ (And.intro (min_spec [] a [b, c, d] (by simp)) ?_)))
     repeat (first | refine gT ?_ | refine gF ?_ | refine brT ?_ | refine brF ?_)
     exact And.intro (Or.inr rfl) (congrArg AV.bool (decide_eq_decide.2 ⟨fun h => ⟨h1, h2, h3, h⟩, fun h => h.2.2.2⟩))
    ·repeat (first | refine gT ?_ | refine gF ?_ | refine brT ?_ | refine brF ?_)
     exact And.intro (Or.inr rfl) (congrArg AV.bool (decide_eq_false fun h => h3 h.2.2.1).symm)
   ·repeat (first | refine gT ?_ | refine gF ?_ | refine brT ?_ | refine brF ?_)
    refine And.intro (Or.inr rfl) (congrArg AV.bool (decide_eq_false fun h => h2 h.2.1).symm)
  ·repeat (first | refine gT ?_ | refine gF ?_ | refine brT ?_ | refine brF ?_)
   refine And.intro (Or.inr rfl) (congrArg AV.bool (decide_eq_false fun h => h1 h.1).symm)
end Ab
