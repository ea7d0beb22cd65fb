import Derived.Test.YtbcgkonhkoopnaaGreatXBoxMeets
/-!
The contracts of the laws' own words: pick, inner, within.
-/
open Go Go.Proofs
namespace Ab
set_option maxRecDepth 100000

def pickF (x n : Int) : Int := (if x < 0 then w64 (0 - w64 (x + 1)) else x).tmod n
theorem pick_spec (x n : Int) (hn : n ≠ 0) : Spec Tryz.prog [] 34 [.int .i64 x, .int .i64 n] (.int .i64 (pickF x n)) := by
  refine spec_fn T_ok mixed_ok 0 Tryz.func34 fn_ok34 (by kernel_rfl) ?_
  refine br (fun h => ?_) (fun h => ?_)
  · refine And.intro hn ?_
    exact And.intro (Or.inr rfl) (int_eq (by unfold pickF; rw [if_pos h]))
  · refine And.intro hn ?_
    exact And.intro (Or.inr rfl) (int_eq (by unfold pickF; rw [if_neg h]))

def innerF (lo hi n : Int) : Int := w64 (lo + pickF n (w64 (w64 (hi - lo) + 1)))
theorem inner_spec (lo hi n : Int) (hn : w64 (w64 (hi - lo) + 1) ≠ 0) : Spec Tryz.prog [] 39 [.int .i64 lo, .int .i64 hi, .int .i64 n] (.int .i64 (innerF lo hi n)) := by
  have s := pick_spec n (w64 (w64 (hi - lo) + 1)) hn
  unfold innerF
  generalize pickF n (w64 (w64 (hi - lo) + 1)) = r at s ⊢
  refine spec_fn T_ok mixed_ok 1 Tryz.func39 fn_ok39 (by kernel_rfl) ?_
  first | refine Exists.intro _ (And.intro (s) ?_) | refine Hn_by (Exists.intro _ (And.intro (s) ?_))
  exact And.intro (Or.inr rfl) rfl

theorem within_spec (p : Bx) (n m : Int) (h1 : w64 (w64 (p.b - p.a) + 1) ≠ 0) (h2 : w64 (w64 (p.d - p.c) + 1) ≠ 0) (h3 : w64 (w64 (p.b - innerF p.a p.b n) + 1) ≠ 0) (h4 : w64 (w64 (p.d - innerF p.c p.d m) + 1) ≠ 0) :
    Spec Tryz.prog [] 18 [p.av, .int .i64 n, .int .i64 m] (Bx.av ⟨innerF p.a p.b n, innerF (innerF p.a p.b n) p.b m, innerF p.c p.d m, innerF (innerF p.c p.d m) p.d n, false⟩) := by
  have s1 := inner_spec p.a p.b n h1
  have s2 := inner_spec p.c p.d m h2
  generalize innerF p.a p.b n = x at s1 h3 ⊢
  generalize innerF p.c p.d m = y at s2 h4 ⊢
  have s3 := inner_spec x p.b m h3
  have s4 := inner_spec y p.d n h4
  generalize innerF x p.b m = u at s3 ⊢
  generalize innerF y p.d n = v at s4 ⊢
  obtain ⟨a, b, c, d, w⟩ := p
  refine spec_fn T_ok mixed_ok 1 Tryz.func18 fn_ok18 (by kernel_rfl) ?_
  first | refine Exists.intro _ (And.intro (s1) ?_) | refine Hn_by (Exists.intro _ (And.intro (s1) ?_))
  first | refine Exists.intro _ (And.intro (s2) ?_) | refine Hn_by (Exists.intro _ (And.intro (s2) ?_))
  refine And.intro (by kernel_rfl) ?_
  first | refine Exists.intro _ (And.intro (s3) ?_) | refine Hn_by (Exists.intro _ (And.intro (s3) ?_))
  refine And.intro rfl ?_
  first | refine Exists.intro _ (And.intro (s4) ?_) | refine Hn_by (Exists.intro _ (And.intro (s4) ?_))
  exact And.intro (Or.inr rfl) rfl
end Ab
