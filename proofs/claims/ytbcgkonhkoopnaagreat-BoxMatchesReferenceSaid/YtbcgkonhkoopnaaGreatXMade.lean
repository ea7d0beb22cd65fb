import Derived.Test.YtbcgkonhkoopnaaGreatXBoxMeets
open Go Go.Proofs
namespace Ab
set_option maxRecDepth 100000
def pickF (x n : Int) : Int := (if x < 0 then w64 (0 - w64 (x + 1)) else x).tmod n
theorem pick_spec (x n : Int) (hn : n ≠ 0) : Spec Tryz.prog [] 34 [.int .i64 x, .int .i64 n] (.int .i64 (pickF x n)) := by
 refine spec_fn T_ok mixed_ok 0 Tryz.func34 fn_ok34 (by kernel_rfl) ?_
 refine br (fun h => ?_) (fun h => ?_)
 ·refine And.intro hn ?_
  exact And.intro (Or.inr rfl) (int_eq (by unfold pickF; rw [if_pos h]))
 ·refine And.intro hn ?_
  exact And.intro (Or.inr rfl) (int_eq (by unfold pickF; rw [if_neg h]))
end Ab
