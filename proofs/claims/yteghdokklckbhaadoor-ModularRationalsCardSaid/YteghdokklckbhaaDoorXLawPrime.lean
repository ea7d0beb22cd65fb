import Derived.Test.YteghdokklckbhaaDoorXRefPrime
import Derived.Test.YteghdokklckbhaaDoorXLaw1b
/-!
The reference's Next, and the law's prime.
-/
open Go Go.Proofs
namespace Ab
set_option maxRecDepth 100000

theorem refNext_spec (gl : List (Nat × AV)) (n : Int) : Spec Tryd.prog gl 34 [.int .i64 n] (.tup [.int .i64 (nextF (if n < 3 then 3 else n)).1, .int .i64 (nextF (if n < 3 then 3 else n)).2]) := by
  refine spec_fn T_ok mixed_ok 0 Tryd.func34 fn_ok34 (by kernel_rfl) ?_
  refine aw_loop (fun x : Int => stOf [(4, .int .i64 x)] [] 0) (fun x => 3 ≤ x ∧ nextF x = nextF (if n < 3 then 3 else n)) (fun x => (2147483648 - x).toNat) (if n < 3 then 3 else n) ⟨by split <;> omega, rfl⟩ (le_by ⟨rfl, trivial⟩ trivial (Nat.le_refl _)) ?_
  rintro x ⟨hx, hn⟩ P hP
  refine br (fun h => ?_) (fun h => ?_)
  · rw [nextF, dif_pos h] at hn
    refine Exists.intro _ (And.intro (refPrime_spec gl x) ?_)
    refine brB (fun h1 => ?_) (fun h1 => ?_)
    · rw [if_pos h1] at hn
      refine And.intro (Or.inr rfl) ?_
      rw [← hn]; exact rfl
    · rw [if_neg (by rw [h1]; simp)] at hn
      exact hP (x + 1) _ (le_by ⟨int_eq (w64_eq (by omega)), trivial⟩ trivial (Nat.le_refl _)) ⟨by omega, hn⟩ (by omega)
  · rw [nextF, dif_neg h] at hn
    refine And.intro (Or.inr rfl) ?_
    rw [← hn]; exact rfl

def mostF (n : Int) : Int := if pickF n 4 = 0 then 100 else if pickF n 4 = 1 then 1000 else if pickF n 4 = 2 then 100000 else 2147483647
def lawP (n : Int) : Int := (nextF (if pickF (w64 (n.tdiv 4)) (mostF n) < 3 then 3 else pickF (w64 (n.tdiv 4)) (mostF n))).1

theorem most_ne (n : Int) : mostF n ≠ 0 := by unfold mostF; split; decide; split; decide; split; decide; decide
theorem lawPrime_spec (gl : List (Nat × AV)) (n : Int) (h1 : -9223372036854775808 ≤ n) (h2 : n ≤ 9223372036854775807) : Spec Tryd.prog gl 14 [.int .i64 n] (.int .i64 (lawP n)) := by
  have hp := pickF_bd (x := n) (show (0 : Int) < 4 by decide) h1 h2
  refine spec_fn T_ok mixed_ok 0 Tryd.func14 fn_ok14 (by kernel_rfl) ?_
  refine Exists.intro _ (And.intro (pick_spec gl n 4 (by decide)) ?_)
  refine And.intro hp.1 (And.intro hp.2 (Exists.intro [.int .i64 (mostF n)] (And.intro ?_ ?_)))
  · unfold mostF
    rcases (show pickF n 4 = 0 ∨ pickF n 4 = 1 ∨ pickF n 4 = 2 ∨ pickF n 4 = 3 by omega) with e | e | e | e <;> rw [e] <;> rfl
  · refine And.intro (by decide) ?_
    refine Exists.intro _ (And.intro (pick_spec gl _ _ (most_ne n)) ?_)
    refine Exists.intro _ (And.intro (refNext_spec gl _) ?_)
    exact And.intro (Or.inr rfl) rfl
end Ab
