import Derived.Test.YtbcgkonhkoopnaaGreatXSqrtW
import Derived.Test.YtbcgkonhkoopnaaGreatXOrder
import Derived.Test.YtbcgkonhkoopnaaGreatXIntOps
/-!
The law BoxIsqrt.
-/
open Go Go.Proofs
namespace Ab
set_option maxRecDepth 100000
set_option maxHeartbeats 1000000

theorem isqrt_neg (n : Int) (s1 : Spec Tryz.prog [] 24 [.int .i64 n] (.int .i64 0)) (h : n < 0) : Spec Tryz.prog [] 8 [.int .i64 n] (.bool true) := by
  refine spec_fn T_ok mixed_ok 1 Tryz.func8 fn_ok8 (by kernel_rfl) ?_
  first | refine Exists.intro _ (And.intro (sane_spec) ?_) | refine Hn_by (Exists.intro _ (And.intro (sane_spec) ?_))
  repeat (first | refine gT ?_ | refine gF ?_ | refine brT ?_ | refine brF ?_)
  first | refine Exists.intro _ (And.intro (s1) ?_) | refine Hn_by (Exists.intro _ (And.intro (s1) ?_))
  refine br (fun _ => ?_) (fun g => absurd h g)
  exact And.intro (Or.inr rfl) rfl
theorem isqrt_walk (n r c1 c2 : Int) (n1 n2 n3 n4 n5 n6 : Bool) (l1 l2 l3 l4 l5 l6 : List Int) (s1 : Spec Tryz.prog [] 24 [.int .i64 n] (.int .i64 r)) (h : ¬ n < 0)
    (o1 : Spec Tryz.prog [] 30 [.int .i64 n] (mkI n1 l1)) (o2 : Spec Tryz.prog [] 29 [mkI n1 l1, .int .i64 24] (.tup [mkI n2 l2, .int .i64 0]))
    (o3 : Spec Tryz.prog [] 30 [.int .i64 r] (mkI n3 l3)) (o4 : Spec Tryz.prog [] 31 [mkI n3 l3, mkI n3 l3] (.tup [mkI n4 l4, .int .i64 0]))
    (o5 : Spec Tryz.prog [] 30 [.int .i64 (w64 (r + 1))] (mkI n5 l5)) (o6 : Spec Tryz.prog [] 31 [mkI n5 l5, mkI n5 l5] (.tup [mkI n6 l6, .int .i64 0]))
    (o7 : Spec Tryz.prog [] 32 [mkI n4 l4, mkI n2 l2] (.tup [.int .i64 c1, .int .i64 0])) (o8 : Spec Tryz.prog [] 32 [mkI n2 l2, mkI n6 l6] (.tup [.int .i64 c2, .int .i64 0]))
    (hr : r ≥ 0) (h1 : c1 ≤ 0) (h2 : c2 < 0) : Spec Tryz.prog [] 8 [.int .i64 n] (.bool true) := by
  refine spec_fn T_ok mixed_ok 1 Tryz.func8 fn_ok8 (by kernel_rfl) ?_
  first | refine Exists.intro _ (And.intro (sane_spec) ?_) | refine Hn_by (Exists.intro _ (And.intro (sane_spec) ?_))
  repeat (first | refine gT ?_ | refine gF ?_ | refine brT ?_ | refine brF ?_)
  first | refine Exists.intro _ (And.intro (s1) ?_) | refine Hn_by (Exists.intro _ (And.intro (s1) ?_))
  refine br (fun g => absurd g h) (fun _ => ?_)
  first | refine Exists.intro _ (And.intro (o1) ?_) | refine Hn_by (Exists.intro _ (And.intro (o1) ?_))
  first | refine Exists.intro _ (And.intro (o2) ?_) | refine Hn_by (Exists.intro _ (And.intro (o2) ?_))
  first | refine Exists.intro _ (And.intro (o3) ?_) | refine Hn_by (Exists.intro _ (And.intro (o3) ?_))
  first | refine Exists.intro _ (And.intro (o3) ?_) | refine Hn_by (Exists.intro _ (And.intro (o3) ?_))
  first | refine Exists.intro _ (And.intro (o4) ?_) | refine Hn_by (Exists.intro _ (And.intro (o4) ?_))
  first | refine Exists.intro _ (And.intro (o5) ?_) | refine Hn_by (Exists.intro _ (And.intro (o5) ?_))
  first | refine Exists.intro _ (And.intro (o5) ?_) | refine Hn_by (Exists.intro _ (And.intro (o5) ?_))
  first | refine Exists.intro _ (And.intro (o6) ?_) | refine Hn_by (Exists.intro _ (And.intro (o6) ?_))
  first | refine Exists.intro _ (And.intro (o7) ?_) | refine Hn_by (Exists.intro _ (And.intro (o7) ?_))
  first | refine Exists.intro _ (And.intro (o8) ?_) | refine Hn_by (Exists.intro _ (And.intro (o8) ?_))
  refine br (fun _ => ?_) (fun g => absurd hr g)
  repeat (first | refine gT ?_ | refine gF ?_ | refine brT ?_ | refine brF ?_)
  refine onT ?_ ?_
  · simp [h1]
  repeat (first | refine gT ?_ | refine gF ?_ | refine brT ?_ | refine brF ?_)
  refine And.intro (Or.inr rfl) ?_
  refine congrArg AV.bool ?_
  simp [h2]

theorem fits_small {z : Int} (h : az z < 1606938044258990275541962092341162602522202993782792835301376) : Fits z := by
  refine fits_lt (Int.lt_of_lt_of_le h ?_)
  have := two_pow_B (n := 200) (k := 128) (by decide)
  exact this
theorem isqrt_law (n : Int) (hn : I64 n) : Spec Tryz.prog [] 8 [.int .i64 n] (.bool true) := by
  have s1 := isqrt_spec n hn
  by_cases h : n < 0
  · rw [if_pos h] at s1
    exact isqrt_neg n s1 h
  · rw [if_neg h] at s1
    obtain ⟨i1, i2⟩ := isq_ok (n.toNat * 16777216)
    generalize isq (n.toNat * 16777216) = r at s1 i1 i2
    obtain ⟨n1, n2⟩ := hn
    have r44 : r < 2 ^ 44 := Nat.mul_self_lt_mul_self_iff.1 (Nat.lt_of_le_of_lt i1 (by omega))
    have e1 : ((r * r : Nat) : Int) = (r : Int) * r := Int.natCast_mul _ _
    have e2 : (((r + 1) * (r + 1) : Nat) : Int) = ((r : Int) + 1) * ((r : Int) + 1) := by rw [Int.natCast_mul]; rfl
    have b1 : r * r ≤ 2 ^ 44 * 2 ^ 44 := Nat.mul_le_mul (Nat.le_of_lt r44) (Nat.le_of_lt r44)
    have b2 : (r + 1) * (r + 1) ≤ 2 ^ 44 * 2 ^ 44 := Nat.mul_le_mul r44 r44
    have hw : w64 ((r : Int) + 1) = (r : Int) + 1 := w64_eq (by omega)
    have f1 : Fits n := fits_small (by unfold az; omega)
    have f2 : Fits (n * 2 ^ 24) := fits_small (by unfold az; omega)
    have f3 : Fits (r : Int) := fits_small (by unfold az; omega)
    have f4 : Fits ((r : Int) * r) := fits_small (by rw [← e1]; unfold az; omega)
    have f5 : Fits ((r : Int) + 1) := fits_small (by unfold az; omega)
    have f6 : Fits (((r : Int) + 1) * ((r : Int) + 1)) := fits_small (by rw [← e2]; unfold az; omega)
    have o1 := Of_spec [] n n1 n2
    have o2 := shift_int [] f1 (n := 24) (by decide)
    rw [resZ_ok f2] at o2
    have o3 := Of_spec [] (r : Int) (by omega) (by omega)
    have o4 := mul_int [] f3 f3
    rw [resZ_ok f4] at o4
    have o5 := Of_spec [] ((r : Int) + 1) (by omega) (by omega)
    have o6 := mul_int [] f5 f5
    rw [resZ_ok f6] at o6
    have o7 := cmp_int [] f4 f2
    have o8 := cmp_int [] f2 f6
    have o5 : Spec Tryz.prog [] 30 [.int .i64 (w64 ((r : Int) + 1))] (mkZ ((r : Int) + 1)) := by rw [hw]; exact o5
    refine isqrt_walk n r _ _ _ _ _ _ _ _ _ _ _ _ _ _ s1 h o1 o2 o3 o4 o5 o6 o7 o8 (by omega) ?_ ?_
    · rw [← e1]; unfold Dg.cmp; split
      · decide
      · split <;> omega
    · rw [← e2]; unfold Dg.cmp; rw [if_pos (by omega)]; decide
end Ab
