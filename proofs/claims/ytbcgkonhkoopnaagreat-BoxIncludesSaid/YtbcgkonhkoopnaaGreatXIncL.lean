import Derived.Test.YtbcgkonhkoopnaaGreatXIsqrtL
import Derived.Test.YtbcgkonhkoopnaaGreatXSm
/-!
The law BoxIncludes.
-/
open Go Go.Proofs
namespace Ab
set_option maxRecDepth 100000
set_option maxHeartbeats 1000000

theorem product_walk (x u y v : Int) (minus : Bool) (n1 n2 n3 n4 n5 n6 n7 : Bool) (l1 l2 l3 l4 l5 l6 l7 : List Int) (o1 : Spec Tryz.prog [] 30 [.int .i64 x] (mkI n1 l1)) (o2 : Spec Tryz.prog [] 30 [.int .i64 u] (mkI n2 l2)) (o3 : Spec Tryz.prog [] 31 [mkI n1 l1, mkI n2 l2] (.tup [mkI n3 l3, .int .i64 0]))
    (o4 : Spec Tryz.prog [] 30 [.int .i64 y] (mkI n4 l4)) (o5 : Spec Tryz.prog [] 30 [.int .i64 v] (mkI n5 l5)) (o6 : Spec Tryz.prog [] 31 [mkI n4 l4, mkI n5 l5] (.tup [mkI n6 l6, .int .i64 0]))
    (o7 : match minus with | true => Spec Tryz.prog [] 93 [mkI n3 l3, mkI n6 l6] (.tup [mkI n7 l7, .int .i64 0]) | false => Spec Tryz.prog [] 94 [mkI n3 l3, mkI n6 l6] (.tup [mkI n7 l7, .int .i64 0])) :
    Spec Tryz.prog [] 41 [.int .i64 x, .int .i64 u, .int .i64 y, .int .i64 v, .bool minus] (mkI n7 l7) := by
  cases minus with
  | true =>
    simp only at o7
    refine spec_fn T_ok mixed_ok 1 Tryz.func41 fn_ok41 (by kernel_rfl) ?_
    first | refine Exists.intro _ (And.intro (o1) ?_) | refine Hn_by (Exists.intro _ (And.intro (o1) ?_))
    first | refine Exists.intro _ (And.intro (o2) ?_) | refine Hn_by (Exists.intro _ (And.intro (o2) ?_))
    first | refine Exists.intro _ (And.intro (o3) ?_) | refine Hn_by (Exists.intro _ (And.intro (o3) ?_))
    first | refine Exists.intro _ (And.intro (o4) ?_) | refine Hn_by (Exists.intro _ (And.intro (o4) ?_))
    first | refine Exists.intro _ (And.intro (o5) ?_) | refine Hn_by (Exists.intro _ (And.intro (o5) ?_))
    first | refine Exists.intro _ (And.intro (o6) ?_) | refine Hn_by (Exists.intro _ (And.intro (o6) ?_))
    repeat (first | refine gT ?_ | refine gF ?_ | refine brT ?_ | refine brF ?_)
    first | refine Exists.intro _ (And.intro (o7) ?_) | refine Hn_by (Exists.intro _ (And.intro (o7) ?_))
    exact And.intro (Or.inr rfl) rfl
  | false =>
    simp only at o7
    refine spec_fn T_ok mixed_ok 1 Tryz.func41 fn_ok41 (by kernel_rfl) ?_
    first | refine Exists.intro _ (And.intro (o1) ?_) | refine Hn_by (Exists.intro _ (And.intro (o1) ?_))
    first | refine Exists.intro _ (And.intro (o2) ?_) | refine Hn_by (Exists.intro _ (And.intro (o2) ?_))
    first | refine Exists.intro _ (And.intro (o3) ?_) | refine Hn_by (Exists.intro _ (And.intro (o3) ?_))
    first | refine Exists.intro _ (And.intro (o4) ?_) | refine Hn_by (Exists.intro _ (And.intro (o4) ?_))
    first | refine Exists.intro _ (And.intro (o5) ?_) | refine Hn_by (Exists.intro _ (And.intro (o5) ?_))
    first | refine Exists.intro _ (And.intro (o6) ?_) | refine Hn_by (Exists.intro _ (And.intro (o6) ?_))
    repeat (first | refine gT ?_ | refine gF ?_ | refine brT ?_ | refine brF ?_)
    first | refine Exists.intro _ (And.intro (o7) ?_) | refine Hn_by (Exists.intro _ (And.intro (o7) ?_))
    exact And.intro (Or.inr rfl) rfl
theorem holds_walk (lo hi c1 c2 : Int) (n0 n1 n2 n3 n4 : Bool) (l0 l1 l2 l3 l4 : List Int) (o1 : Spec Tryz.prog [] 30 [.int .i64 lo] (mkI n1 l1)) (o2 : Spec Tryz.prog [] 29 [mkI n1 l1, .int .i64 24] (.tup [mkI n2 l2, .int .i64 0]))
    (o3 : Spec Tryz.prog [] 30 [.int .i64 hi] (mkI n3 l3)) (o4 : Spec Tryz.prog [] 29 [mkI n3 l3, .int .i64 24] (.tup [mkI n4 l4, .int .i64 0])) (o5 : Spec Tryz.prog [] 32 [mkI n2 l2, mkI n0 l0] (.tup [.int .i64 c1, .int .i64 0])) (o6 : Spec Tryz.prog [] 32 [mkI n0 l0, mkI n4 l4] (.tup [.int .i64 c2, .int .i64 0]))
    (h1 : c1 ≤ 0) (h2 : c2 ≤ 0) : Spec Tryz.prog [] 40 [mkI n0 l0, .int .i64 lo, .int .i64 hi] (.bool true) := by
  refine spec_fn T_ok mixed_ok 1 Tryz.func40 fn_ok40 (by kernel_rfl) ?_
  first | refine Exists.intro _ (And.intro (o1) ?_) | refine Hn_by (Exists.intro _ (And.intro (o1) ?_))
  first | refine Exists.intro _ (And.intro (o2) ?_) | refine Hn_by (Exists.intro _ (And.intro (o2) ?_))
  first | refine Exists.intro _ (And.intro (o3) ?_) | refine Hn_by (Exists.intro _ (And.intro (o3) ?_))
  first | refine Exists.intro _ (And.intro (o4) ?_) | refine Hn_by (Exists.intro _ (And.intro (o4) ?_))
  first | refine Exists.intro _ (And.intro (o5) ?_) | refine Hn_by (Exists.intro _ (And.intro (o5) ?_))
  first | refine Exists.intro _ (And.intro (o6) ?_) | refine Hn_by (Exists.intro _ (And.intro (o6) ?_))
  repeat (first | refine gT ?_ | refine gF ?_ | refine brT ?_ | refine brF ?_)
  refine onT ?_ ?_
  · simp [h1]
  repeat (first | refine gT ?_ | refine gF ?_ | refine brT ?_ | refine brF ?_)
  refine And.intro (Or.inr rfl) ?_
  refine congrArg AV.bool ?_
  simp [h2]

theorem az_sm {x : Int} (h : Sm x) : az x ≤ 1152921504606846976 := by
  obtain ⟨h1, h2⟩ := h
  unfold MF at h1 h2
  unfold az; omega
theorem az_mul {x y : Int} (hx : Sm x) (hy : Sm y) : az (x * y) ≤ 1329227995784915872903807060280344576 := by
  rw [← abs_mul]
  exact Int.mul_le_mul (az_sm hx) (az_sm hy) (az_nn y) (by decide)
theorem az_add (x y : Int) : az (x + y) ≤ az x + az y := by unfold az; omega
theorem az_sub (x y : Int) : az (x - y) ≤ az x + az y := by unfold az; omega
theorem fits_sm {x : Int} (h : Sm x) : Fits x := fits_small (by have := az_sm h; omega)
theorem prod_small (x u y v : Int) (minus : Bool) (hx : Sm x) (hu : Sm u) (hy : Sm y) (hv : Sm v) : az (match minus with | true => x * u - y * v | false => x * u + y * v) ≤ 2658455991569831745807614120560689152 := by
  have a := az_mul hx hu
  have b := az_mul hy hv
  cases minus with
  | true => have := az_sub (x * u) (y * v); simp only; omega
  | false => have := az_add (x * u) (y * v); simp only; omega
theorem of_sm {x : Int} (h : Sm x) : Spec Tryz.prog [] 30 [.int .i64 x] (mkZ x) := by
  obtain ⟨h1, h2⟩ := i64_sm h
  exact Of_spec [] x h1 h2
theorem product_int (x u y v : Int) (minus : Bool) (hx : Sm x) (hu : Sm u) (hy : Sm y) (hv : Sm v) : Spec Tryz.prog [] 41 [.int .i64 x, .int .i64 u, .int .i64 y, .int .i64 v, .bool minus] (mkZ (match minus with | true => x * u - y * v | false => x * u + y * v)) := by
  have f1 : Fits (x * u) := fits_small (by have := az_mul hx hu; omega)
  have f2 : Fits (y * v) := fits_small (by have := az_mul hy hv; omega)
  have ps := prod_small x u y v minus hx hu hy hv
  have o3 := mul_int [] (fits_sm hx) (fits_sm hu)
  have o6 := mul_int [] (fits_sm hy) (fits_sm hv)
  rw [resZ_ok f1] at o3
  rw [resZ_ok f2] at o6
  refine product_walk x u y v minus _ _ _ _ _ _ _ _ _ _ _ _ _ _ (of_sm hx) (of_sm hu) o3 (of_sm hy) (of_sm hv) o6 ?_
  cases minus with
  | true =>
    simp only at ps ⊢
    have o7 := sub_int [] f1 f2
    rw [resZ_ok (fits_small (by omega))] at o7
    exact o7
  | false =>
    simp only at ps ⊢
    have o7 := add_int [] f1 f2
    rw [resZ_ok (fits_small (by omega))] at o7
    exact o7
theorem holds_int (n lo hi : Int) (hn : az n ≤ 2658455991569831745807614120560689152) (hl : Sm lo) (hh : Sm hi) (h1 : lo * 16777216 ≤ n) (h2 : n ≤ hi * 16777216) : Spec Tryz.prog [] 40 [mkZ n, .int .i64 lo, .int .i64 hi] (.bool true) := by
  have fn : Fits n := fits_small (by omega)
  have a1 := az_sm hl
  have a2 := az_sm hh
  have f1 : Fits (lo * 2 ^ 24) := fits_small (by unfold az at *; omega)
  have f2 : Fits (hi * 2 ^ 24) := fits_small (by unfold az at *; omega)
  have o2 := shift_int [] (fits_sm hl) (n := 24) (by decide)
  rw [resZ_ok f1] at o2
  have o4 := shift_int [] (fits_sm hh) (n := 24) (by decide)
  rw [resZ_ok f2] at o4
  have o5 := cmp_int [] f1 fn
  have o6 := cmp_int [] fn f2
  refine holds_walk lo hi _ _ _ _ _ _ _ _ _ _ _ _ (of_sm hl) o2 (of_sm hh) o4 o5 o6 ?_ ?_
  · unfold Dg.cmp; split
    · decide
    · split <;> omega
  · unfold Dg.cmp; split
    · decide
    · split <;> omega
end Ab
