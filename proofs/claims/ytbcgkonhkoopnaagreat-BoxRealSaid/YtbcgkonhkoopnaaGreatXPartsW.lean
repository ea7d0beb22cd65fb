import Derived.Test.YtbcgkonhkoopnaaGreatXParts
/-!
The contract of parts.
-/
open Go Go.Proofs
namespace Ab
set_option maxRecDepth 100000
set_option maxHeartbeats 1000000

theorem parts_walk (x y X Y p1 p2 r1 r2 lo cy hi hx A B u1 u2 v1 v2 pL pH qL qH : Int) (sX : Spec Tryz.prog [] 132 [.int .i64 x] (.int .u64 X)) (sY : Spec Tryz.prog [] 132 [.int .i64 y] (.int .u64 Y))
    (q1 : Spec Tryz.prog [] 110 [.int .u64 X] (.agg [.int .u64 p1, .int .u64 p2])) (q2 : Spec Tryz.prog [] 110 [.int .u64 Y] (.agg [.int .u64 r1, .int .u64 r2]))
    (a1 : Spec Tryz.prog [] 133 [.int .u64 p2, .int .u64 r2, .int .u64 0] (.tup [.int .u64 lo, .int .u64 cy])) (a2 : Spec Tryz.prog [] 133 [.int .u64 p1, .int .u64 r1, .int .u64 cy] (.tup [.int .u64 hi, .int .u64 hx]))
    (s1 : Spec Tryz.prog [] 63 [.agg [.int .u64 hi, .int .u64 lo], .bool false] (.int .i64 A)) (s2 : Spec Tryz.prog [] 63 [.agg [.int .u64 hi, .int .u64 lo], .bool true] (.int .i64 B))
    (h1 : Spec Tryz.prog [] 64 [.int .u64 (IntKind.u64.wrap (IntKind.u64.wrap A + X)), .int .u64 23] (.agg [.int .u64 u1, .int .u64 u2])) (h2 : Spec Tryz.prog [] 64 [.int .u64 (IntKind.u64.wrap (IntKind.u64.wrap B + X)), .int .u64 23] (.agg [.int .u64 v1, .int .u64 v2]))
    (s3 : Spec Tryz.prog [] 63 [.agg [.int .u64 u1, .int .u64 u2], .bool false] (.int .i64 pL)) (s4 : Spec Tryz.prog [] 63 [.agg [.int .u64 v1, .int .u64 v2], .bool true] (.int .i64 pH))
    (k1 : Spec Tryz.prog [] 134 [.int .u64 Y, .int .i64 pH, .bool false] (.int .i64 qL)) (k2 : Spec Tryz.prog [] 134 [.int .u64 Y, .int .i64 pL, .bool true] (.int .i64 qH)) :
    Spec Tryz.prog [] 96 [.int .i64 x, .int .i64 y] (match decide (x < 0) with | true => .tup [Sp.av ⟨qL, qH⟩, Sp.av ⟨pL, pH⟩] | false => .tup [Sp.av ⟨pL, pH⟩, Sp.av ⟨qL, qH⟩]) := by
  by_cases hx : x < 0
  · rw [decide_eq_true hx]
    refine spec_fn T_ok mixed_ok 1 Tryz.func96 fn_ok96 (by kernel_rfl) ?_
    first | refine Exists.intro _ (And.intro (sX) ?_) | refine Hn_by (Exists.intro _ (And.intro (sX) ?_))
    first | refine Exists.intro _ (And.intro (sY) ?_) | refine Hn_by (Exists.intro _ (And.intro (sY) ?_))
    first | refine Exists.intro _ (And.intro (q1) ?_) | refine Hn_by (Exists.intro _ (And.intro (q1) ?_))
    first | refine Exists.intro _ (And.intro (q2) ?_) | refine Hn_by (Exists.intro _ (And.intro (q2) ?_))
    first | refine Exists.intro _ (And.intro (a1) ?_) | refine Hn_by (Exists.intro _ (And.intro (a1) ?_))
    first | refine Exists.intro _ (And.intro (q1) ?_) | refine Hn_by (Exists.intro _ (And.intro (q1) ?_))
    first | refine Exists.intro _ (And.intro (q2) ?_) | refine Hn_by (Exists.intro _ (And.intro (q2) ?_))
    first | refine Exists.intro _ (And.intro (a2) ?_) | refine Hn_by (Exists.intro _ (And.intro (a2) ?_))
    refine And.intro (by kernel_rfl) ?_
    repeat (first | refine gT ?_ | refine gF ?_ | refine brT ?_ | refine brF ?_ | refine And.intro rfl ?_)
    first | refine Exists.intro _ (And.intro (s1) ?_) | refine Hn_by (Exists.intro _ (And.intro (s1) ?_))
    repeat (first | refine gT ?_ | refine gF ?_ | refine brT ?_ | refine brF ?_ | refine And.intro rfl ?_)
    first | refine Exists.intro _ (And.intro (h1) ?_) | refine Hn_by (Exists.intro _ (And.intro (h1) ?_))
    repeat (first | refine gT ?_ | refine gF ?_ | refine brT ?_ | refine brF ?_ | refine And.intro rfl ?_)
    first | refine Exists.intro _ (And.intro (s3) ?_) | refine Hn_by (Exists.intro _ (And.intro (s3) ?_))
    repeat (first | refine gT ?_ | refine gF ?_ | refine brT ?_ | refine brF ?_ | refine And.intro rfl ?_)
    first | refine Exists.intro _ (And.intro (s2) ?_) | refine Hn_by (Exists.intro _ (And.intro (s2) ?_))
    repeat (first | refine gT ?_ | refine gF ?_ | refine brT ?_ | refine brF ?_ | refine And.intro rfl ?_)
    first | refine Exists.intro _ (And.intro (h2) ?_) | refine Hn_by (Exists.intro _ (And.intro (h2) ?_))
    repeat (first | refine gT ?_ | refine gF ?_ | refine brT ?_ | refine brF ?_ | refine And.intro rfl ?_)
    first | refine Exists.intro _ (And.intro (s4) ?_) | refine Hn_by (Exists.intro _ (And.intro (s4) ?_))
    repeat (first | refine gT ?_ | refine gF ?_ | refine brT ?_ | refine brF ?_ | refine And.intro rfl ?_)
    first | refine Exists.intro _ (And.intro (k1) ?_) | refine Hn_by (Exists.intro _ (And.intro (k1) ?_))
    repeat (first | refine gT ?_ | refine gF ?_ | refine brT ?_ | refine brF ?_ | refine And.intro rfl ?_)
    first | refine Exists.intro _ (And.intro (k2) ?_) | refine Hn_by (Exists.intro _ (And.intro (k2) ?_))
    repeat (first | refine gT ?_ | refine gF ?_ | refine brT ?_ | refine brF ?_ | refine And.intro rfl ?_)
    refine br (fun h => ?_) (fun h => absurd hx h)
    repeat (first | refine gT ?_ | refine gF ?_ | refine brT ?_ | refine brF ?_ | refine And.intro rfl ?_)
    exact And.intro (Or.inr rfl) rfl
  · rw [decide_eq_false hx]
    refine spec_fn T_ok mixed_ok 1 Tryz.func96 fn_ok96 (by kernel_rfl) ?_
    first | refine Exists.intro _ (And.intro (sX) ?_) | refine Hn_by (Exists.intro _ (And.intro (sX) ?_))
    first | refine Exists.intro _ (And.intro (sY) ?_) | refine Hn_by (Exists.intro _ (And.intro (sY) ?_))
    first | refine Exists.intro _ (And.intro (q1) ?_) | refine Hn_by (Exists.intro _ (And.intro (q1) ?_))
    first | refine Exists.intro _ (And.intro (q2) ?_) | refine Hn_by (Exists.intro _ (And.intro (q2) ?_))
    first | refine Exists.intro _ (And.intro (a1) ?_) | refine Hn_by (Exists.intro _ (And.intro (a1) ?_))
    first | refine Exists.intro _ (And.intro (q1) ?_) | refine Hn_by (Exists.intro _ (And.intro (q1) ?_))
    first | refine Exists.intro _ (And.intro (q2) ?_) | refine Hn_by (Exists.intro _ (And.intro (q2) ?_))
    first | refine Exists.intro _ (And.intro (a2) ?_) | refine Hn_by (Exists.intro _ (And.intro (a2) ?_))
    refine And.intro (by kernel_rfl) ?_
    repeat (first | refine gT ?_ | refine gF ?_ | refine brT ?_ | refine brF ?_ | refine And.intro rfl ?_)
    first | refine Exists.intro _ (And.intro (s1) ?_) | refine Hn_by (Exists.intro _ (And.intro (s1) ?_))
    repeat (first | refine gT ?_ | refine gF ?_ | refine brT ?_ | refine brF ?_ | refine And.intro rfl ?_)
    first | refine Exists.intro _ (And.intro (h1) ?_) | refine Hn_by (Exists.intro _ (And.intro (h1) ?_))
    repeat (first | refine gT ?_ | refine gF ?_ | refine brT ?_ | refine brF ?_ | refine And.intro rfl ?_)
    first | refine Exists.intro _ (And.intro (s3) ?_) | refine Hn_by (Exists.intro _ (And.intro (s3) ?_))
    repeat (first | refine gT ?_ | refine gF ?_ | refine brT ?_ | refine brF ?_ | refine And.intro rfl ?_)
    first | refine Exists.intro _ (And.intro (s2) ?_) | refine Hn_by (Exists.intro _ (And.intro (s2) ?_))
    repeat (first | refine gT ?_ | refine gF ?_ | refine brT ?_ | refine brF ?_ | refine And.intro rfl ?_)
    first | refine Exists.intro _ (And.intro (h2) ?_) | refine Hn_by (Exists.intro _ (And.intro (h2) ?_))
    repeat (first | refine gT ?_ | refine gF ?_ | refine brT ?_ | refine brF ?_ | refine And.intro rfl ?_)
    first | refine Exists.intro _ (And.intro (s4) ?_) | refine Hn_by (Exists.intro _ (And.intro (s4) ?_))
    repeat (first | refine gT ?_ | refine gF ?_ | refine brT ?_ | refine brF ?_ | refine And.intro rfl ?_)
    first | refine Exists.intro _ (And.intro (k1) ?_) | refine Hn_by (Exists.intro _ (And.intro (k1) ?_))
    repeat (first | refine gT ?_ | refine gF ?_ | refine brT ?_ | refine brF ?_ | refine And.intro rfl ?_)
    first | refine Exists.intro _ (And.intro (k2) ?_) | refine Hn_by (Exists.intro _ (And.intro (k2) ?_))
    repeat (first | refine gT ?_ | refine gF ?_ | refine brT ?_ | refine brF ?_ | refine And.intro rfl ?_)
    refine br (fun h => absurd h hx) (fun h => ?_)
    repeat (first | refine gT ?_ | refine gF ?_ | refine brT ?_ | refine brF ?_ | refine And.intro rfl ?_)
    exact And.intro (Or.inr rfl) rfl

theorem add_parts {p r n : Int} (hp : 0 ≤ p) (hr : 0 ≤ r) (hn : n = p + r) (h : n < 21267647932558653966460912964485513216) :
    let lo := (p % 18446744073709551616 + r % 18446744073709551616 + 0) % 18446744073709551616
    let cy := (p % 18446744073709551616 + r % 18446744073709551616 + 0) / 18446744073709551616
    let hi := (p / 18446744073709551616 + r / 18446744073709551616 + cy) % 18446744073709551616
    0 ≤ cy ∧ cy ≤ 1 ∧ hi = n / 18446744073709551616 ∧ lo = n % 18446744073709551616 := by
  intro lo cy hi
  refine ⟨?_, ?_, ?_, ?_⟩ <;> omega
theorem wrap_sum {A X : Nat} (hA : A ≤ 2 ^ 61) (hX : X ≤ 2 ^ 60) : IntKind.u64.wrap (IntKind.u64.wrap (A : Int) + (X : Int)) = ((A + X : Nat) : Int) := by
  rw [u64_mod, u64_mod]; omega
theorem i64_sm {x : Int} (h : Sm x) : I64 x := by
  obtain ⟨h1, h2⟩ := h
  unfold MF at h1 h2
  unfold I64; omega
theorem parts_spec (x y : Int) (hx : Sm x) (hy : Sm y) (h : x ≠ 0 ∨ y ≠ 0) : Spec Tryz.prog [] 96 [.int .i64 x, .int .i64 y] (.tup [(reF x y).av, (imF x y).av]) := by
  have B := bnd hx hy h
  have uX : U64 (x.natAbs : Int) := by have := B.X; unfold U64; omega
  have uY : U64 (y.natAbs : Int) := by have := B.Y; unfold U64; omega
  have sX := size_spec x (i64_sm hx)
  have sY := size_spec y (i64_sm hy)
  have q1 := square_spec _ uX
  have q2 := square_spec _ uY
  have pX : (0 : Int) ≤ (x.natAbs : Int) * (x.natAbs : Int) := Int.mul_nonneg uX.1 uX.1
  have pY : (0 : Int) ≤ (y.natAbs : Int) * (y.natAbs : Int) := Int.mul_nonneg uY.1 uY.1
  have hn : (nrm x y : Int) = (x.natAbs : Int) * (x.natAbs : Int) + (y.natAbs : Int) * (y.natAbs : Int) := by
    unfold nrm; rw [Int.natCast_add, Int.natCast_mul, Int.natCast_mul]
  have hN : (nrm x y : Int) < 21267647932558653966460912964485513216 := Int.ofNat_lt.2 (Nat.lt_of_lt_of_le B.N (by decide))
  obtain ⟨c0, c1, e1, e2⟩ := add_parts pX pY hn hN
  have s1 := sqrt_spec (nrm x y) false B.N
  have s2 := sqrt_spec (nrm x y) true B.N
  rw [if_neg (by decide)] at s1
  rw [if_pos rfl] at s2
  unfold lg at q1 q2 s1 s2
  rw [← e1, ← e2] at s1 s2
  have a1 := add64_spec [] ((x.natAbs : Int) * (x.natAbs : Int) % 18446744073709551616) ((y.natAbs : Int) * (y.natAbs : Int) % 18446744073709551616) 0 (Int.emod_nonneg _ (by decide)) (Int.emod_nonneg _ (by decide)) (by decide) (by decide)
  have a2 := add64_spec [] ((x.natAbs : Int) * (x.natAbs : Int) / 18446744073709551616) ((y.natAbs : Int) * (y.natAbs : Int) / 18446744073709551616) _ (Int.ediv_nonneg pX (by decide)) (Int.ediv_nonneg pY (by decide)) c0 c1
  have h1 := shl23_spec (isq (nrm x y) + x.natAbs) (Nat.lt_of_le_of_lt (Nat.add_le_add (Nat.le_of_lt B.a) B.X) (by decide))
  have h2 := shl23_spec (csq (nrm x y) + x.natAbs) (Nat.lt_of_le_of_lt (Nat.add_le_add B.b B.X) (by decide))
  have s3 := sqrt_spec _ false B.pa
  have s4 := sqrt_spec _ true B.pb
  rw [if_neg (by decide)] at s3
  rw [if_pos rfl] at s4
  rw [← wrap_sum (Nat.le_of_lt B.a) B.X] at h1
  rw [← wrap_sum B.b B.X] at h2
  have hph := B.ph
  have hpl := B.pl
  have k1 := quo_spec y.natAbs (pHi x y) false (Nat.lt_of_le_of_lt B.Y (by decide)) (Nat.lt_of_lt_of_le B.hl hpl.2) (Nat.lt_trans hph (by decide)) (Nat.lt_of_le_of_lt (Nat.add_le_add_right B.qh 1) (by omega))
  have k2 := quo_spec y.natAbs (pLo x y) true (Nat.lt_of_le_of_lt B.Y (by decide)) B.hl (Nat.lt_of_le_of_lt hpl.2 (Nat.lt_trans hph (by decide))) (Nat.lt_of_le_of_lt (Nat.add_le_add_right B.ql 1) (by omega))
  have w := parts_walk x y _ _ _ _ _ _ _ _ _ _ _ _ _ _ _ _ _ _ _ _ sX sY q1 q2 a1 a2 s1 s2 h1 h2 s3 s4 k1 k2
  unfold reF imF
  by_cases hx0 : x < 0
  · rw [decide_eq_true hx0] at w
    rw [if_pos hx0, if_pos hx0]
    exact w
  · rw [decide_eq_false hx0] at w
    rw [if_neg hx0, if_neg hx0]
    exact w
end Ab
