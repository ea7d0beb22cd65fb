import Derived.Test.YtbcgkonhkoopnaaGreatXDiv64
import Derived.Test.YtbcgkonhkoopnaaGreatXSm
section
open Go Go.Proofs
namespace Ab
set_option maxRecDepth 100000
set_option maxHeartbeats 1000000
theorem lg_nat (n : Nat) : lg (n : Int) = .agg [.int .u64 ((n / 2 ^ 64 : Nat) : Int), .int .u64 ((n % 2 ^ 64 : Nat) : Int)] := by
 unfold lg
 rw [show (n : Int) / 18446744073709551616 = ((n / 2 ^ 64 : Nat) : Int) by omega, show (n : Int) % 18446744073709551616 = ((n % 2 ^ 64 : Nat) : Int) by omega]
theorem shl23_spec (n : Nat) (hn : n < 2 ^ 64) : Spec Tryz.prog [] 64 [.int .u64 (n : Int), .int .u64 23] (lg ((n * 8388608 : Nat) : Int)) := by
 have := shifted23_spec (n : Int) ⟨by omega, by omega⟩
 rwa [show (n : Int) * 8388608 = ((n * 8388608 : Nat) : Int) by omega] at this
theorem up_div {M d : Nat} (hd : 0 < d) : (M + (d - 1)) / d = if M % d = 0 then M / d else M / d + 1 := by
 have h1 := Nat.div_add_mod M d
 have h2 := Nat.mod_lt M hd
 generalize M % d = r at h1 h2 ⊢
 generalize M / d = q at h1 ⊢
 split
 ·rename_i h
  subst h
  rw [<- h1, Nat.add_zero, Nat.add_comm, Nat.add_mul_div_left _ _ hd, Nat.div_eq_of_lt (by omega), Nat.zero_add]
 ·rw [<- h1, show d * q + r + (d - 1) = (r - 1) + d * (q + 1) by rw [Nat.mul_add, Nat.mul_one]; omega, Nat.add_mul_div_left _ _ hd, Nat.div_eq_of_lt (by omega), Nat.zero_add]
theorem neT {r : Nat} (h : (bif true then ((r : Int) != 0) else false) = true) : r ≠ 0 := by
 intro e
 subst e
 cases h
theorem neF {r : Nat} (h : (bif true then ((r : Int) != 0) else false) = false) : r = 0 := by
 have : ((r : Int) != 0) = false := h
 simpa using this
def quoF (n d : Nat) (up : Bool) : Nat := match up with | true => (n * 8388608 + (d - 1)) / d | false => n * 8388608 / d
theorem quo_spec (n d : Nat) (up : Bool) (h1 : n < 2 ^ 64) (hd : n * 8388608 / 2 ^ 64 < d) (hd2 : d < 2 ^ 63) (hq : n * 8388608 / d + 1 < 2 ^ 63) : Spec Tryz.prog [] 134 [.int .u64 (n : Int), .int .i64 (d : Int), .bool up] (.int .i64 (quoF n d up : Int)) := by
 have s1 := shl23_spec n h1
 rw [lg_nat] at s1
 have s2 := div64_spec (n * 8388608 / 2 ^ 64) (n * 8388608 % 2 ^ 64) d hd (lt_mod _) (by omega)
 rw [show n * 8388608 / 2 ^ 64 * 2 ^ 64 + n * 8388608 % 2 ^ 64 = n * 8388608 by rw [Nat.mul_comm]; exact Nat.div_add_mod _ _] at s2
 have e : IntKind.u64.wrap (d : Int) = (d : Int) := by rw [u64_mod]; omega
 rw [<- e] at s2
 have hd0 : 0 < d := by omega
 have hu := up_div (M := n * 8388608) hd0
 unfold quoF
 rw [hu]
 clear hu e hd h1 hd2
 generalize n * 8388608 / 2 ^ 64 = hi at s1 s2
 generalize n * 8388608 % 2 ^ 64 = lo at s1 s2
 generalize n * 8388608 / d = q at s2 hq ⊢
 generalize n * 8388608 % d = r at s2 ⊢
 have f1 : IntKind.i64.wrap (q : Int) = q := w64_eq (by omega)
 have f2 : IntKind.u64.wrap ((q : Int) + 1) = ((q + 1 : Nat) : Int) := by rw [u64_mod]; omega
 have f3 : IntKind.i64.wrap ((q + 1 : Nat) : Int) = ((q + 1 : Nat) : Int) := w64_eq (by omega)
 cases up with
 | false =>
  refine spec_fn T_ok mixed_ok 1 Tryz.func134 fn_ok134 (by kernel_rfl) ?_
  first | refine Exists.intro _ (And.intro (s1) ?_) | refine Hn_by (Exists.intro _ (And.intro (s1) ?_))
  first | refine Exists.intro _ (And.intro (s2) ?_) | refine Hn_by (Exists.intro _ (And.intro (s2) ?_))
  repeat (first | refine gT ?_ | refine gF ?_ | refine brT ?_ | refine brF ?_)
  exact And.intro (Or.inr rfl) (int_eq f1)
 | true =>
  refine spec_fn T_ok mixed_ok 1 Tryz.func134 fn_ok134 (by kernel_rfl) ?_
  first | refine Exists.intro _ (And.intro (s1) ?_) | refine Hn_by (Exists.intro _ (And.intro (s1) ?_))
  first | refine Exists.intro _ (And.intro (s2) ?_) | refine Hn_by (Exists.intro _ (And.intro (s2) ?_))
  refine brT ?_
  refine brT ?_
  refine brB (fun h => ?_) (fun h => ?_)
  ·have h' : r ≠ 0 := neT h
   refine And.intro (Or.inr rfl) (int_eq (Eq.trans (congrArg IntKind.i64.wrap f2) (Eq.trans f3 ?_)))
   simp only
   rw [if_neg h']
  ·have h' : r = 0 := neF h
   refine And.intro (Or.inr rfl) (int_eq (Eq.trans f1 ?_))
   simp only
   rw [if_pos h']
structure Bnd (x y : Int) : Prop where
 X : x.natAbs <= 2 ^ 60
 Y : y.natAbs <= 2 ^ 60
 N : nrm x y < 2 ^ 124
 a : isq (nrm x y) < 2 ^ 61
 b : csq (nrm x y) <= 2 ^ 61
 pa : (isq (nrm x y) + x.natAbs) * 8388608 < 2 ^ 124
 pb : (csq (nrm x y) + x.natAbs) * 8388608 < 2 ^ 124
 pl : 0 < pLo x y ∧ pLo x y <= pHi x y
 ph : pHi x y < 2 ^ 44
 hl : y.natAbs * 8388608 / 2 ^ 64 < pLo x y
 ql : y.natAbs * 8388608 / pLo x y <= pLo x y + 2
 qh : y.natAbs * 8388608 / pHi x y <= pLo x y + 2
theorem quo_le {M p : Nat} (hp : 0 < p) (h : M < (p + 1) * (p + 1)) : M / p <= p + 2 := by
 refine Nat.le_of_lt_succ ((Nat.div_lt_iff_lt_mul hp).2 ?_)
 have e : (p + 1) * (p + 1) = p * p + 2 * p + 1 := by rw [Nat.add_mul, Nat.mul_add, Nat.mul_one, Nat.one_mul]; omega
 have e2 : (p + 2).succ * p = p * p + 3 * p := by rw [Nat.succ_eq_add_one, Nat.add_assoc, Nat.add_mul]
 omega
theorem hi_lt {M p : Nat} (hp : 0 < p) (h : M < (p + 1) * (p + 1)) (hM : M <= 9671406556917033397649408) : M / 18446744073709551616 < p := by
 by_cases h2 : p < 4294967296
 ·have : (p + 1) * (p + 1) <= 4294967296 * 4294967296 := Nat.mul_le_mul h2 h2
  have : M / 18446744073709551616 = 0 := Nat.div_eq_of_lt (by omega)
  omega
 ·omega
theorem p86 {a X : Nat} (h : a <= 2 ^ 61) (hX : X <= 2 ^ 60) : (a + X) * 8388608 < 2 ^ 86 := by omega
theorem bnd {x y : Int} (hx : Sm x) (hy : Sm y) (h : x ≠ 0 ∨ y ≠ 0) : Bnd x y := by
 have pl0 := pLo_pos h
 obtain ⟨x1, x2⟩ := hx
 obtain ⟨y1, y2⟩ := hy
 unfold MF at x1 x2 y1 y2
 have X : x.natAbs <= 2 ^ 60 := by omega
 have Y : y.natAbs <= 2 ^ 60 := by omega
 have hYN : y.natAbs * y.natAbs <= nrm x y := by unfold nrm; omega
 have N : nrm x y <= 2 ^ 121 := by
  unfold nrm
  have a := Nat.mul_le_mul X X
  have b := Nat.mul_le_mul Y Y
  have e : 2 ^ 60 * 2 ^ 60 + 2 ^ 60 * 2 ^ 60 = 2 ^ 121 := by decide
  omega
 have hi := isq_ok (nrm x y)
 have hc := csq_ok (nrm x y)
 have a : isq (nrm x y) < 2 ^ 61 := Nat.mul_self_lt_mul_self_iff.1 (Nat.lt_of_le_of_lt hi.1 (Nat.lt_of_le_of_lt N (by decide)))
 have b : csq (nrm x y) <= 2 ^ 61 := Nat.le_trans hc.2.2 a
 have hYa : y.natAbs <= isq (nrm x y) := by
  have : y.natAbs < isq (nrm x y) + 1 := Nat.mul_self_lt_mul_self_iff.1 (Nat.lt_of_le_of_lt hYN hi.2)
  omega
 have N' : nrm x y < 2 ^ 124 := Nat.lt_of_le_of_lt N (by decide)
 have pi := isq_ok ((isq (nrm x y) + x.natAbs) * 8388608)
 have pc := csq_ok ((csq (nrm x y) + x.natAbs) * 8388608)
 have pm : isq ((isq (nrm x y) + x.natAbs) * 8388608) <= isq ((csq (nrm x y) + x.natAbs) * 8388608) := isq_mono (Nat.mul_le_mul_right _ (by omega))
 have pi2 := isq_ok ((csq (nrm x y) + x.natAbs) * 8388608)
 have ep : pLo x y = isq ((isq (nrm x y) + x.natAbs) * 8388608) := rfl
 have eh : pHi x y = csq ((csq (nrm x y) + x.natAbs) * 8388608) := rfl
 rw [<- ep] at pi pm
 rw [<- eh] at pc
 clear hi hc
 have pa := p86 (Nat.le_of_lt a) X
 have pb := p86 b X
 have h43 : isq ((csq (nrm x y) + x.natAbs) * 8388608) < 2 ^ 43 := Nat.mul_self_lt_mul_self_iff.1 (Nat.lt_of_le_of_lt pi2.1 (Nat.lt_of_lt_of_le pb (by decide)))
 have hM : y.natAbs * 8388608 < (pLo x y + 1) * (pLo x y + 1) := Nat.lt_of_le_of_lt (Nat.mul_le_mul_right _ (by omega)) pi.2
 have hlh : pLo x y <= pHi x y := Nat.le_trans pm pc.2.1
 have ql := quo_le pl0 hM
 refine ⟨X, Y, N', a, b, Nat.lt_trans pa (by decide), Nat.lt_trans pb (by decide), ⟨pl0, hlh⟩, ?_, hi_lt pl0 hM ?_, ql, Nat.le_trans (Nat.div_le_div_left hlh pl0) ql⟩
 ·have := pc.2.2
  omega
 ·have : y.natAbs * 8388608 <= 2 ^ 60 * 8388608 := Nat.mul_le_mul_right _ Y
  exact Nat.le_trans this (by decide)
end Ab
end
section
open Go Go.Proofs
namespace Ab
set_option maxRecDepth 100000
set_option maxHeartbeats 1000000
theorem parts_walk (x y X Y p1 p2 r1 r2 lo cy hi hx A B u1 u2 v1 v2 pL pH qL qH : Int) (sX : Spec Tryz.prog [] 132 [.int .i64 x] (.int .u64 X)) (sY : Spec Tryz.prog [] 132 [.int .i64 y] (.int .u64 Y))
  (q1 : Spec Tryz.prog [] 110 [.int .u64 X] (.agg [.int .u64 p1, .int .u64 p2])) (q2 : Spec Tryz.prog [] 110 [.int .u64 Y] (.agg [.int .u64 r1, .int .u64 r2]))
  (a1 : Spec Tryz.prog [] 133 [.int .u64 p2, .int .u64 r2, .int .u64 0] (.tup [.int .u64 lo, .int .u64 cy])) (a2 : Spec Tryz.prog [] 133 [.int .u64 p1, .int .u64 r1, .int .u64 cy] (.tup [.int .u64 hi, .int .u64 hx]))
  (s1 : Spec Tryz.prog [] 63 [.agg [.int .u64 hi, .int .u64 lo], .bool false] (.int .i64 A)) (s2 : Spec Tryz.prog [] 63 [.agg [.int .u64 hi, .int .u64 lo], .bool true] (.int .i64 B))
  (h1 : Spec Tryz.prog [] 64 [.int .u64 (IntKind.u64.wrap (IntKind.u64.wrap A + X)), .int .u64 23] (.agg [.int .u64 u1, .int .u64 u2])) (h2 : Spec Tryz.prog [] 64 [.int .u64 (IntKind.u64.wrap (IntKind.u64.wrap B + X)), .int .u64 23] (.agg [.int .u64 v1, .int .u64 v2]))
  (s3 : Spec Tryz.prog [] 63 [.agg [.int .u64 u1, .int .u64 u2], .bool false] (.int .i64 pL)) (s4 : Spec Tryz.prog [] 63 [.agg [.int .u64 v1, .int .u64 v2], .bool true] (.int .i64 pH))
  (k1 : Spec Tryz.prog [] 134 [.int .u64 Y, .int .i64 pH, .bool false] (.int .i64 qL)) (k2 : Spec Tryz.prog [] 134 [.int .u64 Y, .int .i64 pL, .bool true] (.int .i64 qH)) :
  Spec Tryz.prog [] 96 [.int .i64 x, .int .i64 y] (match decide (x < 0) with | true => .tup [Sp.av ⟨qL, qH⟩, Sp.av ⟨pL, pH⟩] | false => .tup [Sp.av ⟨pL, pH⟩, Sp.av ⟨qL, qH⟩]) := by
 by_cases hx : x < 0
 ·rw [decide_eq_true hx]
  refine spec_fn T_ok mixed_ok 1 Tryz.func96 fn_ok96 (by kernel_rfl) ?_
  first | refine Exists.intro _ (And.intro (sX) ?_) | refine Hn_by (Exists.intro _ (And.intro (sX) ?_))
  first | refine Exists.intro _ (And.intro (sY) ?_) | refine Hn_by (Exists.intro _ (And.intro (sY) ?_))
  first | refine Exists.intro _ (And.intro (q1) ?_) | refine Hn_by (Exists.intro _ (And.intro (q1) ?_))
  first | refine Exists.intro _ (And.intro (q2) ?_) | refine Hn_by (Exists.intro _ (And.intro (q2) ?_))
  first | refine Exists.intro _ (And.intro (a1) ?_) | refine Hn_by (Exists.intro _ (And.intro (a1) ?_))
  first | refine Exists.intro _ (And.intro (q1) ?_) | refine Hn_by (Exists.intro _ (And.intro (q1) ?_))
  first | refine Exists.intro _ (And.intro (q2) ?_) | refine Hn_by (Exists.intro _ (And.intro (q2) ?_))
  first | refine Exists.intro _ (And.intro (a2) ?_) | refine Hn_by (Exists.intro _ (And.intro (a2) ?_))
  refine And.intro (by kernel_rfl) ?_
  repeat (first | refine gT ?_ | refine gF ?_ | refine brT ?_ | refine brF ?_ | refine And.intro rfl ?_)
  first | refine Exists.intro _ (And.intro (s1) ?_) | refine Hn_by (Exists.intro _ (And.intro (s1) ?_))
  repeat (first | refine gT ?_ | refine gF ?_ | refine brT ?_ | refine brF ?_ | refine And.intro rfl ?_)
  first | refine Exists.intro _ (And.intro (h1) ?_) | refine Hn_by (Exists.intro _ (And.intro (h1) ?_))
  repeat (first | refine gT ?_ | refine gF ?_ | refine brT ?_ | refine brF ?_ | refine And.intro rfl ?_)
  first | refine Exists.intro _ (And.intro (s3) ?_) | refine Hn_by (Exists.intro _ (And.intro (s3) ?_))
  repeat (first | refine gT ?_ | refine gF ?_ | refine brT ?_ | refine brF ?_ | refine And.intro rfl ?_)
  first | refine Exists.intro _ (And.intro (s2) ?_) | refine Hn_by (Exists.intro _ (And.intro (s2) ?_))
  repeat (first | refine gT ?_ | refine gF ?_ | refine brT ?_ | refine brF ?_ | refine And.intro rfl ?_)
  first | refine Exists.intro _ (And.intro (h2) ?_) | refine Hn_by (Exists.intro _ (And.intro (h2) ?_))
  repeat (first | refine gT ?_ | refine gF ?_ | refine brT ?_ | refine brF ?_ | refine And.intro rfl ?_)
  first | refine Exists.intro _ (And.intro (s4) ?_) | refine Hn_by (Exists.intro _ (And.intro (s4) ?_))
  repeat (first | refine gT ?_ | refine gF ?_ | refine brT ?_ | refine brF ?_ | refine And.intro rfl ?_)
  first | refine Exists.intro _ (And.intro (k1) ?_) | refine Hn_by (Exists.intro _ (And.intro (k1) ?_))
  repeat (first | refine gT ?_ | refine gF ?_ | refine brT ?_ | refine brF ?_ | refine And.intro rfl ?_)
  first | refine Exists.intro _ (And.intro (k2) ?_) | refine Hn_by (Exists.intro _ (And.intro (k2) ?_))
  repeat (first | refine gT ?_ | refine gF ?_ | refine brT ?_ | refine brF ?_ | refine And.intro rfl ?_)
  refine br (fun h => ?_) (fun h => absurd hx h)
  repeat (first | refine gT ?_ | refine gF ?_ | refine brT ?_ | refine brF ?_ | refine And.intro rfl ?_)
  exact And.intro (Or.inr rfl) rfl
 ·rw [decide_eq_false hx]
  refine spec_fn T_ok mixed_ok 1 Tryz.func96 fn_ok96 (by kernel_rfl) ?_
  first | refine Exists.intro _ (And.intro (sX) ?_) | refine Hn_by (Exists.intro _ (And.intro (sX) ?_))
  first | refine Exists.intro _ (And.intro (sY) ?_) | refine Hn_by (Exists.intro _ (And.intro (sY) ?_))
  first | refine Exists.intro _ (And.intro (q1) ?_) | refine Hn_by (Exists.intro _ (And.intro (q1) ?_))
  first | refine Exists.intro _ (And.intro (q2) ?_) | refine Hn_by (Exists.intro _ (And.intro (q2) ?_))
  first | refine Exists.intro _ (And.intro (a1) ?_) | refine Hn_by (Exists.intro _ (And.intro (a1) ?_))
  first | refine Exists.intro _ (And.intro (q1) ?_) | refine Hn_by (Exists.intro _ (And.intro (q1) ?_))
  first | refine Exists.intro _ (And.intro (q2) ?_) | refine Hn_by (Exists.intro _ (And.intro (q2) ?_))
  first | refine Exists.intro _ (And.intro (a2) ?_) | refine Hn_by (Exists.intro _ (And.intro (a2) ?_))
  refine And.intro (by kernel_rfl) ?_
  repeat (first | refine gT ?_ | refine gF ?_ | refine brT ?_ | refine brF ?_ | refine And.intro rfl ?_)
  first | refine Exists.intro _ (And.intro (s1) ?_) | refine Hn_by (Exists.intro _ (And.intro (s1) ?_))
  repeat (first | refine gT ?_ | refine gF ?_ | refine brT ?_ | refine brF ?_ | refine And.intro rfl ?_)
  first | refine Exists.intro _ (And.intro (h1) ?_) | refine Hn_by (Exists.intro _ (And.intro (h1) ?_))
  repeat (first | refine gT ?_ | refine gF ?_ | refine brT ?_ | refine brF ?_ | refine And.intro rfl ?_)
  first | refine Exists.intro _ (And.intro (s3) ?_) | refine Hn_by (Exists.intro _ (And.intro (s3) ?_))
  repeat (first | refine gT ?_ | refine gF ?_ | refine brT ?_ | refine brF ?_ | refine And.intro rfl ?_)
  first | refine Exists.intro _ (And.intro (s2) ?_) | refine Hn_by (Exists.intro _ (And.intro (s2) ?_))
  repeat (first | refine gT ?_ | refine gF ?_ | refine brT ?_ | refine brF ?_ | refine And.intro rfl ?_)
  first | refine Exists.intro _ (And.intro (h2) ?_) | refine Hn_by (Exists.intro _ (And.intro (h2) ?_))
  repeat (first | refine gT ?_ | refine gF ?_ | refine brT ?_ | refine brF ?_ | refine And.intro rfl ?_)
  first | refine Exists.intro _ (And.intro (s4) ?_) | refine Hn_by (Exists.intro _ (And.intro (s4) ?_))
  repeat (first | refine gT ?_ | refine gF ?_ | refine brT ?_ | refine brF ?_ | refine And.intro rfl ?_)
  first | refine Exists.intro _ (And.intro (k1) ?_) | refine Hn_by (Exists.intro _ (And.intro (k1) ?_))
  repeat (first | refine gT ?_ | refine gF ?_ | refine brT ?_ | refine brF ?_ | refine And.intro rfl ?_)
  first | refine Exists.intro _ (And.intro (k2) ?_) | refine Hn_by (Exists.intro _ (And.intro (k2) ?_))
  repeat (first | refine gT ?_ | refine gF ?_ | refine brT ?_ | refine brF ?_ | refine And.intro rfl ?_)
  refine br (fun h => absurd h hx) (fun h => ?_)
  repeat (first | refine gT ?_ | refine gF ?_ | refine brT ?_ | refine brF ?_ | refine And.intro rfl ?_)
  exact And.intro (Or.inr rfl) rfl
theorem add_parts {p r n : Int} (hp : 0 <= p) (hr : 0 <= r) (hn : n = p + r) (h : n < 21267647932558653966460912964485513216) :
  let lo := (p % 18446744073709551616 + r % 18446744073709551616 + 0) % 18446744073709551616
  let cy := (p % 18446744073709551616 + r % 18446744073709551616 + 0) / 18446744073709551616
  let hi := (p / 18446744073709551616 + r / 18446744073709551616 + cy) % 18446744073709551616
  0 <= cy ∧ cy <= 1 ∧ hi = n / 18446744073709551616 ∧ lo = n % 18446744073709551616 := by
 intro lo cy hi
 refine ⟨?_, ?_, ?_, ?_⟩ <;> omega
theorem wrap_sum {A X : Nat} (hA : A <= 2 ^ 61) (hX : X <= 2 ^ 60) : IntKind.u64.wrap (IntKind.u64.wrap (A : Int) + (X : Int)) = ((A + X : Nat) : Int) := by
 rw [u64_mod, u64_mod]; omega
theorem parts_spec (x y : Int) (hx : Sm x) (hy : Sm y) (h : x ≠ 0 ∨ y ≠ 0) : Spec Tryz.prog [] 96 [.int .i64 x, .int .i64 y] (.tup [(reF x y).av, (imF x y).av]) := by
 have B := bnd hx hy h
 have uX : U64 (x.natAbs : Int) := by have := B.X; unfold U64; omega
 have uY : U64 (y.natAbs : Int) := by have := B.Y; unfold U64; omega
 have sX := size_spec x (i64_sm hx)
 have sY := size_spec y (i64_sm hy)
 have q1 := square_spec _ uX
 have q2 := square_spec _ uY
 have pX : (0 : Int) <= (x.natAbs : Int) * (x.natAbs : Int) := Int.mul_nonneg uX.1 uX.1
 have pY : (0 : Int) <= (y.natAbs : Int) * (y.natAbs : Int) := Int.mul_nonneg uY.1 uY.1
 have hn : (nrm x y : Int) = (x.natAbs : Int) * (x.natAbs : Int) + (y.natAbs : Int) * (y.natAbs : Int) := by
  unfold nrm; rw [Int.natCast_add, Int.natCast_mul, Int.natCast_mul]
 have hN : (nrm x y : Int) < 21267647932558653966460912964485513216 := Int.ofNat_lt.2 (Nat.lt_of_lt_of_le B.N (by decide))
 obtain ⟨c0, c1, e1, e2⟩ := add_parts pX pY hn hN
 have s1 := sqrt_spec (nrm x y) false B.N
 have s2 := sqrt_spec (nrm x y) true B.N
 rw [if_neg (by decide)] at s1
 rw [if_pos rfl] at s2
 unfold lg at q1 q2 s1 s2
 rw [<- e1, <- e2] at s1 s2
 have a1 := add64_spec [] ((x.natAbs : Int) * (x.natAbs : Int) % 18446744073709551616) ((y.natAbs : Int) * (y.natAbs : Int) % 18446744073709551616) 0 (Int.emod_nonneg _ (by decide)) (Int.emod_nonneg _ (by decide)) (by decide) (by decide)
 have a2 := add64_spec [] ((x.natAbs : Int) * (x.natAbs : Int) / 18446744073709551616) ((y.natAbs : Int) * (y.natAbs : Int) / 18446744073709551616) _ (Int.ediv_nonneg pX (by decide)) (Int.ediv_nonneg pY (by decide)) c0 c1
 have h1 := shl23_spec (isq (nrm x y) + x.natAbs) (Nat.lt_of_le_of_lt (Nat.add_le_add (Nat.le_of_lt B.a) B.X) (by decide))
 have h2 := shl23_spec (csq (nrm x y) + x.natAbs) (Nat.lt_of_le_of_lt (Nat.add_le_add B.b B.X) (by decide))
 have s3 := sqrt_spec _ false B.pa
 have s4 := sqrt_spec _ true B.pb
 rw [if_neg (by decide)] at s3
 rw [if_pos rfl] at s4
 rw [<- wrap_sum (Nat.le_of_lt B.a) B.X] at h1
 rw [<- wrap_sum B.b B.X] at h2
 have hph := B.ph
 have hpl := B.pl
 have k1 := quo_spec y.natAbs (pHi x y) false (Nat.lt_of_le_of_lt B.Y (by decide)) (Nat.lt_of_lt_of_le B.hl hpl.2) (Nat.lt_trans hph (by decide)) (Nat.lt_of_le_of_lt (Nat.add_le_add_right B.qh 1) (by omega))
 have k2 := quo_spec y.natAbs (pLo x y) true (Nat.lt_of_le_of_lt B.Y (by decide)) B.hl (Nat.lt_of_le_of_lt hpl.2 (Nat.lt_trans hph (by decide))) (Nat.lt_of_le_of_lt (Nat.add_le_add_right B.ql 1) (by omega))
 have w := parts_walk x y _ _ _ _ _ _ _ _ _ _ _ _ _ _ _ _ _ _ _ _ sX sY q1 q2 a1 a2 s1 s2 h1 h2 s3 s4 k1 k2
 unfold reF imF
 by_cases hx0 : x < 0
 ·rw [decide_eq_true hx0] at w
  rw [if_pos hx0, if_pos hx0]
  exact w
 ·rw [decide_eq_false hx0] at w
  rw [if_neg hx0, if_neg hx0]
  exact w
end Ab
end
section
open Go Go.Proofs
namespace Ab
set_option maxRecDepth 100000
set_option maxHeartbeats 1000000
theorem right_walk (xa xb xc xd : Int) (xw : Bool) (P P' Q Q' R R' S S' U U' V V' : Sp) (s1 : Spec Tryz.prog [] 96 [.int .i64 xa, .int .i64 (mx (mx xc (w64 (0 - xd))) 0)] (.tup [P.av, P'.av])) (s2 : Spec Tryz.prog [] 96 [.int .i64 xb, .int .i64 (mx xd (w64 (0 - xc)))] (.tup [Q.av, Q'.av]))
  (o1 : Spec Tryz.prog [] 96 [.int .i64 xa, .int .i64 xd] (.tup [R.av, R'.av])) (i1 : Spec Tryz.prog [] 96 [.int .i64 xb, .int .i64 xd] (.tup [S.av, S'.av]))
  (o2 : Spec Tryz.prog [] 96 [.int .i64 xa, .int .i64 xc] (.tup [U.av, U'.av])) (i2 : Spec Tryz.prog [] 96 [.int .i64 xb, .int .i64 xc] (.tup [V.av, V'.av])) (r : Bx)
  (h1 : xd ≥ 0 -> xc <= 0 -> r = ⟨P.lo, Q.hi, w64 (0 - U'.hi), R'.hi, false⟩) (h2 : xd ≥ 0 -> ¬ xc <= 0 -> r = ⟨P.lo, Q.hi, V'.lo, R'.hi, false⟩)
  (h3 : ¬ xd ≥ 0 -> xc <= 0 -> r = ⟨P.lo, Q.hi, w64 (0 - U'.hi), w64 (0 - S'.lo), false⟩) (h4 : ¬ xd ≥ 0 -> ¬ xc <= 0 -> r = ⟨P.lo, Q.hi, V'.lo, w64 (0 - S'.lo), false⟩) :
  Spec Tryz.prog [] 48 [bx xa xb xc xd xw] r.av := by
 obtain ⟨P1, P2⟩ := P
 obtain ⟨P1', P2'⟩ := P'
 obtain ⟨Q1, Q2⟩ := Q
 obtain ⟨Q1', Q2'⟩ := Q'
 obtain ⟨R1, R2⟩ := R
 obtain ⟨R1', R2'⟩ := R'
 obtain ⟨S1, S2⟩ := S
 obtain ⟨S1', S2'⟩ := S'
 obtain ⟨U1, U2⟩ := U
 obtain ⟨U1', U2'⟩ := U'
 obtain ⟨V1, V2⟩ := V
 obtain ⟨V1', V2'⟩ := V'
 by_cases hd : xd ≥ 0
 ·by_cases hc : xc <= 0
  ·rw [h1 hd hc]
   refine spec_fn T_ok mixed_ok 2 Tryz.func48 fn_ok48 (by kernel_rfl) ?_
   first | refine Exists.intro _ (And.intro (s1) ?_) | refine Hn_by (Exists.intro _ (And.intro (s1) ?_))
   repeat (first | refine gT ?_ | refine gF ?_ | refine brT ?_ | refine brF ?_ | refine And.intro rfl ?_)
   first | refine Exists.intro _ (And.intro (s2) ?_) | refine Hn_by (Exists.intro _ (And.intro (s2) ?_))
   repeat (first | refine gT ?_ | refine gF ?_ | refine brT ?_ | refine brF ?_ | refine And.intro rfl ?_)
   refine br (fun _ => ?_) (fun h => absurd hd h)
   refine Hn_in Tryz.f97 Tryz.func97 fn_ok97 (by kernel_rfl) ?_
   first | refine Exists.intro _ (And.intro (o1) ?_) | refine Hn_by (Exists.intro _ (And.intro (o1) ?_))
   refine And.intro (Or.inr rfl) ?_
   refine br (fun _ => ?_) (fun h => absurd hc h)
   refine Hn_in Tryz.f97 Tryz.func97 fn_ok97 (by kernel_rfl) ?_
   first | refine Exists.intro _ (And.intro (o2) ?_) | refine Hn_by (Exists.intro _ (And.intro (o2) ?_))
   refine And.intro (Or.inr rfl) ?_
   exact And.intro (Or.inr rfl) rfl
  ·rw [h2 hd hc]
   refine spec_fn T_ok mixed_ok 2 Tryz.func48 fn_ok48 (by kernel_rfl) ?_
   first | refine Exists.intro _ (And.intro (s1) ?_) | refine Hn_by (Exists.intro _ (And.intro (s1) ?_))
   repeat (first | refine gT ?_ | refine gF ?_ | refine brT ?_ | refine brF ?_ | refine And.intro rfl ?_)
   first | refine Exists.intro _ (And.intro (s2) ?_) | refine Hn_by (Exists.intro _ (And.intro (s2) ?_))
   repeat (first | refine gT ?_ | refine gF ?_ | refine brT ?_ | refine brF ?_ | refine And.intro rfl ?_)
   refine br (fun _ => ?_) (fun h => absurd hd h)
   refine Hn_in Tryz.f97 Tryz.func97 fn_ok97 (by kernel_rfl) ?_
   first | refine Exists.intro _ (And.intro (o1) ?_) | refine Hn_by (Exists.intro _ (And.intro (o1) ?_))
   refine And.intro (Or.inr rfl) ?_
   refine br (fun h => absurd h hc) (fun _ => ?_)
   refine Hn_in Tryz.f98 Tryz.func98 fn_ok98 (by kernel_rfl) ?_
   first | refine Exists.intro _ (And.intro (i2) ?_) | refine Hn_by (Exists.intro _ (And.intro (i2) ?_))
   refine And.intro (Or.inr rfl) ?_
   exact And.intro (Or.inr rfl) rfl
 ·by_cases hc : xc <= 0
  ·rw [h3 hd hc]
   refine spec_fn T_ok mixed_ok 2 Tryz.func48 fn_ok48 (by kernel_rfl) ?_
   first | refine Exists.intro _ (And.intro (s1) ?_) | refine Hn_by (Exists.intro _ (And.intro (s1) ?_))
   repeat (first | refine gT ?_ | refine gF ?_ | refine brT ?_ | refine brF ?_ | refine And.intro rfl ?_)
   first | refine Exists.intro _ (And.intro (s2) ?_) | refine Hn_by (Exists.intro _ (And.intro (s2) ?_))
   repeat (first | refine gT ?_ | refine gF ?_ | refine brT ?_ | refine brF ?_ | refine And.intro rfl ?_)
   refine br (fun h => absurd h hd) (fun _ => ?_)
   refine Hn_in Tryz.f98 Tryz.func98 fn_ok98 (by kernel_rfl) ?_
   first | refine Exists.intro _ (And.intro (i1) ?_) | refine Hn_by (Exists.intro _ (And.intro (i1) ?_))
   refine And.intro (Or.inr rfl) ?_
   refine br (fun _ => ?_) (fun h => absurd hc h)
   refine Hn_in Tryz.f97 Tryz.func97 fn_ok97 (by kernel_rfl) ?_
   first | refine Exists.intro _ (And.intro (o2) ?_) | refine Hn_by (Exists.intro _ (And.intro (o2) ?_))
   refine And.intro (Or.inr rfl) ?_
   exact And.intro (Or.inr rfl) rfl
  ·rw [h4 hd hc]
   refine spec_fn T_ok mixed_ok 2 Tryz.func48 fn_ok48 (by kernel_rfl) ?_
   first | refine Exists.intro _ (And.intro (s1) ?_) | refine Hn_by (Exists.intro _ (And.intro (s1) ?_))
   repeat (first | refine gT ?_ | refine gF ?_ | refine brT ?_ | refine brF ?_ | refine And.intro rfl ?_)
   first | refine Exists.intro _ (And.intro (s2) ?_) | refine Hn_by (Exists.intro _ (And.intro (s2) ?_))
   repeat (first | refine gT ?_ | refine gF ?_ | refine brT ?_ | refine brF ?_ | refine And.intro rfl ?_)
   refine br (fun h => absurd h hd) (fun _ => ?_)
   refine Hn_in Tryz.f98 Tryz.func98 fn_ok98 (by kernel_rfl) ?_
   first | refine Exists.intro _ (And.intro (i1) ?_) | refine Hn_by (Exists.intro _ (And.intro (i1) ?_))
   refine And.intro (Or.inr rfl) ?_
   refine br (fun h => absurd h hc) (fun _ => ?_)
   refine Hn_in Tryz.f98 Tryz.func98 fn_ok98 (by kernel_rfl) ?_
   first | refine Exists.intro _ (And.intro (i2) ?_) | refine Hn_by (Exists.intro _ (And.intro (i2) ?_))
   refine And.intro (Or.inr rfl) ?_
   exact And.intro (Or.inr rfl) rfl
theorem upper_walk (xa xb xc xd : Int) (xw : Bool) (P P' Q Q' R R' S S' : Sp) (s1 : Spec Tryz.prog [] 96 [.int .i64 xa, .int .i64 xc] (.tup [P.av, P'.av])) (s2 : Spec Tryz.prog [] 96 [.int .i64 xb, .int .i64 xd] (.tup [Q.av, Q'.av]))
  (s3 : Spec Tryz.prog [] 96 [.int .i64 xb, .int .i64 xc] (.tup [R.av, R'.av])) (s4 : Spec Tryz.prog [] 96 [.int .i64 xa, .int .i64 xd] (.tup [S.av, S'.av])) :
  Spec Tryz.prog [] 50 [bx xa xb xc xd xw] (Bx.av ⟨P.lo, Q.hi, R'.lo, S'.hi, false⟩) := by
 obtain ⟨P1, P2⟩ := P
 obtain ⟨P1', P2'⟩ := P'
 obtain ⟨Q1, Q2⟩ := Q
 obtain ⟨Q1', Q2'⟩ := Q'
 obtain ⟨R1, R2⟩ := R
 obtain ⟨R1', R2'⟩ := R'
 obtain ⟨S1, S2⟩ := S
 obtain ⟨S1', S2'⟩ := S'
 refine spec_fn T_ok mixed_ok 1 Tryz.func50 fn_ok50 (by kernel_rfl) ?_
 first | refine Exists.intro _ (And.intro (s1) ?_) | refine Hn_by (Exists.intro _ (And.intro (s1) ?_))
 first | refine Exists.intro _ (And.intro (s2) ?_) | refine Hn_by (Exists.intro _ (And.intro (s2) ?_))
 first | refine Exists.intro _ (And.intro (s3) ?_) | refine Hn_by (Exists.intro _ (And.intro (s3) ?_))
 first | refine Exists.intro _ (And.intro (s4) ?_) | refine Hn_by (Exists.intro _ (And.intro (s4) ?_))
 exact And.intro (Or.inr rfl) rfl
theorem negated_spec (xa xb xc xd : Int) (xw : Bool) : Spec Tryz.prog [] 49 [bx xa xb xc xd xw] (bx (w64 (0 - xb)) (w64 (0 - xa)) (w64 (0 - xd)) (w64 (0 - xc)) false) := by
 refine spec_fn T_ok mixed_ok 1 Tryz.func49 fn_ok49 (by kernel_rfl) ?_
 exact And.intro (Or.inr rfl) rfl
theorem conj_spec (xa xb xc xd : Int) (xw : Bool) : Spec Tryz.prog [] 51 [bx xa xb xc xd xw] (bx xa xb (w64 (0 - xd)) (w64 (0 - xc)) false) := by
 refine spec_fn T_ok mixed_ok 1 Tryz.func51 fn_ok51 (by kernel_rfl) ?_
 exact And.intro (Or.inr rfl) rfl
end Ab
end
