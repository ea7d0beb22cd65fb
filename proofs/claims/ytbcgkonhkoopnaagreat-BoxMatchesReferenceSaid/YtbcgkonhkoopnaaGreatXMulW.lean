import Derived.Test.YtbcgkonhkoopnaaGreatXMulQ
import Derived.Laws.MathBits
import Derived.Laws.BitsAllLaws
open Go Go.Proofs
namespace Ab
set_option maxRecDepth 100000
def U64 (x : Int) : Prop := 0 <= x ∧ x < 18446744073709551616
theorem shr32m (x : Int) : Int.fdiv x (2 ^ (min ((32 : Int).toNat) IntKind.u64.bits)) = x / 4294967296 := by
 rw [show (2 : Int) ^ (min ((32 : Int).toNat) IntKind.u64.bits) = 4294967296 from by decide]
 exact Int.fdiv_eq_ediv_of_nonneg x (by decide)
theorem u64_mod (z : Int) : IntKind.u64.wrap z = z % 18446744073709551616 := by simp [IntKind.wrap, IntKind.bits, IntKind.signed]
theorem mul64_spec (x y : Int) (hx : U64 x) (hy : U64 y) : Spec Tryz.prog [] 131 [.int .u64 x, .int .u64 y] (.tup [.int .u64 (x * y / 18446744073709551616), .int .u64 (x * y % 18446744073709551616)]) := by
 refine spec_fn T_ok mixed_ok 0 Tryz.func131 fn_ok131 (by kernel_rfl) ?_
 refine And.intro (by decide) ?_
 refine And.intro (by decide) ?_
 refine And.intro (by decide) ?_
 refine And.intro (by decide) ?_
 refine And.intro (by decide) ?_
 refine And.intro (Or.inr rfl) ?_
 refine congrArg AV.tup ?_
 have e2 : Go.bits .and .u64 x 4294967295 = x % 4294967296 := and_low32 x hx.1 hx.2
 have e3 : Go.bits .and .u64 y 4294967295 = y % 4294967296 := and_low32 y hy.1 hy.2
 have a1 := mul64_arith x y hx.1 hx.2 hy.1 hy.2
 have l : ∀ z : Int, 0 <= z % 18446744073709551616 ∧ z % 18446744073709551616 < 18446744073709551616 := fun z => by omega
 simp only [shr32m, e2, e3, u64_mod]
 rw [and_low32 _ (l _).1 (l _).2, a1]
theorem size_spec (n : Int) (h : I64 n) : Spec Tryz.prog [] 132 [.int .i64 n] (.int .u64 (n.natAbs : Int)) := by
 refine spec_fn T_ok mixed_ok 0 Tryz.func132 fn_ok132 (by kernel_rfl) ?_
 refine And.intro (Or.inr rfl) ?_
 refine int_eq ?_
 obtain ⟨h1, h2⟩ := h
 rw [u64_mod]
 by_cases h3 : n = -9223372036854775808
 ·subst h3; decide
 ·rw [show IntKind.i64.wrap (0 - n) = 0 - n from w64_eq (by omega)]
  split <;> omega
theorem bneT {x y : Bool} (h : (bif true then (x != y) else false) = true) : x ≠ y := by cases x <;> cases y <;> simp_all
theorem bneF {x y : Bool} (h : (bif true then (x != y) else false) = false) : x = y := by cases x <;> cases y <;> simp_all
theorem and24 (z : Int) (h : U64 z) : Go.bits .and .u64 z 16777215 = z % 16777216 := by
 obtain ⟨h0, h1⟩ := h
 obtain ⟨k, rfl⟩ := Int.eq_ofNat_of_zero_le h0
 rw [show (16777215 : Int) = ((16777215 : Nat) : Int) from rfl, u64_and_nat k 16777215 (by omega) (by decide)]
 have : k &&& 16777215 = k % 2 ^ 24 := Nat.and_two_pow_sub_one_eq_mod k 24
 rw [this]
 omega
theorem or24 {hi lo : Int} (h1 : 0 <= hi ∧ hi < 16777216) (h2 : U64 lo) :
  Go.bits .or .u64 (IntKind.u64.wrap (hi * 2 ^ (min ((40 : Int).toNat) IntKind.u64.bits))) (Int.fdiv lo (2 ^ (min ((24 : Int).toNat) IntKind.u64.bits))) = hi * 1099511627776 + lo / 16777216 := by
 obtain ⟨g0, g1⟩ := h2
 rw [show (2 : Int) ^ (min ((40 : Int).toNat) IntKind.u64.bits) = 1099511627776 from by decide, show (2 : Int) ^ (min ((24 : Int).toNat) IntKind.u64.bits) = 16777216 from by decide,
  Int.fdiv_eq_ediv_of_nonneg lo (by decide), u64_mod, Int.emod_eq_of_lt (by omega) (by omega)]
 obtain ⟨k, rfl⟩ := Int.eq_ofNat_of_zero_le h1.1
 obtain ⟨l, rfl⟩ := Int.eq_ofNat_of_zero_le g0
 have e1 : (k : Int) * 1099511627776 = ((2 ^ 40 * k : Nat) : Int) := by omega
 have e2 : (l : Int) / 16777216 = ((l / 16777216 : Nat) : Int) := by omega
 rw [e1, e2, u64_or_nat _ _ (by omega) (by omega), <- Nat.two_pow_add_eq_or_of_lt (by omega)]
 omega
theorem scaled_spec (a b : Int) (up : Bool) (ha : I64 a) (hb : I64 b) : Spec Tryz.prog [] 95 [.int .i64 a, .int .i64 b, .bool up] (.int .i64 (scaledF a b up)) := by
 have s1 := size_spec a ha
 have s2 := size_spec b hb
 have ua : U64 (a.natAbs : Int) := by unfold U64; obtain ⟨h1, h2⟩ := ha; omega
 have ub : U64 (b.natAbs : Int) := by unfold U64; obtain ⟨h1, h2⟩ := hb; omega
 have s3 := mul64_spec _ _ ua ub
 unfold scaledF
 dsimp only
 rw [<- Int.natCast_mul] at s3
 generalize (a.natAbs : Int) = x at s1 s3
 generalize (b.natAbs : Int) = y at s2 s3
 have hN : (0 : Int) <= ((a.natAbs * b.natAbs : Nat) : Int) := Int.natCast_nonneg _
 generalize ((a.natAbs * b.natAbs : Nat) : Int) = N at s3 hN ⊢
 have hhi : 0 <= N / 18446744073709551616 := by omega
 have hlo : U64 (N % 18446744073709551616) := by unfold U64; omega
 have hand := and24 _ hlo
 have hrest : N % 18446744073709551616 % 16777216 = N % 16777216 := by omega
 have hor := fun h => or24 (hi := N / 18446744073709551616) ⟨hhi, h⟩ hlo
 generalize hh : N / 18446744073709551616 = hi at s3 hhi hor
 generalize hl : N % 18446744073709551616 = lo at s3 hand hrest hor hlo
 refine spec_fn T_ok mixed_ok 1 Tryz.func95 fn_ok95 (by kernel_rfl) ?_
 first | refine Exists.intro _ (And.intro (s1) ?_) | refine Hn_by (Exists.intro _ (And.intro (s1) ?_))
 first | refine Exists.intro _ (And.intro (s2) ?_) | refine Hn_by (Exists.intro _ (And.intro (s2) ?_))
 first | refine Exists.intro _ (And.intro (s3) ?_) | refine Hn_by (Exists.intro _ (And.intro (s3) ?_))
 have fin : ∀ (q : Int) (hq : q = if N / 16777216 < MF + 1 then N / 16777216 else MF + 1), 0 <= q ∧ q <= 1152921504606846977 ∧ IntKind.i64.wrap q = q ∧ w64 (0 - q) = -q ∧ IntKind.u64.wrap (q + 1) = q + 1 ∧ IntKind.i64.wrap (q + 1) = q + 1 ∧ w64 (0 - (q + 1)) = -(q + 1) := by
  intro q hq
  have b : 0 <= q ∧ q <= 1152921504606846977 := by
   rw [hq]; unfold MF
   split <;> omega
  refine ⟨b.1, b.2, w64_eq (by omega), ?_, ?_, w64_eq (by omega), ?_⟩
  ·rw [w64_eq (by omega)]; omega
  ·rw [u64_mod]; omega
  ·rw [w64_eq (by omega)]; omega
 refine br (fun h1 => ?_) (fun h1 => ?_)
 ·refine And.intro (by decide) ?_
  refine And.intro (by decide) ?_
  have hq : (if Go.bits .or .u64 (IntKind.u64.wrap (hi * 2 ^ (min ((40 : Int).toNat) IntKind.u64.bits))) (Int.fdiv lo (2 ^ (min ((24 : Int).toNat) IntKind.u64.bits))) < 1152921504606846977 then Go.bits .or .u64 (IntKind.u64.wrap (hi * 2 ^ (min ((40 : Int).toNat) IntKind.u64.bits))) (Int.fdiv lo (2 ^ (min ((24 : Int).toNat) IntKind.u64.bits))) else 1152921504606846977) = (if N / 16777216 < MF + 1 then N / 16777216 else MF + 1) := by
   rw [hor h1, show hi * 1099511627776 + lo / 16777216 = N / 16777216 by omega]
   rfl
  have hq := hq
  obtain ⟨b0, b1, f1, f2, f3, f4, f5⟩ := fin _ hq
  refine brN (fun h2 => ?_) (fun h2 => ?_)
  ·have h2' : N % 16777216 ≠ 0 := by rw [<- hrest, <- hand]; exact h2
   repeat (first | refine gT ?_ | refine gF ?_ | refine brT ?_ | refine brF ?_)
   refine brB (fun h3 => ?_) (fun h3 => ?_)
   ·have h3' : (decide (a < 0) != decide (b < 0)) ≠ up := bneT h3
    refine brB (fun h4 => ?_) (fun h4 => ?_)
    ·refine And.intro (Or.inr rfl) (int_eq ?_)
     refine Eq.trans (congrArg (fun z => w64 (0 - IntKind.i64.wrap z)) f3) (Eq.trans (congrArg (fun z => w64 (0 - z)) f4) (Eq.trans f5 ?_))
     rw [if_pos (show N % 16777216 ≠ 0 ∧ (decide (a < 0) != decide (b < 0)) ≠ up from ⟨h2', h3'⟩), hq, h4]
    ·refine And.intro (Or.inr rfl) (int_eq ?_)
     refine Eq.trans (congrArg (fun z => IntKind.i64.wrap z) f3) (Eq.trans f4 ?_)
     rw [if_pos (show N % 16777216 ≠ 0 ∧ (decide (a < 0) != decide (b < 0)) ≠ up from ⟨h2', h3'⟩), hq, h4]
   ·have h3' : ¬ (N % 16777216 ≠ 0 ∧ (decide (a < 0) != decide (b < 0)) ≠ up) := fun h => h.2 (bneF h3)
    refine brB (fun h4 => ?_) (fun h4 => ?_)
    ·refine And.intro (Or.inr rfl) (int_eq ?_)
     refine Eq.trans (congrArg (fun z => w64 (0 - z)) f1) (Eq.trans f2 ?_)
     rw [if_neg h3', hq, h4]
    ·refine And.intro (Or.inr rfl) (int_eq ?_)
     refine Eq.trans f1 ?_
     rw [if_neg h3', hq, h4]
  ·have h3' : ¬ (N % 16777216 ≠ 0 ∧ (decide (a < 0) != decide (b < 0)) ≠ up) := fun h => h.1 (by rw [<- hrest, <- hand]; exact h2)
   repeat (first | refine gT ?_ | refine gF ?_ | refine brT ?_ | refine brF ?_)
   refine brB (fun h4 => ?_) (fun h4 => ?_)
   ·refine And.intro (Or.inr rfl) (int_eq ?_)
    refine Eq.trans (congrArg (fun z => w64 (0 - z)) f1) (Eq.trans f2 ?_)
    rw [if_neg h3', hq, h4]
   ·refine And.intro (Or.inr rfl) (int_eq ?_)
    refine Eq.trans f1 ?_
    rw [if_neg h3', hq, h4]
 ·have hq : (1152921504606846977 : Int) = (if N / 16777216 < MF + 1 then N / 16777216 else MF + 1) := by
   unfold MF
   rw [if_neg (by omega)]
   rfl
  have hq := hq
  obtain ⟨b0, b1, f1, f2, f3, f4, f5⟩ := fin _ hq
  refine brN (fun h2 => ?_) (fun h2 => ?_)
  ·have h2' : N % 16777216 ≠ 0 := by rw [<- hrest, <- hand]; exact h2
   repeat (first | refine gT ?_ | refine gF ?_ | refine brT ?_ | refine brF ?_)
   refine brB (fun h3 => ?_) (fun h3 => ?_)
   ·have h3' : (decide (a < 0) != decide (b < 0)) ≠ up := bneT h3
    refine brB (fun h4 => ?_) (fun h4 => ?_)
    ·refine And.intro (Or.inr rfl) (int_eq ?_)
     refine Eq.trans (congrArg (fun z => w64 (0 - IntKind.i64.wrap z)) f3) (Eq.trans (congrArg (fun z => w64 (0 - z)) f4) (Eq.trans f5 ?_))
     rw [if_pos (show N % 16777216 ≠ 0 ∧ (decide (a < 0) != decide (b < 0)) ≠ up from ⟨h2', h3'⟩), hq, h4]
    ·refine And.intro (Or.inr rfl) (int_eq ?_)
     refine Eq.trans (congrArg (fun z => IntKind.i64.wrap z) f3) (Eq.trans f4 ?_)
     rw [if_pos (show N % 16777216 ≠ 0 ∧ (decide (a < 0) != decide (b < 0)) ≠ up from ⟨h2', h3'⟩), hq, h4]
   ·have h3' : ¬ (N % 16777216 ≠ 0 ∧ (decide (a < 0) != decide (b < 0)) ≠ up) := fun h => h.2 (bneF h3)
    refine brB (fun h4 => ?_) (fun h4 => ?_)
    ·refine And.intro (Or.inr rfl) (int_eq ?_)
     refine Eq.trans (congrArg (fun z => w64 (0 - z)) f1) (Eq.trans f2 ?_)
     rw [if_neg h3', hq, h4]
    ·refine And.intro (Or.inr rfl) (int_eq ?_)
     refine Eq.trans f1 ?_
     rw [if_neg h3', hq, h4]
  ·have h3' : ¬ (N % 16777216 ≠ 0 ∧ (decide (a < 0) != decide (b < 0)) ≠ up) := fun h => h.1 (by rw [<- hrest, <- hand]; exact h2)
   repeat (first | refine gT ?_ | refine gF ?_ | refine brT ?_ | refine brF ?_)
   refine brB (fun h4 => ?_) (fun h4 => ?_)
   ·refine And.intro (Or.inr rfl) (int_eq ?_)
    refine Eq.trans (congrArg (fun z => w64 (0 - z)) f1) (Eq.trans f2 ?_)
    rw [if_neg h3', hq, h4]
   ·refine And.intro (Or.inr rfl) (int_eq ?_)
    refine Eq.trans f1 ?_
    rw [if_neg h3', hq, h4]
end Ab
