import Derived.Test.YtbcgkonhkoopnaaGreatXMulBox
import Derived.Test.YtbcgkonhkoopnaaGreatXRootQ
open Go Go.Proofs
namespace Ab
set_option maxRecDepth 100000
set_option maxHeartbeats 1000000
abbrev lg (n : Int) : AV := .agg [.int .u64 (n / 18446744073709551616), .int .u64 (n % 18446744073709551616)]
theorem square_spec (x : Int) (hx : U64 x) : Spec Tryz.prog [] 110 [.int .u64 x] (lg (x * x)) := by
 have s := mul64_spec x x hx hx
 refine spec_fn T_ok mixed_ok 1 Tryz.func110 fn_ok110 (by kernel_rfl) ?_
 first | refine Exists.intro _ (And.intro (s) ?_) | refine Hn_by (Exists.intro _ (And.intro (s) ?_))
 exact And.intro (Or.inr rfl) rfl
theorem above_spec (a b : Int) : Spec Tryz.prog [] 109 [lg a, lg b] (.bool (decide (a > b))) := by
 refine spec_fn T_ok mixed_ok 1 Tryz.func109 fn_ok109 (by kernel_rfl) ?_
 refine gr (fun h1 => ?_) (fun h1 => ?_)
 ·repeat (first | refine gT ?_ | refine gF ?_ | refine brT ?_ | refine brF ?_)
  refine And.intro (Or.inr rfl) (congrArg AV.bool (decide_eq_true ?_).symm)
  have : a / 18446744073709551616 > b / 18446744073709551616 := h1
  omega
 ·repeat (first | refine gT ?_ | refine gF ?_ | refine brT ?_ | refine brF ?_)
  have h1' : ¬ a / 18446744073709551616 > b / 18446744073709551616 := h1
  refine brE (fun h2 => ?_) (fun h2 => ?_)
  ·repeat (first | refine gT ?_ | refine gF ?_ | refine brT ?_ | refine brF ?_)
   have h2' : a / 18446744073709551616 = b / 18446744073709551616 := h2
   refine And.intro (Or.inr rfl) (congrArg AV.bool (decide_eq_decide.2 ?_))
   show a % 18446744073709551616 > b % 18446744073709551616 ↔ a > b
   omega
  ·repeat (first | refine gT ?_ | refine gF ?_ | refine brT ?_ | refine brF ?_)
   have h2' : a / 18446744073709551616 ≠ b / 18446744073709551616 := h2
   refine And.intro (Or.inr rfl) (congrArg AV.bool (decide_eq_false ?_).symm)
   omega
theorem shifted23_spec (n : Int) (hn : U64 n) : Spec Tryz.prog [] 64 [.int .u64 n, .int .u64 23] (lg (n * 8388608)) := by
 refine spec_fn T_ok mixed_ok 1 Tryz.func64 fn_ok64 (by kernel_rfl) ?_
 refine And.intro (by decide) ?_
 refine And.intro (by decide) ?_
 refine And.intro (Or.inr rfl) ?_
 obtain ⟨h0, h1⟩ := hn
 have e1 : Int.fdiv n (2 ^ (min ((IntKind.u64.wrap (64 - 23)).toNat) IntKind.u64.bits)) = n * 8388608 / 18446744073709551616 := by
  rw [show (2 : Int) ^ (min ((IntKind.u64.wrap (64 - 23)).toNat) IntKind.u64.bits) = 2199023255552 from by decide, Int.fdiv_eq_ediv_of_nonneg n (by decide)]
  omega
 have e2 : IntKind.u64.wrap (n * 2 ^ (min ((23 : Int).toNat) IntKind.u64.bits)) = n * 8388608 % 18446744073709551616 := by
  rw [show (2 : Int) ^ (min ((23 : Int).toNat) IntKind.u64.bits) = 8388608 from by decide, u64_mod]
 refine congrArg AV.agg ?_
 show [AV.int .u64 _, AV.int .u64 _] = _
 rw [e1, e2]
theorem shifted24_spec (n : Int) (hn : U64 n) : Spec Tryz.prog [] 64 [.int .u64 n, .int .u64 24] (lg (n * 16777216)) := by
 refine spec_fn T_ok mixed_ok 1 Tryz.func64 fn_ok64 (by kernel_rfl) ?_
 refine And.intro (by decide) ?_
 refine And.intro (by decide) ?_
 refine And.intro (Or.inr rfl) ?_
 obtain ⟨h0, h1⟩ := hn
 have e1 : Int.fdiv n (2 ^ (min ((IntKind.u64.wrap (64 - 24)).toNat) IntKind.u64.bits)) = n * 16777216 / 18446744073709551616 := by
  rw [show (2 : Int) ^ (min ((IntKind.u64.wrap (64 - 24)).toNat) IntKind.u64.bits) = 1099511627776 from by decide, Int.fdiv_eq_ediv_of_nonneg n (by decide)]
  omega
 have e2 : IntKind.u64.wrap (n * 2 ^ (min ((24 : Int).toNat) IntKind.u64.bits)) = n * 16777216 % 18446744073709551616 := by
  rw [show (2 : Int) ^ (min ((24 : Int).toNat) IntKind.u64.bits) = 16777216 from by decide, u64_mod]
 refine congrArg AV.agg ?_
 show [AV.int .u64 _, AV.int .u64 _] = _
 rw [e1, e2]
def bz (k : Nat) : Nat := if k <= 62 then 2 ^ (62 - k) else 0
theorem bz_next (k : Nat) : bz k / 2 = bz (k + 1) := by
 unfold bz
 by_cases h : k + 1 <= 62
 ·rw [if_pos (by omega), if_pos h, show 62 - k = (62 - (k + 1)) + 1 by omega, Nat.pow_succ, Nat.mul_div_cancel _ (by decide)]
 ·rw [if_neg h]
  by_cases h2 : k <= 62
  ·obtain rfl : k = 62 := by omega
   rfl
  ·rw [if_neg h2]
theorem hshr (k : Nat) : Int.fdiv (bz k : Int) (2 ^ (min ((1 : Int).toNat) IntKind.u64.bits)) = (bz (k + 1) : Int) := by
 rw [show (2 : Int) ^ (min ((1 : Int).toNat) IntKind.u64.bits) = 2 from by decide, Int.fdiv_eq_ediv_of_nonneg _ (by decide), <- bz_next]
 omega
theorem sqrt_spec (n : Nat) (up : Bool) (hn : n < 2 ^ 124) : Spec Tryz.prog [] 63 [lg n, .bool up] (.int .i64 (if up then (csq n : Int) else (isq n : Int))) := by
 refine spec_fn T_ok mixed_ok 1 Tryz.func63 fn_ok63 (by kernel_rfl) ?_
 refine aw_loop (fun x : Nat × Nat => stOf [(1, .bool up), (2, .bp 0 0), (5, .int .u64 (x.2 : Int)), (6, .int .u64 (bz x.1 : Int))]
  [(0, .box [.int .u64 ((n : Int) / 18446744073709551616), .int .u64 ((n : Int) % 18446744073709551616)])] 1)
  (fun x => x.1 <= 63 ∧ (∃ a, x.2 = 2 ^ (63 - x.1) * a) ∧ x.2 * x.2 <= n ∧ n < (x.2 + 2 ^ (63 - x.1)) * (x.2 + 2 ^ (63 - x.1))) (fun x => 63 - x.1) (0, 0) ?_
  (le_by ⟨rfl, rfl, rfl, rfl, trivial⟩ ⟨rfl, trivial⟩ (Nat.le_refl _)) ?_
 ·exact ⟨by decide, ⟨0, rfl⟩, by omega, by simp only; omega⟩
 rintro ⟨k, r⟩ ⟨hk, hr, h1, h2⟩ P hP
 simp only at hk hr h1 h2
 have hr62 : r < 2 ^ 62 := Nat.mul_self_lt_mul_self_iff.1 (Nat.lt_of_le_of_lt h1 (Nat.lt_of_lt_of_le hn (by decide)))
 refine br (fun hb => ?_) (fun hb => ?_)
 ·repeat (first | refine gT ?_ | refine gF ?_ | refine brT ?_ | refine brF ?_)
  have hk' : k <= 62 := by
   have hb' : (bz k : Int) > 0 := hb
   unfold bz at hb'
   by_cases h : k <= 62
   ·exact h
   ·rw [if_neg h] at hb'; omega
  have ebz : bz k = 2 ^ (62 - k) := by unfold bz; rw [if_pos hk']
  have hp : 2 ^ (62 - k) <= 2 ^ 62 := Nat.pow_le_pow_right (by decide) (by omega)
  have h63 : 2 ^ (63 - k) = 2 * 2 ^ (62 - k) := by rw [show 63 - k = (62 - k) + 1 by omega, Nat.pow_succ, Nat.mul_comm]
  have hor : Go.bits .or .u64 (r : Int) (bz k : Int) = ((r + 2 ^ (62 - k) : Nat) : Int) := by
   obtain ⟨a, rfl⟩ := hr
   rw [ebz, u64_or_nat _ _ (by omega) (by omega)]
   congr 1
   exact (Nat.two_pow_add_eq_or_of_lt (by rw [h63]; have : 0 < 2 ^ (62 - k) := Nat.pow_pos (by decide); omega) a).symm
  have hU : U64 (Go.bits .or .u64 (r : Int) (bz k : Int)) := by rw [hor]; unfold U64; omega
  refine And.intro (by kernel_rfl) ?_
  repeat (first | refine gT ?_ | refine gF ?_ | refine brT ?_ | refine brF ?_ | refine And.intro rfl ?_)
  first | refine Exists.intro _ (And.intro (square_spec _ hU) ?_) | refine Hn_by (Exists.intro _ (And.intro (square_spec _ hU) ?_))
  repeat (first | refine gT ?_ | refine gF ?_ | refine brT ?_ | refine brF ?_ | refine And.intro rfl ?_)
  first | refine Exists.intro _ (And.intro (above_spec _ (n : Int)) ?_) | refine Hn_by (Exists.intro _ (And.intro (above_spec _ (n : Int)) ?_))
  repeat (first | refine gT ?_ | refine gF ?_ | refine brT ?_ | refine brF ?_ | refine And.intro rfl ?_)
  have hsq : Go.bits .or .u64 (r : Int) (bz k : Int) * Go.bits .or .u64 (r : Int) (bz k : Int) = (((r + 2 ^ (62 - k)) * (r + 2 ^ (62 - k)) : Nat) : Int) := by rw [hor, Int.natCast_mul]
  refine brB (fun hc => ?_) (fun hc => ?_)
  ·have hc' : (r + 2 ^ (62 - k)) * (r + 2 ^ (62 - k)) <= n := by
    have : ¬ (Go.bits .or .u64 (r : Int) (bz k : Int) * Go.bits .or .u64 (r : Int) (bz k : Int) > (n : Int)) := by simpa using hc
    rw [hsq] at this
    omega
   refine And.intro (by decide) ?_
   refine hP (k + 1, r + 2 ^ (62 - k)) _ (le_by ⟨rfl, rfl, int_eq hor, int_eq (hshr _), trivial⟩ ⟨rfl, trivial⟩ (Nat.le_refl _)) ⟨by omega, ?_, hc', ?_⟩ (by simp only; omega)
   ·obtain ⟨a, ha⟩ := hr
    refine ⟨2 * a + 1, ?_⟩
    show r + 2 ^ (62 - k) = 2 ^ (63 - (k + 1)) * (2 * a + 1)
    rw [show 63 - (k + 1) = 62 - k by omega, ha, h63, Nat.mul_add, Nat.mul_one, <- Nat.mul_assoc, Nat.mul_comm 2 (2 ^ (62 - k))]
   ·show n < (r + 2 ^ (62 - k) + 2 ^ (63 - (k + 1))) * (r + 2 ^ (62 - k) + 2 ^ (63 - (k + 1)))
    rw [show 63 - (k + 1) = 62 - k by omega, show r + 2 ^ (62 - k) + 2 ^ (62 - k) = r + 2 ^ (63 - k) by omega]
    exact h2
  ·have hc' : n < (r + 2 ^ (62 - k)) * (r + 2 ^ (62 - k)) := by
    have : (Go.bits .or .u64 (r : Int) (bz k : Int) * Go.bits .or .u64 (r : Int) (bz k : Int) > (n : Int)) := by simpa using hc
    rw [hsq] at this
    omega
   refine And.intro (by decide) ?_
   refine hP (k + 1, r) _ (le_by ⟨rfl, rfl, rfl, int_eq (hshr _), trivial⟩ ⟨rfl, trivial⟩ (Nat.le_refl _)) ⟨by omega, ?_, h1, ?_⟩ (by simp only; omega)
   ·obtain ⟨a, ha⟩ := hr
    refine ⟨2 * a, ?_⟩
    show r = 2 ^ (63 - (k + 1)) * (2 * a)
    rw [show 63 - (k + 1) = 62 - k by omega, ha, h63, <- Nat.mul_assoc, Nat.mul_comm 2 (2 ^ (62 - k))]
   ·show n < (r + 2 ^ (63 - (k + 1))) * (r + 2 ^ (63 - (k + 1)))
    rw [show 63 - (k + 1) = 62 - k by omega]
    exact hc'
 ·clear hP
  repeat (first | refine gT ?_ | refine gF ?_ | refine brT ?_ | refine brF ?_)
  have hk' : k = 63 := by
   have hb' : ¬ (bz k : Int) > 0 := hb
   unfold bz at hb'
   by_cases h : k <= 62
   ·rw [if_pos h] at hb'
    have : 0 < 2 ^ (62 - k) := Nat.pow_pos (by decide)
    omega
   ·omega
  subst hk'
  clear hb hr hk
  have hr : r = isq n := isq_uniq h1 (by simpa using h2)
  subst hr
  clear h1 h2
  generalize hq : isq n = r at hr62
  have hU : U64 (r : Int) := by unfold U64; omega
  have hi1 : IntKind.i64.wrap (r : Int) = r := w64_eq (by omega)
  have hi2 : IntKind.u64.wrap ((r : Int) + 1) = (r : Int) + 1 := by rw [u64_mod]; omega
  have hi3 : IntKind.i64.wrap ((r : Int) + 1) = (r : Int) + 1 := w64_eq (by omega)
  cases up with
  | false =>
   refine And.intro (by kernel_rfl) ?_
   repeat (first | refine gT ?_ | refine gF ?_ | refine brT ?_ | refine brF ?_ | refine And.intro rfl ?_)
   refine And.intro (Or.inr rfl) (int_eq hi1)
  | true =>
   refine And.intro (by kernel_rfl) ?_
   repeat (first | refine gT ?_ | refine gF ?_ | refine brT ?_ | refine brF ?_ | refine And.intro rfl ?_)
   first | refine Exists.intro _ (And.intro (square_spec _ hU) ?_) | refine Hn_by (Exists.intro _ (And.intro (square_spec _ hU) ?_))
   repeat (first | refine gT ?_ | refine gF ?_ | refine brT ?_ | refine brF ?_ | refine And.intro rfl ?_)
   refine brB (fun hc => ?_) (fun hc => ?_)
   ·refine And.intro (Or.inr rfl) (int_eq ?_)
    have hne : r * r ≠ n := by
     intro e
     have e' : (r : Int) * r = n := by rw [<- Int.natCast_mul, e]
     simp [e'] at hc
    have e : csq n = r + 1 := by unfold csq; rw [hq, if_neg hne]
    refine Eq.trans (congrArg IntKind.i64.wrap hi2) (Eq.trans hi3 ?_)
    rw [if_pos rfl, e]
    omega
   ·refine And.intro (Or.inr rfl) (int_eq ?_)
    have heq : r * r = n := by
     simp at hc
     have e' : (r : Int) * r = n := by omega
     rw [<- Int.natCast_mul] at e'
     omega
    have e : csq n = r := by unfold csq; rw [hq, if_pos heq]
    refine Eq.trans hi1 ?_
    rw [if_pos rfl, e]
theorem isqrt_spec (n : Int) (hn : I64 n) : Spec Tryz.prog [] 24 [.int .i64 n] (.int .i64 (if n < 0 then 0 else (isq (n.toNat * 16777216) : Int))) := by
 obtain ⟨h1, h2⟩ := hn
 by_cases h : n < 0
 ·rw [if_pos h]
  refine spec_fn T_ok mixed_ok 1 Tryz.func24 fn_ok24 (by kernel_rfl) ?_
  refine br (fun _ => ?_) (fun g => absurd h g)
  exact And.intro (Or.inr rfl) rfl
 ·rw [if_neg h]
  have e : IntKind.u64.wrap n = n := by rw [u64_mod]; omega
  have s1 := shifted24_spec n ⟨by omega, by omega⟩
  have s2 := sqrt_spec (n.toNat * 16777216) false (by omega)
  rw [show ((n.toNat * 16777216 : Nat) : Int) = n * 16777216 by omega, if_neg (by decide)] at s2
  generalize (isq (n.toNat * 16777216) : Int) = r at s2 ⊢
  refine spec_fn T_ok mixed_ok 1 Tryz.func24 fn_ok24 (by kernel_rfl) ?_
  refine br (fun g => absurd g h) (fun _ => ?_)
  rw [<- e] at s1
  first | refine Exists.intro _ (And.intro (s1) ?_) | refine Hn_by (Exists.intro _ (And.intro (s1) ?_))
  rw [e]
  first | refine Exists.intro _ (And.intro (s2) ?_) | refine Hn_by (Exists.intro _ (And.intro (s2) ?_))
  exact And.intro (Or.inr rfl) rfl
end Ab
