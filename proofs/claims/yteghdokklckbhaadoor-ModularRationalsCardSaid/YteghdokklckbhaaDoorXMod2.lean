import Derived.Test.YteghdokklckbhaaDoorXLawPrime2
/-!
The contracts of Mod, Mul, Pow, Inv at a prime.
-/
open Go Go.Proofs
namespace Ab
set_option maxRecDepth 100000

/-- a usable prime -/
structure Pr (p : Int) : Prop where
  f : primeF p = true
  lo : 3 ≤ p
  hi : p ≤ 2147483647
  prm : Nt.Prm p.toNat
theorem Pr.of {p : Int} (h : primeF p = true) : Pr p := ⟨h, ((primeF_iff p).1 h).1, ((primeF_iff p).1 h).2.1, ((primeF_iff p).1 h).2.2⟩
theorem Pr.mod {p : Int} (h : Pr p) (n : Int) : 0 ≤ n % p ∧ n % p < p := ⟨Int.emod_nonneg _ (by have := h.lo; omega), Int.emod_lt_of_pos _ (by have := h.lo; omega)⟩
def I64 (n : Int) : Prop := -9223372036854775808 ≤ n ∧ n ≤ 9223372036854775807

theorem resF_eq {n p : Int} (h0 : 0 < p) (h1 : p ≤ 2147483648) : resF n p = n % p := by
  have hb : -p < n.tmod p ∧ n.tmod p < p := by
    rcases Int.le_total 0 n with h | h
    · rw [Int.tmod_eq_emod_of_nonneg h]
      have := Int.emod_nonneg n (show p ≠ 0 by omega)
      have := Int.emod_lt_of_pos n h0
      omega
    · rw [show n = -(-n) by omega, Int.neg_tmod, Int.tmod_eq_emod_of_nonneg (by omega)]
      have h2 := Int.emod_nonneg (-n) (show p ≠ 0 by omega)
      have h3 := Int.emod_lt_of_pos (-n) h0
      omega
  have hd : n = n.tmod p + p * n.tdiv p := (Int.tmod_add_mul_tdiv n p).symm
  have e : n % p = (n.tmod p + p) % p := by
    rw [Int.add_emod_right]
    conv => lhs; rw [hd]
    rw [Int.add_mul_emod_self_left]
  unfold resF
  rw [w64_eq (by omega), Int.tmod_eq_emod_of_nonneg (by omega), e]

theorem residue_eq {p : Int} (h : Pr p) (gl : List (Nat × AV)) (n : Int) : Spec Tryd.prog gl 40 [.int .i64 n, .int .i64 p] (.int .i64 (n % p)) := by
  have := residue_spec gl n p (by have := h.lo; omega)
  rwa [show (IntKind.i64.wrap (n.tmod p + p)).tmod p = n % p from resF_eq (by have := h.lo; omega) (by have := h.hi; omega)] at this
theorem times_eq {p : Int} (h : Pr p) (gl : List (Nat × AV)) {a b : Int} (ha : 0 ≤ a ∧ a < p) (hb : 0 ≤ b ∧ b < p) : Spec Tryd.prog gl 33 [.int .i64 a, .int .i64 b, .int .i64 p] (.int .i64 (a * b % p)) := by
  have := times_spec gl a b p (by have := h.lo; omega)
  have h1 := h.hi
  rwa [tm_eq ha.1 hb.1 (by omega) (by omega)] at this
theorem powI_eq {p : Int} (h : Pr p) {a n : Int} (ha : 0 ≤ a ∧ a < p) (hn : 0 ≤ n) (hn2 : n ≤ 9223372036854775807) : powF p a n 1 = a ^ n.toNat % p := by
  have h1 := h.hi; have h2 := h.lo
  rw [powF_eq (by omega) h1 _ a n 1 rfl ha.1 (by omega) hn hn2 (by omega) (by omega)]
  simp
theorem power_eq {p : Int} (h : Pr p) (gl : List (Nat × AV)) {a n : Int} (ha : 0 ≤ a ∧ a < p) (hn : 0 ≤ n) (hn2 : n ≤ 9223372036854775807) : Spec Tryd.prog gl 32 [.int .i64 a, .int .i64 n, .int .i64 p] (.int .i64 (a ^ n.toNat % p)) := by
  have := power_spec gl a n p (by have := h.lo; omega)
  rwa [powI_eq h ha hn hn2] at this
theorem prime_eq {p : Int} (h : Pr p) : Spec Tryd.prog glB4 13 [.int .i64 p] (.bool true) := by
  have := prime_spec p; rwa [h.f] at this

theorem Mod_spec {p : Int} (h : Pr p) (n : Int) : Spec Tryd.prog glB4 19 [.int .i64 n, .int .i64 p] (.tup [.int .i64 (n % p), .int .i64 0]) := by
  refine spec_fn T_ok mixed_ok 0 Tryd.func19 fn_ok19 (by kernel_rfl) ?_
  refine Exists.intro _ (And.intro (prime_eq h) ?_)
  repeat (first | refine gT ?_ | refine gF ?_ | refine brT ?_ | refine brF ?_)
  refine Exists.intro _ (And.intro (residue_eq h glB4 n) ?_)
  exact And.intro (Or.inr rfl) rfl

theorem Mul_spec {p : Int} (h : Pr p) (a b : Int) : Spec Tryd.prog glB4 23 [.int .i64 a, .int .i64 b, .int .i64 p] (.tup [.int .i64 (a * b % p), .int .i64 0]) := by
  have e : a * b % p = (a % p) * (b % p) % p := by rw [mul_emod_l, mul_emod_r]
  rw [e]
  refine spec_fn T_ok mixed_ok 0 Tryd.func23 fn_ok23 (by kernel_rfl) ?_
  refine Exists.intro _ (And.intro (prime_eq h) ?_)
  repeat (first | refine gT ?_ | refine gF ?_ | refine brT ?_ | refine brF ?_)
  refine Exists.intro _ (And.intro (residue_eq h glB4 a) ?_)
  refine Exists.intro _ (And.intro (residue_eq h glB4 b) ?_)
  refine Exists.intro _ (And.intro (times_eq h glB4 (h.mod a) (h.mod b)) ?_)
  exact And.intro (Or.inr rfl) rfl

theorem Pow_spec {p : Int} (h : Pr p) (a : Int) {n : Int} (hn : 0 ≤ n) (hn2 : n ≤ 9223372036854775807) : Spec Tryd.prog glB4 24 [.int .i64 a, .int .i64 n, .int .i64 p] (.tup [.int .i64 (a ^ n.toNat % p), .int .i64 0]) := by
  have e : a ^ n.toNat % p = (a % p) ^ n.toNat % p := (pow_emod a p _).symm
  rw [e]
  refine spec_fn T_ok mixed_ok 0 Tryd.func24 fn_ok24 (by kernel_rfl) ?_
  refine br (fun h1 => absurd h1 (by omega)) (fun _ => ?_)
  refine Exists.intro _ (And.intro (prime_eq h) ?_)
  repeat (first | refine gT ?_ | refine gF ?_ | refine brT ?_ | refine brF ?_)
  refine Exists.intro _ (And.intro (residue_eq h glB4 a) ?_)
  refine Exists.intro _ (And.intro (power_eq h glB4 (h.mod a) hn hn2) ?_)
  exact And.intro (Or.inr rfl) rfl

theorem inverse_eq {p : Int} (h : Pr p) (gl : List (Nat × AV)) {a : Int} (ha : 0 ≤ a ∧ a < p) : Spec Tryd.prog gl 39 [.int .i64 a, .int .i64 p] (.int .i64 (a ^ (p - 2).toNat % p)) := by
  have h1 := h.hi; have h2 := h.lo
  refine spec_fn T_ok mixed_ok 0 Tryd.func39 fn_ok39 (by kernel_rfl) ?_
  have hw : w64 (p - 2) = p - 2 := w64_eq (by omega)
  have hs := power_eq h gl (n := p - 2) ha (by omega) (by omega)
  rw [← hw] at hs
  rw [← hw]
  refine Exists.intro _ (And.intro hs ?_)
  exact And.intro (Or.inr rfl) rfl

theorem Inv_spec {p : Int} (h : Pr p) (a : Int) : Spec Tryd.prog glB4 25 [.int .i64 a, .int .i64 p] (if a % p = 0 then .tup [.int .i64 0, .int .i64 4] else .tup [.int .i64 (a ^ (p - 2).toNat % p), .int .i64 0]) := by
  have h1 := h.hi; have h2 := h.lo
  have ez : a.tmod p = 0 ↔ a % p = 0 := by exact ⟨fun h => Int.emod_eq_zero_of_dvd (Int.dvd_of_tmod_eq_zero h), fun h => Int.tmod_eq_zero_of_dvd (Int.dvd_of_emod_eq_zero h)⟩
  refine spec_fn T_ok mixed_ok 0 Tryd.func25 fn_ok25 (by kernel_rfl) ?_
  refine Exists.intro _ (And.intro (prime_eq h) ?_)
  repeat (first | refine gT ?_ | refine gF ?_ | refine brT ?_ | refine brF ?_)
  refine And.intro (by omega) ?_
  refine brE (fun h3 => ?_) (fun h3 => ?_)
  · rw [if_pos (ez.1 h3)]
    exact And.intro (Or.inr rfl) rfl
  · rw [if_neg (fun h => h3 (ez.2 h))]
    rw [← pow_emod a p]
    refine Exists.intro _ (And.intro (residue_eq h glB4 a) ?_)
    refine Exists.intro _ (And.intro (inverse_eq h glB4 (h.mod a)) ?_)
    exact And.intro (Or.inr rfl) rfl
end Ab
