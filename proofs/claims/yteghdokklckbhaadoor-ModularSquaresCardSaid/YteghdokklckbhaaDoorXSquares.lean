import Derived.Test.YteghdokklckbhaaDoorXSqrt
import Derived.Test.YteghdokklckbhaaDoorXField
/-!
The walk of ModularSquares.
-/
open Go Go.Proofs
namespace Ab
set_option maxRecDepth 100000

theorem gK {b : Bool} {A B : Prop} (hb : b = false) (h : A) : (b = false → A) ∧ (b = true → B) := ⟨fun _ => h, fun e => by rw [hb] at e; cases e⟩
theorem gL {b : Bool} {A B : Prop} (hb : b = true) (h : B) : (b = false → A) ∧ (b = true → B) := ⟨fun e => (by rw [hb] at e; cases e), fun _ => h⟩

/-- what Sqrt answers -/
def SqR (p : Int) (m : Nat) (a r : Int) (is : Bool) : Prop :=
  (a % p = 0 ∧ r = 0 ∧ is = true) ∨ (a % p ≠ 0 ∧ (a % p) ^ m % p = p - 1 ∧ r = 0 ∧ is = false) ∨ (a % p ≠ 0 ∧ (a % p) ^ m % p = 1 ∧ is = true ∧ 1 ≤ r ∧ 2 * r < p ∧ p ∣ r * r - a % p)

theorem half_res {p : Int} (h : Pr p) {m : Nat} (hm : p = 2 * m + 1) {a : Int} (ha : a % p ≠ 0) : (a % p) ^ m % p = 1 ∨ (a % p) ^ m % p = p - 1 := by
  have h2 := h.lo
  have hx := h.mod a
  rcases Nt.half_pow h.pi hm (Nt.small_dvd ha (by omega) (by omega)) with hd | hd
  · left
    rw [Nt.emod_eq_of_dvd hd, Int.emod_eq_of_lt (by decide) (by omega)]
  · right
    have : p ∣ (a % p) ^ m - (p - 1) := by
      have := Int.dvd_sub hd (Int.dvd_refl p)
      rwa [show (a % p) ^ m + 1 - p = (a % p) ^ m - (p - 1) by omega] at this
    rw [Nt.emod_eq_of_dvd this, Int.emod_eq_of_lt (by omega) (by omega)]
theorem SqR.ex {p : Int} (h : Pr p) {m : Nat} (hm : p = 2 * m + 1) (a : Int) : ∃ r is, SqR p m a r is := by
  have h2 := h.lo
  by_cases ha : a % p = 0
  · exact ⟨0, true, .inl ⟨ha, rfl, rfl⟩⟩
  · rcases half_res h hm ha with he | he
    · have hd : p ∣ (a % p) ^ m - 1 := by
        have := Int.emod_add_mul_ediv ((a % p) ^ m) p
        exact ⟨(a % p) ^ m / p, by omega⟩
      obtain ⟨s, s1, s2, s3⟩ := Nt.euler h.pi hm hd
      exact ⟨s, true, .inr (.inr ⟨ha, he, rfl, s1, by omega, s3⟩)⟩
    · exact ⟨0, false, .inr (.inl ⟨ha, he, rfl, rfl⟩)⟩
theorem SqR.isF {p : Int} (h : Pr p) {m : Nat} (hm : p = 2 * m + 1) {a r : Int} {is : Bool} (hs : SqR p m a r is) : (is = true ∧ (a % p) ^ m % p ≠ p - 1 ∧ r * r % p = a % p ∧ 0 ≤ r ∧ 2 * r < p) ∨ (is = false ∧ (a % p) ^ m % p = p - 1 ∧ r = 0) := by
  have h2 := h.lo
  rcases hs with ⟨g1, rfl, rfl⟩ | ⟨g1, g2, rfl, rfl⟩ | ⟨g1, g2, rfl, g3, g4, g5⟩
  · left
    refine ⟨rfl, ?_, by simp [g1], by omega, by omega⟩
    obtain ⟨k, rfl⟩ : ∃ k, m = k + 1 := ⟨m - 1, by omega⟩
    rw [g1, Int.pow_succ, Int.mul_zero, Int.zero_emod]; omega
  · exact .inr ⟨rfl, g2, rfl⟩
  · left
    refine ⟨rfl, by omega, ?_, by omega, g4⟩
    rw [Nt.emod_eq_of_dvd g5, Int.emod_emod_of_dvd _ (Int.dvd_refl p)]

theorem half_mul {p : Int} (m : Nat) (a b : Int) : (a * b % p) ^ m % p = ((a % p) ^ m % p) * ((b % p) ^ m % p) % p := by
  rw [pow_emod, Int.mul_pow, Int.mul_emod, ← pow_emod a, ← pow_emod b]
/-- the product's root -/
theorem SqR.prod {p : Int} (h : Pr p) {m : Nat} (hm : p = 2 * m + 1) {a b r s t : Int} {ia ib ic : Bool} (ha : SqR p m a r ia) (hb : SqR p m b s ib) (hc : SqR p m (a * b % p) t ic) :
    (a * b % p = 0 → ic = true) ∧ (a * b % p ≠ 0 → ic = (ia == ib)) := by
  have h2 := h.lo
  have hmm : a * b % p % p = a * b % p := Int.emod_emod_of_dvd _ (Int.dvd_refl p)
  constructor
  · intro hz
    rcases hc with hc | hc | hc
    · exact hc.2.2
    · exact absurd (hmm.trans hz) hc.1
    · exact hc.2.2.1
  · intro hz
    have ha0 : a % p ≠ 0 := fun e => hz (by rw [Int.mul_emod, e]; simp)
    have hb0 : b % p ≠ 0 := fun e => hz (by rw [Int.mul_emod, e]; simp)
    have hh := half_mul (p := p) m a b
    rw [← hmm] at hh
    have hne : ∀ {x y : Int} {i : Bool}, SqR p m x y i → x % p ≠ 0 → ((x % p) ^ m % p = 1 ∧ i = true) ∨ ((x % p) ^ m % p = p - 1 ∧ i = false) := by
      intro x y i hx hx0
      rcases hx with hx | hx | hx
      · exact absurd hx.1 hx0
      · exact .inr ⟨hx.2.1, hx.2.2.2⟩
      · exact .inl ⟨hx.2.1, hx.2.2.1⟩
    have e1 : (1 : Int) * 1 % p = 1 := Int.emod_eq_of_lt (by decide) (by omega)
    have e2 : (1 : Int) * (p - 1) % p = p - 1 := by rw [Int.one_mul]; exact Int.emod_eq_of_lt (by omega) (by omega)
    have e3 : (p - 1) * 1 % p = p - 1 := by rw [Int.mul_one]; exact Int.emod_eq_of_lt (by omega) (by omega)
    have e4 : (p - 1) * (p - 1) % p = 1 := by
      have : p ∣ (p - 1) * (p - 1) - 1 := ⟨p - 2, by grind⟩
      rw [Nt.emod_eq_of_dvd this]; exact Int.emod_eq_of_lt (by decide) (by omega)
    rcases hne hc (by rw [hmm]; exact hz) with ⟨c1, rfl⟩ | ⟨c1, rfl⟩ <;> rcases hne ha ha0 with ⟨a1, rfl⟩ | ⟨a1, rfl⟩ <;> rcases hne hb hb0 with ⟨b1, rfl⟩ | ⟨b1, rfl⟩ <;> first
      | rfl
      | (exfalso; rw [c1, a1, b1] at hh; omega)


theorem squares_walk {p : Int} (h : Pr p) (a b p0 : Int) (hp0 : I64 p0) (hp : lawP p0 = p) : Spec Tryd.prog glB4 8 [.int .i64 a, .int .i64 b, .int .i64 p0] (.bool true) := by
  have h1 := h.hi; have h2 := h.lo
  have hpr := lawPrime_spec glB4 p0 hp0.1 hp0.2
  rw [hp] at hpr
  obtain ⟨m, hm⟩ : ∃ m : Nat, p = 2 * m + 1 := by
    have hodd : p % 2 = 1 := by
      have := h.prm.2 2
      rcases Int.emod_two_eq p with e | e
      · exfalso
        have hd : 2 ∣ p.toNat := by omega
        rcases this hd with h | h <;> omega
      · exact e
    exact ⟨((p - 1) / 2).toNat, by omega⟩
  obtain ⟨ra, ia, hqa⟩ := SqR.ex h hm a
  obtain ⟨rb, ib, hqb⟩ := SqR.ex h hm b
  obtain ⟨rc, ic, hqc⟩ := SqR.ex h hm (a * b % p)
  have hprod := hqa.prod h hm hqb hqc
  have hw2 : w64 (p - 1) = p - 1 := w64_eq (by omega)
  have hw1 : w64 ((w64 (p - 1)).tdiv 2) = m := by
    rw [hw2, Int.tdiv_eq_ediv_of_nonneg (by omega), w64_eq (by omega)]; omega
  have hpow : ∀ n : Int, Spec Tryd.prog glB4 24 [.int .i64 n, .int .i64 (w64 ((w64 (p - 1)).tdiv 2)), .int .i64 p] (.tup [.int .i64 ((n % p) ^ m % p), .int .i64 0]) := fun n => by
    have := Pow_spec h n (n := w64 ((w64 (p - 1)).tdiv 2)) (by omega) (by omega)
    rwa [show (w64 ((w64 (p - 1)).tdiv 2)).toNat = m by omega, ← pow_emod n] at this
  refine spec_fn T_ok mixed_ok 0 Tryd.func8 fn_ok8 (by kernel_rfl) ?_
  first | refine Exists.intro _ (And.intro (sane_spec) ?_) | refine Hn_by (Exists.intro _ (And.intro (sane_spec) ?_))
  repeat (first | refine gT ?_ | refine gF ?_ | refine brT ?_ | refine brF ?_)
  first | refine Exists.intro _ (And.intro (hpr) ?_) | refine Hn_by (Exists.intro _ (And.intro (hpr) ?_))
  refine aw_loop (fun q : Nat × List AV => stOf [(0, .int .i64 a), (1, .int .i64 b), (2, .int .i64 p), (7, .bp 0 0), (30, .ms 1 0 2), (31, .int .i64 2), (32, .int .i64 (q.1 : Int))] [(0, .box q.2), (1, .arr (3, 1) [[.int .i64 a], [.int .i64 b]] true)] 2)
    (fun q => q = (0, [.bool false, .bool false]) ∨ q = (1, [.bool ia, .bool false]) ∨ q = (2, [.bool ia, .bool ib])) (fun q => 2 - q.1) (0, [.bool false, .bool false]) (.inl rfl)
    (le_by ⟨rfl, rfl, rfl, rfl, rfl, rfl, rfl, trivial⟩ ⟨rfl, rfl, trivial⟩ (Nat.le_refl _)) ?_
  rintro q hq P hP
  rcases hq with rfl | rfl | rfl
  ·
    refine br (fun _ => ?_) (fun hh => absurd (show ((0 : Nat) : Int) < 2 by decide) hh)
    refine And.intro (show (0 : Int) ≤ ((0 : Nat) : Int) by decide) (And.intro (show ((0 : Nat) : Int) < 2 by decide) ?_)
    refine Exists.intro _ (And.intro rfl ?_)
    first | refine Exists.intro _ (And.intro (Sqrt_spec h hm a ra ia hqa) ?_) | refine Hn_by (Exists.intro _ (And.intro (Sqrt_spec h hm a ra ia hqa) ?_))
    refine And.intro (show (2 : Int) ≠ 0 by decide) ?_
    first | refine Exists.intro _ (And.intro (hpow a) ?_) | refine Hn_by (Exists.intro _ (And.intro (hpow a) ?_))
    first | refine Exists.intro _ (And.intro (Mul_spec h ra ra) ?_) | refine Hn_by (Exists.intro _ (And.intro (Mul_spec h ra ra) ?_))
    first | refine Exists.intro _ (And.intro (Mod_spec h a) ?_) | refine Hn_by (Exists.intro _ (And.intro (Mod_spec h a) ?_))
    repeat (first | refine gT ?_ | refine gF ?_ | refine brT ?_ | refine brF ?_)
    rcases SqR.isF h hm hqa with ⟨rfl, f1, f2, f3, f4⟩ | ⟨rfl, f1, rfl⟩
    · refine gK (show (true == ((a % p) ^ m % p == w64 (p - 1))) = false by rw [hw2]; simpa using f1) ?_
      repeat (first | refine gT ?_ | refine gF ?_ | refine brT ?_ | refine brF ?_)
      refine grN (fun hh => absurd f2 hh) (fun _ => ?_)
      repeat (first | refine gT ?_ | refine gF ?_ | refine brT ?_ | refine brF ?_)
      refine gr (fun hh => absurd hh (by omega)) (fun _ => ?_)
      repeat (first | refine gT ?_ | refine gF ?_ | refine brT ?_ | refine brF ?_)
      have hw4 : w64 (2 * ra) = 2 * ra := w64_eq (by omega)
      refine gr (fun hh => absurd (show w64 (2 * ra) ≥ p from hh) (by omega)) (fun _ => ?_)
      repeat (first | refine gT ?_ | refine gF ?_ | refine brT ?_ | refine brF ?_)
      refine And.intro (show (0 : Int) ≤ ((0 : Nat) : Int) by decide) (And.intro (show ((0 : Nat) : Int) < 2 by decide) ?_)
      exact hP (0 + 1, [.bool _, .bool false]) _ (le_by ⟨rfl, rfl, rfl, rfl, rfl, rfl, rfl, trivial⟩ ⟨rfl, rfl, trivial⟩ (Nat.le_refl _)) (.inr (.inl rfl)) (by show 2 - (0 + 1) < 2 - 0; decide)
    · refine gK (show (false == ((a % p) ^ m % p == w64 (p - 1))) = false by rw [hw2, f1]; simp) ?_
      repeat (first | refine gT ?_ | refine gF ?_ | refine brT ?_ | refine brF ?_)
      refine And.intro (show (0 : Int) ≤ ((0 : Nat) : Int) by decide) (And.intro (show ((0 : Nat) : Int) < 2 by decide) ?_)
      exact hP (0 + 1, [.bool _, .bool false]) _ (le_by ⟨rfl, rfl, rfl, rfl, rfl, rfl, rfl, trivial⟩ ⟨rfl, rfl, trivial⟩ (Nat.le_refl _)) (.inr (.inl rfl)) (by show 2 - (0 + 1) < 2 - 0; decide)
  ·
    refine br (fun _ => ?_) (fun hh => absurd (show ((1 : Nat) : Int) < 2 by decide) hh)
    refine And.intro (show (0 : Int) ≤ ((1 : Nat) : Int) by decide) (And.intro (show ((1 : Nat) : Int) < 2 by decide) ?_)
    refine Exists.intro _ (And.intro rfl ?_)
    first | refine Exists.intro _ (And.intro (Sqrt_spec h hm b rb ib hqb) ?_) | refine Hn_by (Exists.intro _ (And.intro (Sqrt_spec h hm b rb ib hqb) ?_))
    refine And.intro (show (2 : Int) ≠ 0 by decide) ?_
    first | refine Exists.intro _ (And.intro (hpow b) ?_) | refine Hn_by (Exists.intro _ (And.intro (hpow b) ?_))
    first | refine Exists.intro _ (And.intro (Mul_spec h rb rb) ?_) | refine Hn_by (Exists.intro _ (And.intro (Mul_spec h rb rb) ?_))
    first | refine Exists.intro _ (And.intro (Mod_spec h b) ?_) | refine Hn_by (Exists.intro _ (And.intro (Mod_spec h b) ?_))
    repeat (first | refine gT ?_ | refine gF ?_ | refine brT ?_ | refine brF ?_)
    rcases SqR.isF h hm hqb with ⟨rfl, f1, f2, f3, f4⟩ | ⟨rfl, f1, rfl⟩
    · refine gK (show (true == ((b % p) ^ m % p == w64 (p - 1))) = false by rw [hw2]; simpa using f1) ?_
      repeat (first | refine gT ?_ | refine gF ?_ | refine brT ?_ | refine brF ?_)
      refine grN (fun hh => absurd f2 hh) (fun _ => ?_)
      repeat (first | refine gT ?_ | refine gF ?_ | refine brT ?_ | refine brF ?_)
      refine gr (fun hh => absurd hh (by omega)) (fun _ => ?_)
      repeat (first | refine gT ?_ | refine gF ?_ | refine brT ?_ | refine brF ?_)
      have hw4 : w64 (2 * rb) = 2 * rb := w64_eq (by omega)
      refine gr (fun hh => absurd (show w64 (2 * rb) ≥ p from hh) (by omega)) (fun _ => ?_)
      repeat (first | refine gT ?_ | refine gF ?_ | refine brT ?_ | refine brF ?_)
      refine And.intro (show (0 : Int) ≤ ((1 : Nat) : Int) by decide) (And.intro (show ((1 : Nat) : Int) < 2 by decide) ?_)
      exact hP (1 + 1, [.bool _, .bool _]) _ (le_by ⟨rfl, rfl, rfl, rfl, rfl, rfl, rfl, trivial⟩ ⟨rfl, rfl, trivial⟩ (Nat.le_refl _)) (.inr (.inr rfl)) (by show 2 - (1 + 1) < 2 - 1; decide)
    · refine gK (show (false == ((b % p) ^ m % p == w64 (p - 1))) = false by rw [hw2, f1]; simp) ?_
      repeat (first | refine gT ?_ | refine gF ?_ | refine brT ?_ | refine brF ?_)
      refine And.intro (show (0 : Int) ≤ ((1 : Nat) : Int) by decide) (And.intro (show ((1 : Nat) : Int) < 2 by decide) ?_)
      exact hP (1 + 1, [.bool _, .bool _]) _ (le_by ⟨rfl, rfl, rfl, rfl, rfl, rfl, rfl, trivial⟩ ⟨rfl, rfl, trivial⟩ (Nat.le_refl _)) (.inr (.inr rfl)) (by show 2 - (1 + 1) < 2 - 1; decide)
  · clear hP
    refine br (fun hh => absurd (show ((2 : Nat) : Int) < 2 from hh) (by decide)) (fun _ => ?_)
    first | refine Exists.intro _ (And.intro (Mul_spec h a b) ?_) | refine Hn_by (Exists.intro _ (And.intro (Mul_spec h a b) ?_))
    first | refine Exists.intro _ (And.intro (Sqrt_spec h hm (a * b % p) rc ic hqc) ?_) | refine Hn_by (Exists.intro _ (And.intro (Sqrt_spec h hm (a * b % p) rc ic hqc) ?_))
    repeat (first | refine gT ?_ | refine gF ?_ | refine brT ?_ | refine brF ?_)
    refine brE (fun hz => ?_) (fun hz => ?_)
    · repeat (first | refine gT ?_ | refine gF ?_ | refine brT ?_ | refine brF ?_)
      refine And.intro (Or.inr rfl) ?_
      rw [hprod.1 hz]; exact rfl
    · refine And.intro (show (0 : Int) ≤ 0 by decide) (And.intro (show (0 : Int) < 2 by decide) ?_)
      refine And.intro (show (0 : Int) ≤ 1 by decide) (And.intro (show (1 : Int) < 2 by decide) ?_)
      refine And.intro (Or.inr rfl) ?_
      show AV.bool (ic == (ia == ib)) = AV.bool true
      rw [hprod.2 hz]; cases ia <;> cases ib <;> rfl

theorem squares_spec (a b p0 : Int) (_ha : (Lit.int .i64 a).wf = true) (_hb : (Lit.int .i64 b).wf = true) (hp : (Lit.int .i64 p0).wf = true) :
    Spec Tryd.prog glB4 8 [.int .i64 a, .int .i64 b, .int .i64 p0] (.bool true) :=
  squares_walk (Pr.of (lawP_prime p0 (wf_I64 hp).1 (wf_I64 hp).2)) a b p0 (wf_I64 hp) rfl
end Ab
