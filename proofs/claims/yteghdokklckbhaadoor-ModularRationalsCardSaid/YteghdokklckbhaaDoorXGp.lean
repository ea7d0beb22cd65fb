import Derived.Test.YteghdokklckbhaaDoorXPlain
import Derived.Test.YteghdokklckbhaaDoorXPsiEnd
section
/-!
modular.Prime tells the primes.
-/
open Go
namespace Ab

theorem strongF_str {n : Nat} (hn : 3 ≤ n) (hn2 : n ≤ 2147483647) {b : Nat} (hb : b ≤ 7) {d s : Nat} (hd : 0 < d) (hd2 : d % 2 = 1) (hs : n - 1 = d * 2 ^ s) (hs0 : 0 < s) (hs1 : s ≤ 64) :
    strongF (n : Int) (d : Int) (s : Int) (b : Int) = true ↔ (b ^ d % n = 1 ∨ ∃ r, r < s ∧ b ^ (d * 2 ^ r) % n = n - 1) := by
  have hdn : d < n := by
    have : d ≤ d * 2 ^ s := Nat.le_mul_of_pos_right _ (Nat.two_pow_pos s)
    omega
  have hx : powF (n : Int) (b : Int) (d : Int) 1 = ((b ^ d % n : Nat) : Int) := by
    rw [powF_eq (by omega) (by omega) _ _ _ _ rfl (by omega) (by omega) (by omega) (by omega) (by omega) (by omega)]
    simp
  have ew : w64 ((n : Int) - 1) = ((n - 1 : Nat) : Int) := by rw [w64, Go.IntWalk.i64_in _ (by omega)]; omega
  have el : w64 ((s : Int) - 1) = (s : Int) - 1 := by rw [w64, Go.IntWalk.i64_in _ (by omega)]
  have hlt := Nat.mod_lt (b ^ d) (show 0 < n by omega)
  unfold strongF
  rw [el, ew, hx, passF_eq (by omega) (by omega) _ _ _ _ _ rfl (by omega) (by omega) (by omega)]
  have hpow : ∀ r : Nat, (((b ^ d % n : Nat) : Int) ^ 2 ^ r % (n : Int) = (n : Int) - 1) ↔ b ^ (d * 2 ^ r) % n = n - 1 := by
    intro r
    have e : ((b ^ d % n : Nat) : Int) ^ 2 ^ r % (n : Int) = ((b ^ (d * 2 ^ r) % n : Nat) : Int) := by
      have e0 : ((b ^ d % n : Nat) : Int) = (b : Int) ^ d % (n : Int) := by simp
      rw [e0, pow_emod, Nat.pow_mul]; simp
    rw [e]; omega
  constructor
  · rintro (h | ⟨r, h1, h2, h3⟩)
    · cases h1 : ((b ^ d % n : Nat) : Int) == 1 with
      | true => left; have := eq_of_beq h1; omega
      | false =>
        rw [h1] at h
        right
        refine ⟨0, hs0, ?_⟩
        have := eq_of_beq (show (((b ^ d % n : Nat) : Int) == ((n - 1 : Nat) : Int)) = true from h)
        rw [Nat.pow_zero, Nat.mul_one]; omega
    · exact .inr ⟨r, by omega, (hpow r).1 h3⟩
  · rintro (h | ⟨r, h1, h2⟩)
    · left; rw [h]; rfl
    · rcases r with _ | r
      · left
        rw [Nat.pow_zero, Nat.mul_one] at h2
        rw [h2]
        cases (((n - 1 : Nat) : Int) == 1) <;> simp
      · exact .inr ⟨r + 1, by omega, by omega, (hpow (r + 1)).2 h2⟩

/-- a square root of 1 modulo a prime -/
theorem sq_one {p x : Nat} (h : Nt.Prm p) (hx : x < p) (hs : x * x % p = 1) : x = 1 ∨ x = p - 1 := by
  have h2 := h.1
  have hd : p ∣ (x + 1) * (x + (p - 1)) := by
    have e : (x + 1) * (x + (p - 1)) = x * x + x * p + (p - 1) := by
      obtain ⟨q, rfl⟩ : ∃ q, p = q + 1 := ⟨p - 1, by omega⟩
      simp only [Nat.add_sub_cancel]
      rw [Nat.add_mul, Nat.mul_add, Nat.mul_add, Nat.mul_add]; omega
    rw [e]
    refine Nat.dvd_of_mod_eq_zero ?_
    have := Nat.div_add_mod (x * x) p
    rw [hs] at this
    rw [← this]
    have e2 : p * (x * x / p) + 1 + x * p + (p - 1) = p * (x * x / p + x + 1) := by
      rw [Nat.mul_add, Nat.mul_add, Nat.mul_comm x p]; omega
    rw [e2]; simp
  rcases h.dvd_mul hd with ⟨k, hk⟩ | ⟨k, hk⟩
  · right
    have : k = 1 := by
      rcases k with _ | _ | k
      · omega
      · rfl
      · have : p * 2 ≤ p * (k + 1 + 1) := Nat.mul_le_mul_left _ (by omega)
        omega
    subst this; omega
  · left
    have : k = 1 := by
      rcases k with _ | _ | k
      · omega
      · rfl
      · have : p * 2 ≤ p * (k + 1 + 1) := Nat.mul_le_mul_left _ (by omega)
        omega
    subst this; omega

/-- a prime passes the strong test -/
theorem prm_str {p b d : Nat} (h : Nt.Prm p) (hb : ¬ p ∣ b) : ∀ s, b ^ (d * 2 ^ s) % p = 1 → b ^ d % p = 1 ∨ ∃ r, r < s ∧ b ^ (d * 2 ^ r) % p = p - 1
  | 0, hs => .inl (by simpa using hs)
  | s + 1, hs => by
      have h2 := h.1
      have e : b ^ (d * 2 ^ (s + 1)) = b ^ (d * 2 ^ s) * b ^ (d * 2 ^ s) := by rw [← Nat.pow_add, Nat.pow_succ]; congr 1; rw [← Nat.mul_assoc]; omega
      rw [e, Nat.mul_mod] at hs
      rcases sq_one h (Nat.mod_lt _ (by omega)) hs with h3 | h3
      · rcases prm_str h hb s h3 with h4 | ⟨r, h4, h5⟩
        · exact .inl h4
        · exact .inr ⟨r, by omega, h5⟩
      · exact .inr ⟨s, by omega, h3⟩

theorem allF_eq (p odd twos : Int) : ∀ l : List Int, allF p odd twos l = true ↔ ∀ b ∈ l, b.tmod p = 0 ∨ strongF p odd twos b = true
  | [] => by simp [allF]
  | b :: l => by
      unfold allF
      by_cases h : b.tmod p = 0
      · rw [if_pos (by simp [h]), allF_eq p odd twos l]; simp [h]
      · rw [if_neg (by simpa using h)]
        by_cases h2 : strongF p odd twos b = true
        · rw [if_pos h2, allF_eq p odd twos l]; simp [h2]
        · rw [if_neg h2]; simp [h, h2]

theorem prm_small : Nt.Prm 3 ∧ Nt.Prm 5 ∧ Nt.Prm 7 := by
  refine ⟨⟨by omega, ?_⟩, ⟨by omega, ?_⟩, ⟨by omega, ?_⟩⟩ <;>
  · intro d hd
    have := Nat.le_of_dvd (by omega) hd
    have : d = 0 ∨ d = 1 ∨ d = 2 ∨ d = 3 ∨ d = 4 ∨ d = 5 ∨ d = 6 ∨ d = 7 := by omega
    rcases this with rfl | rfl | rfl | rfl | rfl | rfl | rfl | rfl <;> revert hd <;> decide

theorem primeF_nat {n : Nat} (hn : 3 ≤ n) (hn2 : n ≤ 2147483647) (ho : n % 2 = 1) : primeF (n : Int) = true ↔ Nt.Prm n := by
  have e1 : w64 ((n : Int) - 1) = (n : Int) - 1 := by rw [w64, Go.IntWalk.i64_in _ (by omega)]
  have h1 : ¬ (n : Int) < 3 := by omega
  have h2 : ¬ (n : Int) > 2147483647 := by omega
  have h3 : ¬ ((n : Int).tmod 2 == 0) = true := by rw [Int.tmod_eq_emod_of_nonneg (by omega)]; simp; omega
  unfold primeF
  rw [if_neg h1, if_neg h2, if_neg h3, e1, allF_eq]
  obtain ⟨s, g1, g2, g3, g4⟩ := splitF_eq _ ((n : Int) - 1) 0 rfl (by omega) (by omega) (by omega)
  generalize (splitF ((n : Int) - 1) 0).1 = D at g2 g3 g4 ⊢
  generalize (splitF ((n : Int) - 1) 0).2 = S at g1 ⊢
  obtain ⟨d, rfl⟩ : ∃ d : Nat, D = (d : Int) := ⟨D.toNat, by omega⟩
  have hS : S = (s : Int) := by omega
  subst hS
  have hds : n - 1 = d * 2 ^ s := by
    have e0 : ((n - 1 : Nat) : Int) = (n : Int) - 1 := by omega
    have : ((n - 1 : Nat) : Int) = ((d * 2 ^ s : Nat) : Int) := by rw [e0, g4]; simp
    exact_mod_cast this
  have hs0 : 0 < s := by
    rcases s with _ | s
    · simp at hds; omega
    · omega
  have hs1 : s ≤ 64 := by
    have h1 : 2 ^ s ≤ d * 2 ^ s := Nat.le_mul_of_pos_left _ (by omega)
    by_cases h : s ≤ 64
    · exact h
    · have : 2 ^ 64 ≤ 2 ^ s := Nat.pow_le_pow_right (by omega) (by omega)
      omega
  have hst : ∀ b : Nat, b ≤ 7 → (strongF (n : Int) (d : Int) (s : Int) (b : Int) = true ↔ (b ^ d % n = 1 ∨ ∃ r, r < s ∧ b ^ (d * 2 ^ r) % n = n - 1)) := fun b hb => strongF_str hn hn2 hb (by omega) (by omega) hds hs0 hs1
  have htm : ∀ b : Nat, ((b : Int).tmod (n : Int) = 0 ↔ b % n = 0) := fun b => by
    rw [Int.tmod_eq_emod_of_nonneg (by omega)]; omega
  constructor
  · intro h
    by_cases h9 : n < 9
    · have : n = 3 ∨ n = 5 ∨ n = 7 := by omega
      rcases this with rfl | rfl | rfl
      · exact prm_small.1
      · exact prm_small.2.1
      · exact prm_small.2.2
    · have hb : ∀ b : Nat, 0 < b → b ≤ 7 → ((b : Int) ∈ ([2, 3, 5, 7] : List Int)) → Nt.Str b n := fun b h0 hb hm => by
        refine ⟨d, s, by omega, hds, ?_⟩
        rcases h b hm with h | h
        · rw [htm, Nat.mod_eq_of_lt (by omega)] at h; omega
        · exact (hst b hb).1 h
      exact Nt.psi4 hn ho (by omega) ⟨hb 2 (by omega) (by omega) (by simp), hb 3 (by omega) (by omega) (by simp), hb 5 (by omega) (by omega) (by simp), hb 7 (by omega) (by omega) (by simp)⟩
  · intro h
    have key : ∀ b : Nat, b ≤ 7 → (b : Int).tmod (n : Int) = 0 ∨ strongF (n : Int) (d : Int) (s : Int) (b : Int) = true := fun b hb => by
      by_cases hd : n ∣ b
      · left; rw [htm]; exact Nat.mod_eq_zero_of_dvd hd
      · right
        rw [hst b hb]
        exact prm_str h hd s (by rw [← hds]; exact h.fermat hd)
    intro b hb
    simp only [List.mem_cons, List.not_mem_nil, or_false] at hb
    rcases hb with rfl | rfl | rfl | rfl
    · exact key 2 (by omega)
    · exact key 3 (by omega)
    · exact key 5 (by omega)
    · exact key 7 (by omega)

/-- modular.Prime tells the odd primes below 2^31 -/
theorem primeF_iff (p : Int) : primeF p = true ↔ 3 ≤ p ∧ p ≤ 2147483647 ∧ Nt.Prm p.toNat := by
  by_cases h1 : p < 3
  · unfold primeF; rw [if_pos h1]; simp; omega
  by_cases h2 : p > 2147483647
  · unfold primeF; rw [if_neg h1, if_pos h2]; simp; omega
  obtain ⟨n, rfl⟩ : ∃ n : Nat, p = (n : Int) := ⟨p.toNat, by omega⟩
  by_cases h3 : n % 2 = 1
  · rw [primeF_nat (by omega) (by omega) h3]
    rw [Int.toNat_natCast]
    exact ⟨fun h => ⟨by omega, by omega, h⟩, fun h => h.2.2⟩
  · have : ((n : Int).tmod 2 == 0) = true := by rw [Int.tmod_eq_emod_of_nonneg (by omega)]; simp; omega
    unfold primeF; rw [if_neg h1, if_neg h2, if_pos this]
    simp only [Bool.false_eq_true, false_iff]
    rintro ⟨_, _, h⟩
    have h2n : 2 ∣ n := by omega
    have := h.2 2 (by simpa using h2n)
    omega
end Ab
end
section
/-!
modular.Next finds the least.
-/
open Go
namespace Ab

theorem nextF_spec {q : Int} (hq : primeF q = true) : ∀ (k : Nat) (x : Int), (q - x).toNat = k → x ≤ q →
    ∃ r, nextF x = (r, 0) ∧ x ≤ r ∧ r ≤ q ∧ primeF r = true ∧ ∀ j, x ≤ j → j < r → primeF j = false := by
  have hq2 := (primeF_iff q).1 hq
  intro k
  induction k with
  | zero =>
    intro x hk hx
    have : x = q := by omega
    subst this
    refine ⟨x, ?_, Int.le_refl _, Int.le_refl _, hq, fun j h1 h2 => by omega⟩
    rw [nextF, dif_pos hq2.2.1, if_pos hq]
  | succ k ih =>
    intro x hk hx
    rw [nextF, dif_pos (by omega)]
    by_cases h : primeF x = true
    · rw [if_pos h]
      exact ⟨x, rfl, Int.le_refl _, hx, h, fun j h1 h2 => by omega⟩
    · rw [if_neg h]
      obtain ⟨r, h1, h2, h3, h4, h5⟩ := ih (x + 1) (by omega) (by omega)
      refine ⟨r, h1, by omega, h3, h4, fun j h6 h7 => ?_⟩
      by_cases e : j = x
      · subst e; simpa using h
      · exact h5 j (by omega) h7
end Ab
end
section
/-!
A prime above a million.
-/
namespace Ab
theorem prm_trial {n : Nat} (hn : 2 ≤ n) (h : ∀ d, 2 ≤ d → d * d ≤ n → n % d ≠ 0) : Nt.Prm n := by
  refine ⟨hn, fun d hd => ?_⟩
  obtain ⟨k, hk⟩ := hd
  by_cases h1 : d = 1
  · exact .inl h1
  by_cases h2 : d = n
  · exact .inr h2
  exfalso
  have hd0 : d ≠ 0 := by rintro rfl; simp at hk; omega
  have hk0 : k ≠ 0 := by rintro rfl; simp at hk; omega
  have hk1 : k ≠ 1 := by rintro rfl; simp at hk; omega
  rcases Nat.le_total d k with hle | hle
  · refine h d (by omega) ?_ (by rw [hk]; simp)
    rw [hk]; exact Nat.mul_le_mul_left _ hle
  · refine h k (by omega) ?_ (by rw [hk]; simp)
    rw [hk]; exact Nat.mul_le_mul_right _ hle

def tryAll (n : Nat) : Nat → Bool
  | 0 => true
  | d + 1 => and (not (Nat.beq (n % (d + 2)) 0)) (tryAll n d)
theorem tryAll_ok {n : Nat} : ∀ {m : Nat}, tryAll n m = true → ∀ d, 2 ≤ d → d < m + 2 → n % d ≠ 0
  | 0, _, d, h1, h2 => by omega
  | m + 1, h, d, h1, h2 => by
      simp only [tryAll, Bool.and_eq_true, Bool.not_eq_true'] at h
      by_cases e : d = m + 2
      · subst e
        intro h3
        rw [h3] at h
        exact absurd h.1 (by decide)
      · exact tryAll_ok h.2 d h1 (by omega)
set_option maxRecDepth 100000 in
theorem prm_million : Nt.Prm 1000003 :=
  prm_trial (by decide) fun d h1 h2 => tryAll_ok (m := 1000) (by decide +kernel) d h1 (by
    by_cases h : d < 1002
    · exact h
    · have : 1002 * 1002 ≤ d * d := Nat.mul_le_mul (by omega) (by omega)
      omega)
theorem primeF_million : primeF 1000003 = true := (primeF_iff _).2 ⟨by decide, by decide, prm_million⟩
end Ab
end
