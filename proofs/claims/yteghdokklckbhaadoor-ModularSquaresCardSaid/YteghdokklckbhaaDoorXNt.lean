/-!
Plain number theory without the program: primes, Fermat's little theorem, exponents that give 1.
-/
namespace Nt

/-- a prime number -/
def Prm (p : Nat) : Prop := 2 ≤ p ∧ ∀ d, d ∣ p → d = 1 ∨ d = p

theorem Prm.cop {p a : Nat} (h : Prm p) (ha : ¬ p ∣ a) : Nat.gcd p a = 1 := by
  rcases h.2 _ (Nat.gcd_dvd_left p a) with e | e
  · exact e
  · exact absurd (e ▸ Nat.gcd_dvd_right p a) ha

theorem Prm.dvd_mul {p a b : Nat} (h : Prm p) (hd : p ∣ a * b) : p ∣ a ∨ p ∣ b := by
  by_cases ha : p ∣ a
  · exact .inl ha
  · exact .inr (Nat.Coprime.dvd_of_dvd_mul_left (h.cop ha) hd)

theorem Prm.dvd_pow {p a : Nat} (h : Prm p) {n : Nat} (hd : p ∣ a ^ n) : p ∣ a := by
  induction n with
  | zero => rw [Nat.pow_zero, Nat.dvd_one] at hd; have := h.1; omega
  | succ n ih => rw [Nat.pow_succ] at hd; rcases h.dvd_mul hd with h1 | h1 <;> first | exact ih h1 | exact h1

theorem exists_prm (n : Nat) (h : 2 ≤ n) : ∃ p, Prm p ∧ p ∣ n := by
  induction n using Nat.strongRecOn with
  | ind n ih =>
    by_cases hp : Prm n
    · exact ⟨n, hp, Nat.dvd_refl n⟩
    · have : ∃ d, d ∣ n ∧ d ≠ 1 ∧ d ≠ n := Classical.byContradiction fun hc => hp ⟨h, fun d hd => by
        by_cases h1 : d = 1
        · exact .inl h1
        · by_cases h2 : d = n
          · exact .inr h2
          · exact absurd ⟨d, hd, h1, h2⟩ hc⟩
      obtain ⟨d, hd, h1, h2⟩ := this
      have hle := Nat.le_of_dvd (by omega) hd
      have h0 : d ≠ 0 := by rintro rfl; simp at hd; omega
      obtain ⟨p, hp, hpd⟩ := ih d (by omega) (by omega)
      exact ⟨p, hp, Nat.dvd_trans hpd hd⟩

/-- the least divisor's square -/
theorem prm_of_small (n : Nat) (h : 2 ≤ n) (hs : ∀ d, 2 ≤ d → d * d ≤ n → ¬ d ∣ n) : Prm n := by
  refine ⟨h, fun d hd => ?_⟩
  obtain ⟨e, rfl⟩ := hd
  by_cases h1 : d = 1
  · exact .inl h1
  by_cases h2 : e = 1
  · right; rw [h2, Nat.mul_one]
  have hd0 : d ≠ 0 := by rintro rfl; simp at h
  have he0 : e ≠ 0 := by rintro rfl; simp at h
  rcases Nat.le_total d e with hl | hl
  · exact absurd (Nat.dvd_mul_right d e) (hs d (by omega) (Nat.mul_le_mul_left d hl))
  · exact absurd (Nat.dvd_mul_left e d) (hs e (by omega) (Nat.mul_le_mul_right e hl))

/-- the binomial numbers -/
def C : Nat → Nat → Nat
  | _, 0 => 1
  | 0, _ + 1 => 0
  | n + 1, k + 1 => C n k + C n (k + 1)

theorem C_zero (n : Nat) : C n 0 = 1 := by cases n <;> rfl
theorem C_lt : ∀ (n k : Nat), n < k → C n k = 0
  | 0, k + 1, _ => rfl
  | n + 1, k + 1, h => by simp only [C]; rw [C_lt n k (by omega), C_lt n (k + 1) (by omega)]

theorem C_mul : ∀ (n k : Nat), (k + 1) * C (n + 1) (k + 1) = (n + 1) * C n k
  | 0, 0 => by simp [C]
  | 0, k + 1 => by simp [C]
  | n + 1, 0 => by
      have h := C_mul n 0
      simp only [C, C_zero] at h ⊢
      omega
  | n + 1, k + 1 => by
      have h1 := C_mul n k
      have h2 := C_mul n (k + 1)
      have e1 : C (n + 2) (k + 2) = C (n + 1) (k + 1) + C (n + 1) (k + 2) := rfl
      have e2 : C (n + 1) (k + 1) = C n k + C n (k + 1) := rfl
      rw [e1, Nat.mul_add, h2]
      have : (k + 1 + 1) * C (n + 1) (k + 1) = (n + 1) * C n k + C (n + 1) (k + 1) := by rw [Nat.succ_mul, h1]
      rw [this]
      have e3 : (n + 1 + 1) * C (n + 1) (k + 1) = (n + 1) * C (n + 1) (k + 1) + C (n + 1) (k + 1) := Nat.succ_mul _ _
      rw [e3, e2, Nat.mul_add]; omega

def S (n : Nat) : Nat → Nat → Nat
  | 0, _ => 0
  | m + 1, a => S n m a + C n m * a ^ m

theorem S_succ (n a : Nat) : ∀ m, S (n + 1) (m + 1) a = S n (m + 1) a + a * S n m a
  | 0 => by simp [S, C_zero]
  | m + 1 => by
      have e1 : S (n + 1) (m + 2) a = S (n + 1) (m + 1) a + C (n + 1) (m + 1) * a ^ (m + 1) := rfl
      have e2 : S n (m + 2) a = S n (m + 1) a + C n (m + 1) * a ^ (m + 1) := rfl
      have e3 : S n (m + 1) a = S n m a + C n m * a ^ m := rfl
      have e4 : C (n + 1) (m + 1) = C n m + C n (m + 1) := rfl
      rw [e1, S_succ n a m, e2, e4, Nat.add_mul]
      have e5 : a * S n (m + 1) a = a * S n m a + C n m * a ^ (m + 1) := by
        rw [e3, Nat.mul_add, Nat.pow_succ]; congr 1; rw [Nat.mul_left_comm, Nat.mul_comm a]
      rw [e5]; omega

theorem S_pow (a : Nat) : ∀ n, (a + 1) ^ n = S n (n + 1) a
  | 0 => by simp [S, C]
  | n + 1 => by
      have e2 : S n (n + 2) a = S n (n + 1) a + C n (n + 1) * a ^ (n + 1) := rfl
      rw [S_succ n a (n + 1), e2, C_lt n (n + 1) (by omega), Nat.pow_succ, S_pow a n, Nat.mul_add, Nat.mul_comm a]; omega

theorem Prm.dvd_C {p k : Nat} (h : Prm p) (h0 : 0 < k) (hk : k < p) : p ∣ C p k := by
  obtain ⟨n, rfl⟩ : ∃ n, p = n + 1 := ⟨p - 1, by omega⟩
  obtain ⟨j, rfl⟩ : ∃ j, k = j + 1 := ⟨k - 1, by omega⟩
  have := C_mul n j
  rcases h.dvd_mul (this ▸ Nat.dvd_mul_right (n + 1) (C n j)) with h1 | h1
  · exact absurd (Nat.le_of_dvd (by omega) h1) (by omega)
  · exact h1

theorem Prm.S_mod {p : Nat} (h : Prm p) (a : Nat) : ∀ m, m < p → S p (m + 1) a % p = 1
  | 0, _ => by simp [S, C_zero]; exact Nat.mod_eq_of_lt h.1
  | m + 1, hm => by
      have e1 : S p (m + 2) a = S p (m + 1) a + C p (m + 1) * a ^ (m + 1) := rfl
      obtain ⟨c, hc⟩ := h.dvd_C (Nat.succ_pos m) hm
      rw [e1, hc, Nat.mul_assoc, Nat.add_mul_mod_self_left]; exact h.S_mod a m (by omega)

theorem Prm.dream {p : Nat} (h : Prm p) (a : Nat) : (a + 1) ^ p % p = (a ^ p + 1) % p := by
  have h2 := h.1
  have e1 : S p (p + 1) a = S p p a + C p p * a ^ p := rfl
  have hc : ∀ n, C n n = 1 := by
    intro n
    induction n with
    | zero => rfl
    | succ n ih => show C n n + C n (n + 1) = 1; rw [ih, C_lt n (n + 1) (by omega)]
  obtain ⟨q, hq⟩ : ∃ q, p = q + 1 := ⟨p - 1, by omega⟩
  have hs := h.S_mod a q (by omega)
  rw [← hq] at hs
  rw [S_pow, e1, hc, Nat.one_mul, Nat.add_mod, hs, Nat.add_comm 1]
  simp

theorem Prm.pow_self {p : Nat} (h : Prm p) (a : Nat) : a ^ p % p = a % p := by
  induction a with
  | zero => have := h.1; rw [Nat.zero_pow (by omega)]
  | succ a ih => rw [h.dream, Nat.add_mod, ih]; simp

/-- Fermat's little theorem -/
theorem Prm.fermat {p a : Nat} (h : Prm p) (ha : ¬ p ∣ a) : a ^ (p - 1) % p = 1 := by
  have h2 := h.1
  have e := h.pow_self a
  obtain ⟨q, rfl⟩ : ∃ q, p = q + 1 := ⟨p - 1, by omega⟩
  have h1 : 1 ≤ a ^ q := Nat.one_le_iff_ne_zero.2 fun h0 => ha (h.dvd_pow (h0 ▸ Nat.dvd_zero _))
  have hd : (q + 1) ∣ a * (a ^ q - 1) := by
    rw [Nat.mul_sub, Nat.mul_one, Nat.mul_comm, ← Nat.pow_succ]
    exact Nat.dvd_of_mod_eq_zero (Nat.sub_mod_eq_zero_of_mod_eq e)
  rcases h.dvd_mul hd with h3 | h3
  · exact absurd h3 ha
  · obtain ⟨c, hc⟩ := h3
    have : a ^ q = (q + 1) * c + 1 := by omega
    rw [Nat.add_sub_cancel, this, Nat.mul_add_mod, Nat.mod_eq_of_lt (by omega)]

/-! exponents that give 1 -/

theorem pow_mul_one {a p u : Nat} (hp : 1 < p) (hu : a ^ u % p = 1) (k : Nat) : a ^ (u * k) % p = 1 := by
  rw [Nat.pow_mul, Nat.pow_mod, hu, Nat.one_pow, Nat.mod_eq_of_lt hp]

theorem pow_dvd_one {a p u v : Nat} (hp : 1 < p) (hu : a ^ u % p = 1) (h : u ∣ v) : a ^ v % p = 1 := by
  obtain ⟨k, rfl⟩ := h; exact pow_mul_one hp hu k

theorem pow_mod_one {a p u v : Nat} (hp : 1 < p) (hu : a ^ u % p = 1) (hv : a ^ v % p = 1) : a ^ (v % u) % p = 1 := by
  have := Nat.div_add_mod v u
  rw [← this, Nat.pow_add, Nat.mul_mod, pow_mul_one hp hu, Nat.one_mul, Nat.mod_mod] at hv
  exact hv

theorem pow_gcd_one {a p : Nat} (hp : 1 < p) (u v : Nat) : a ^ u % p = 1 → a ^ v % p = 1 → a ^ (Nat.gcd u v) % p = 1 := by
  induction u, v using Nat.gcd.induction with
  | H0 n => intro _ h; simpa using h
  | H1 m n hm ih =>
    intro h1 h2
    rw [Nat.gcd_rec]
    exact ih (pow_mod_one hp h1 h2) h1

theorem mod_of_dvd_one {x n p : Nat} (hp : 1 < p) (h : p ∣ n) (hx : x % n = 1) : x % p = 1 := by
  have := Nat.mod_mod_of_dvd x h
  rw [hx] at this
  rw [← this, Nat.mod_eq_of_lt hp]

/-- x is -1 modulo n -/
theorem sq_of_neg {x n : Nat} (hn : 2 ≤ n) (h : x % n = n - 1) : x * x % n = 1 % n := by
  rw [Nat.mul_mod, h]
  obtain ⟨k, rfl⟩ : ∃ k, n = k + 1 := ⟨n - 1, by omega⟩
  have : (k + 1 - 1) * (k + 1 - 1) = (k + 1) * (k - 1) + 1 := by
    obtain ⟨j, rfl⟩ : ∃ j, k = j + 1 := ⟨k - 1, by omega⟩
    simp [Nat.add_mul, Nat.mul_add]; omega
  rw [this, Nat.mul_add_mod]

end Nt
