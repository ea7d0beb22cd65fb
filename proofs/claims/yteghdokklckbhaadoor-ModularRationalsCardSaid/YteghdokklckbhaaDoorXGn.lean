section
/-!
Plain number theory without the program: primes, Fermat's little theorem, exponents that give 1.
-/
namespace Nt

/-- a prime number -/
def Prm (p : Nat) : Prop := 2 ≤ p ∧ ∀ d, d ∣ p → d = 1 ∨ d = p

theorem Prm.cop {p a : Nat} (h : Prm p) (ha : ¬ p ∣ a) : Nat.gcd p a = 1 := by
  rcases h.2 _ (Nat.gcd_dvd_left p a) with e | e
  · exact e
  · exact absurd (e ▸ Nat.gcd_dvd_right p a) ha

theorem Prm.dvd_mul {p a b : Nat} (h : Prm p) (hd : p ∣ a * b) : p ∣ a ∨ p ∣ b := by
  by_cases ha : p ∣ a
  · exact .inl ha
  · exact .inr (Nat.Coprime.dvd_of_dvd_mul_left (h.cop ha) hd)

theorem Prm.dvd_pow {p a : Nat} (h : Prm p) {n : Nat} (hd : p ∣ a ^ n) : p ∣ a := by
  induction n with
  | zero => rw [Nat.pow_zero, Nat.dvd_one] at hd; have := h.1; omega
  | succ n ih => rw [Nat.pow_succ] at hd; rcases h.dvd_mul hd with h1 | h1 <;> first | exact ih h1 | exact h1

theorem exists_prm (n : Nat) (h : 2 ≤ n) : ∃ p, Prm p ∧ p ∣ n := by
  induction n using Nat.strongRecOn with
  | ind n ih =>
    by_cases hp : Prm n
    · exact ⟨n, hp, Nat.dvd_refl n⟩
    · have : ∃ d, d ∣ n ∧ d ≠ 1 ∧ d ≠ n := Classical.byContradiction fun hc => hp ⟨h, fun d hd => by
        by_cases h1 : d = 1
        · exact .inl h1
        · by_cases h2 : d = n
          · exact .inr h2
          · exact absurd ⟨d, hd, h1, h2⟩ hc⟩
      obtain ⟨d, hd, h1, h2⟩ := this
      have hle := Nat.le_of_dvd (by omega) hd
      have h0 : d ≠ 0 := by rintro rfl; simp at hd; omega
      obtain ⟨p, hp, hpd⟩ := ih d (by omega) (by omega)
      exact ⟨p, hp, Nat.dvd_trans hpd hd⟩

/-- the least divisor's square -/
theorem prm_of_small (n : Nat) (h : 2 ≤ n) (hs : ∀ d, 2 ≤ d → d * d ≤ n → ¬ d ∣ n) : Prm n := by
  refine ⟨h, fun d hd => ?_⟩
  obtain ⟨e, rfl⟩ := hd
  by_cases h1 : d = 1
  · exact .inl h1
  by_cases h2 : e = 1
  · right; rw [h2, Nat.mul_one]
  have hd0 : d ≠ 0 := by rintro rfl; simp at h
  have he0 : e ≠ 0 := by rintro rfl; simp at h
  rcases Nat.le_total d e with hl | hl
  · exact absurd (Nat.dvd_mul_right d e) (hs d (by omega) (Nat.mul_le_mul_left d hl))
  · exact absurd (Nat.dvd_mul_left e d) (hs e (by omega) (Nat.mul_le_mul_right e hl))

/-- the binomial numbers -/
def C : Nat → Nat → Nat
  | _, 0 => 1
  | 0, _ + 1 => 0
  | n + 1, k + 1 => C n k + C n (k + 1)

theorem C_zero (n : Nat) : C n 0 = 1 := by cases n <;> rfl
theorem C_lt : ∀ (n k : Nat), n < k → C n k = 0
  | 0, k + 1, _ => rfl
  | n + 1, k + 1, h => by simp only [C]; rw [C_lt n k (by omega), C_lt n (k + 1) (by omega)]

theorem C_mul : ∀ (n k : Nat), (k + 1) * C (n + 1) (k + 1) = (n + 1) * C n k
  | 0, 0 => by simp [C]
  | 0, k + 1 => by simp [C]
  | n + 1, 0 => by
      have h := C_mul n 0
      simp only [C, C_zero] at h ⊢
      omega
  | n + 1, k + 1 => by
      have h1 := C_mul n k
      have h2 := C_mul n (k + 1)
      have e1 : C (n + 2) (k + 2) = C (n + 1) (k + 1) + C (n + 1) (k + 2) := rfl
      have e2 : C (n + 1) (k + 1) = C n k + C n (k + 1) := rfl
      rw [e1, Nat.mul_add, h2]
      have : (k + 1 + 1) * C (n + 1) (k + 1) = (n + 1) * C n k + C (n + 1) (k + 1) := by rw [Nat.succ_mul, h1]
      rw [this]
      have e3 : (n + 1 + 1) * C (n + 1) (k + 1) = (n + 1) * C (n + 1) (k + 1) + C (n + 1) (k + 1) := Nat.succ_mul _ _
      rw [e3, e2, Nat.mul_add]; omega

def S (n : Nat) : Nat → Nat → Nat
  | 0, _ => 0
  | m + 1, a => S n m a + C n m * a ^ m

theorem S_succ (n a : Nat) : ∀ m, S (n + 1) (m + 1) a = S n (m + 1) a + a * S n m a
  | 0 => by simp [S, C_zero]
  | m + 1 => by
      have e1 : S (n + 1) (m + 2) a = S (n + 1) (m + 1) a + C (n + 1) (m + 1) * a ^ (m + 1) := rfl
      have e2 : S n (m + 2) a = S n (m + 1) a + C n (m + 1) * a ^ (m + 1) := rfl
      have e3 : S n (m + 1) a = S n m a + C n m * a ^ m := rfl
      have e4 : C (n + 1) (m + 1) = C n m + C n (m + 1) := rfl
      rw [e1, S_succ n a m, e2, e4, Nat.add_mul]
      have e5 : a * S n (m + 1) a = a * S n m a + C n m * a ^ (m + 1) := by
        rw [e3, Nat.mul_add, Nat.pow_succ]; congr 1; rw [Nat.mul_left_comm, Nat.mul_comm a]
      rw [e5]; omega

theorem S_pow (a : Nat) : ∀ n, (a + 1) ^ n = S n (n + 1) a
  | 0 => by simp [S, C]
  | n + 1 => by
      have e2 : S n (n + 2) a = S n (n + 1) a + C n (n + 1) * a ^ (n + 1) := rfl
      rw [S_succ n a (n + 1), e2, C_lt n (n + 1) (by omega), Nat.pow_succ, S_pow a n, Nat.mul_add, Nat.mul_comm a]; omega

theorem Prm.dvd_C {p k : Nat} (h : Prm p) (h0 : 0 < k) (hk : k < p) : p ∣ C p k := by
  obtain ⟨n, rfl⟩ : ∃ n, p = n + 1 := ⟨p - 1, by omega⟩
  obtain ⟨j, rfl⟩ : ∃ j, k = j + 1 := ⟨k - 1, by omega⟩
  have := C_mul n j
  rcases h.dvd_mul (this ▸ Nat.dvd_mul_right (n + 1) (C n j)) with h1 | h1
  · exact absurd (Nat.le_of_dvd (by omega) h1) (by omega)
  · exact h1

theorem Prm.S_mod {p : Nat} (h : Prm p) (a : Nat) : ∀ m, m < p → S p (m + 1) a % p = 1
  | 0, _ => by simp [S, C_zero]; exact Nat.mod_eq_of_lt h.1
  | m + 1, hm => by
      have e1 : S p (m + 2) a = S p (m + 1) a + C p (m + 1) * a ^ (m + 1) := rfl
      obtain ⟨c, hc⟩ := h.dvd_C (Nat.succ_pos m) hm
      rw [e1, hc, Nat.mul_assoc, Nat.add_mul_mod_self_left]; exact h.S_mod a m (by omega)

theorem Prm.dream {p : Nat} (h : Prm p) (a : Nat) : (a + 1) ^ p % p = (a ^ p + 1) % p := by
  have h2 := h.1
  have e1 : S p (p + 1) a = S p p a + C p p * a ^ p := rfl
  have hc : ∀ n, C n n = 1 := by
    intro n
    induction n with
    | zero => rfl
    | succ n ih => show C n n + C n (n + 1) = 1; rw [ih, C_lt n (n + 1) (by omega)]
  obtain ⟨q, hq⟩ : ∃ q, p = q + 1 := ⟨p - 1, by omega⟩
  have hs := h.S_mod a q (by omega)
  rw [← hq] at hs
  rw [S_pow, e1, hc, Nat.one_mul, Nat.add_mod, hs, Nat.add_comm 1]
  simp

theorem Prm.pow_self {p : Nat} (h : Prm p) (a : Nat) : a ^ p % p = a % p := by
  induction a with
  | zero => have := h.1; rw [Nat.zero_pow (by omega)]
  | succ a ih => rw [h.dream, Nat.add_mod, ih]; simp

/-- Fermat's little theorem -/
theorem Prm.fermat {p a : Nat} (h : Prm p) (ha : ¬ p ∣ a) : a ^ (p - 1) % p = 1 := by
  have h2 := h.1
  have e := h.pow_self a
  obtain ⟨q, rfl⟩ : ∃ q, p = q + 1 := ⟨p - 1, by omega⟩
  have h1 : 1 ≤ a ^ q := Nat.one_le_iff_ne_zero.2 fun h0 => ha (h.dvd_pow (h0 ▸ Nat.dvd_zero _))
  have hd : (q + 1) ∣ a * (a ^ q - 1) := by
    rw [Nat.mul_sub, Nat.mul_one, Nat.mul_comm, ← Nat.pow_succ]
    exact Nat.dvd_of_mod_eq_zero (Nat.sub_mod_eq_zero_of_mod_eq e)
  rcases h.dvd_mul hd with h3 | h3
  · exact absurd h3 ha
  · obtain ⟨c, hc⟩ := h3
    have : a ^ q = (q + 1) * c + 1 := by omega
    rw [Nat.add_sub_cancel, this, Nat.mul_add_mod, Nat.mod_eq_of_lt (by omega)]

/-! exponents that give 1 -/

theorem pow_mul_one {a p u : Nat} (hp : 1 < p) (hu : a ^ u % p = 1) (k : Nat) : a ^ (u * k) % p = 1 := by
  rw [Nat.pow_mul, Nat.pow_mod, hu, Nat.one_pow, Nat.mod_eq_of_lt hp]

theorem pow_dvd_one {a p u v : Nat} (hp : 1 < p) (hu : a ^ u % p = 1) (h : u ∣ v) : a ^ v % p = 1 := by
  obtain ⟨k, rfl⟩ := h; exact pow_mul_one hp hu k

theorem pow_mod_one {a p u v : Nat} (hp : 1 < p) (hu : a ^ u % p = 1) (hv : a ^ v % p = 1) : a ^ (v % u) % p = 1 := by
  have := Nat.div_add_mod v u
  rw [← this, Nat.pow_add, Nat.mul_mod, pow_mul_one hp hu, Nat.one_mul, Nat.mod_mod] at hv
  exact hv

theorem pow_gcd_one {a p : Nat} (hp : 1 < p) (u v : Nat) : a ^ u % p = 1 → a ^ v % p = 1 → a ^ (Nat.gcd u v) % p = 1 := by
  induction u, v using Nat.gcd.induction with
  | H0 n => intro _ h; simpa using h
  | H1 m n hm ih =>
    intro h1 h2
    rw [Nat.gcd_rec]
    exact ih (pow_mod_one hp h1 h2) h1

theorem mod_of_dvd_one {x n p : Nat} (hp : 1 < p) (h : p ∣ n) (hx : x % n = 1) : x % p = 1 := by
  have := Nat.mod_mod_of_dvd x h
  rw [hx] at this
  rw [← this, Nat.mod_eq_of_lt hp]

/-- x is -1 modulo n -/
theorem sq_of_neg {x n : Nat} (hn : 2 ≤ n) (h : x % n = n - 1) : x * x % n = 1 % n := by
  rw [Nat.mul_mod, h]
  obtain ⟨k, rfl⟩ : ∃ k, n = k + 1 := ⟨n - 1, by omega⟩
  have : (k + 1 - 1) * (k + 1 - 1) = (k + 1) * (k - 1) + 1 := by
    obtain ⟨j, rfl⟩ : ∃ j, k = j + 1 := ⟨k - 1, by omega⟩
    simp [Nat.add_mul, Nat.mul_add]; omega
  rw [this, Nat.mul_add_mod]

end Nt
end
section
/-!
Plain number theory: roots of polynomials modulo a prime, Euler's criterion, the field with p^2 elements.
-/
namespace Nt

/-- an odd prime among the integers -/
structure PI (p : Int) : Prop where
  lo : 3 ≤ p
  prm : Prm p.toNat

theorem PI.nat {p : Int} (h : PI p) : ((p.toNat : Nat) : Int) = p := by have := h.lo; omega
theorem PI.mul {p : Int} (h : PI p) {a b : Int} (hd : p ∣ a * b) : p ∣ a ∨ p ∣ b := by
  have e := h.nat
  have ea : p.natAbs = p.toNat := by omega
  have h1 : p.toNat ∣ a.natAbs * b.natAbs := by
    rw [← Int.natAbs_mul, ← ea]; exact Int.natAbs_dvd_natAbs.2 hd
  rcases h.prm.dvd_mul h1 with h2 | h2
  · exact .inl (Int.natAbs_dvd_natAbs.1 (by rw [ea]; exact h2))
  · exact .inr (Int.natAbs_dvd_natAbs.1 (by rw [ea]; exact h2))
theorem pow_congr {p a b : Int} (h : p ∣ a - b) : ∀ n : Nat, p ∣ a ^ n - b ^ n
  | 0 => by simp
  | n + 1 => by
      obtain ⟨k, hk⟩ := h
      obtain ⟨l, hl⟩ := pow_congr ⟨k, hk⟩ n
      refine ⟨a ^ n * k + b * l, ?_⟩
      rw [Int.pow_succ, Int.pow_succ, Int.mul_add, ← Int.mul_assoc, ← Int.mul_assoc, Int.mul_comm p, Int.mul_assoc, ← hk, Int.mul_comm p, Int.mul_assoc b, ← hl]
      grind
theorem PI.pow {p : Int} (h : PI p) {a : Int} {n : Nat} (hd : p ∣ a ^ n) : p ∣ a := by
  induction n with
  | zero =>
    exfalso
    rw [Int.pow_zero] at hd
    have := Int.le_of_dvd (by decide) hd
    have := h.lo; omega
  | succ n ih =>
    rw [Int.pow_succ] at hd
    rcases h.mul hd with h1 | h1
    · exact ih h1
    · exact h1
theorem small_dvd {p a : Int} (h0 : a ≠ 0) (h1 : -p < a) (h2 : a < p) : ¬ p ∣ a := by
  rintro ⟨k, hk⟩
  have hp : 0 < p := by omega
  by_cases hk0 : k = 0
  · subst hk0; simp at hk; exact h0 hk
  · rcases Int.lt_or_gt_of_ne hk0 with h | h
    · have : p * k ≤ p * (-1) := Int.mul_le_mul_of_nonneg_left (by omega) (by omega)
      omega
    · have : p * 1 ≤ p * k := Int.mul_le_mul_of_nonneg_left (by omega) (by omega)
      omega
theorem dvd_emod {p a : Int} : p ∣ a % p - a := by
  refine ⟨-(a / p), ?_⟩
  have := Int.emod_add_mul_ediv a p
  grind
theorem emod_eq_of_dvd {p a b : Int} (h : p ∣ a - b) : a % p = b % p := Int.emod_eq_emod_iff_emod_sub_eq_zero.2 (Int.emod_eq_zero_of_dvd h)

theorem fermatI {p : Int} (h : PI p) {x : Int} (hx : ¬ p ∣ x) : p ∣ x ^ (p.toNat - 1) - 1 := by
  have h1 := h.lo
  have e := h.nat
  have hm0 : 0 ≤ x % p := Int.emod_nonneg _ (by omega)
  have hm1 : x % p < p := Int.emod_lt_of_pos _ (by omega)
  have hne : x % p ≠ 0 := fun h => hx (Int.dvd_of_emod_eq_zero h)
  have hf := Prm.fermat (a := (x % p).toNat) h.prm (fun hd => by have := Nat.le_of_dvd (by omega) hd; omega)
  have e2 : (((x % p).toNat : Nat) : Int) = x % p := by omega
  have h3 : (((x % p).toNat ^ (p.toNat - 1) % p.toNat : Nat) : Int) = 1 := by rw [hf]; rfl
  rw [Int.natCast_emod, Int.natCast_pow, e, e2] at h3
  have h4 : x ^ (p.toNat - 1) % p = (x % p) ^ (p.toNat - 1) % p := (emod_eq_of_dvd (pow_congr dvd_emod _)).symm
  rw [← h4] at h3
  have := Int.emod_add_mul_ediv (x ^ (p.toNat - 1)) p
  rw [h3] at this
  exact ⟨x ^ (p.toNat - 1) / p, by omega⟩
theorem fermatI' {p : Int} (h : PI p) (x : Int) : p ∣ x ^ p.toNat - x := by
  have h1 := h.lo
  have e : p.toNat = (p.toNat - 1) + 1 := by omega
  by_cases hx : p ∣ x
  · rw [e, Int.pow_succ]
    obtain ⟨k, hk⟩ := hx
    exact ⟨x ^ (p.toNat - 1) * k - k, by rw [Int.mul_sub, ← hk, ← Int.mul_assoc, Int.mul_comm p, Int.mul_assoc, ← hk]⟩
  · obtain ⟨k, hk⟩ := fermatI h hx
    rw [e, Int.pow_succ]
    exact ⟨k * x, by rw [← Int.mul_assoc, ← hk]; grind⟩

/-! polynomials, their lowest coefficient first -/
def pev : List Int → Int → Int
  | [], _ => 0
  | a :: c, x => a + x * pev c x
def pdv : List Int → Int → List Int
  | [], _ => []
  | [_], _ => []
  | _ :: b :: c, r => pev (b :: c) r :: pdv (b :: c) r
theorem pdv_ev : ∀ (c : List Int) (x r : Int), pev c x - pev c r = (x - r) * pev (pdv c r) x
  | [], x, r => by simp [pev, pdv]
  | [a], x, r => by simp [pev, pdv]
  | a :: b :: c, x, r => by
      have ih := pdv_ev (b :: c) x r
      show a + x * pev (b :: c) x - (a + r * pev (b :: c) r) = (x - r) * (pev (b :: c) r + x * pev (pdv (b :: c) r) x)
      generalize pev (b :: c) x = X at *
      generalize pev (b :: c) r = R at *
      generalize pev (pdv (b :: c) r) x = Q at *
      grind
theorem pdv_len : ∀ (c : List Int) (r : Int), (pdv c r).length = c.length - 1
  | [], _ => rfl
  | [_], _ => rfl
  | _ :: b :: c, r => by rw [pdv, List.length_cons, pdv_len (b :: c) r]; simp
theorem pdv_last : ∀ (c : List Int) (r : Int), 2 ≤ c.length → (pdv c r).getLast? = c.getLast?
  | [], _, h => by simp at h
  | [_], _, h => by simp at h
  | [a, b], r, _ => by simp [pdv, pev]
  | a :: b :: b' :: c, r, _ => by
      have := pdv_last (b :: b' :: c) r (by simp)
      rw [pdv, List.getLast?_cons, this]
      simp [List.getLast?_cons]

/-- a polynomial has no more roots than its degree -/
theorem lagrange {p : Int} (h : PI p) : ∀ (n : Nat) (c L : List Int) (a : Int), c.length = n + 1 → c.getLast? = some a → ¬ p ∣ a → L.length = n + 1 → (L.Pairwise fun x y => ¬ p ∣ y - x) → (∀ x ∈ L, p ∣ pev c x) → False
  | 0, c, L, a, hc, hl, ha, hL, _, hr => by
      match c, hc with
      | [b], _ =>
        simp at hl; subst hl
        match L, hL with
        | [x], _ =>
          have := hr x (by simp)
          simp [pev] at this
          exact ha this
  | n + 1, c, L, a, hc, hl, ha, hL, hp, hr => by
      match L, hL with
      | x :: L, hL =>
        have hx := hr x (by simp)
        have hp' := List.pairwise_cons.1 hp
        refine lagrange h n (pdv c x) L a (by rw [pdv_len, hc]; rfl) (by rw [pdv_last c x (by omega)]; exact hl) ha (by simpa using hL) hp'.2 fun y hy => ?_
        have h1 := pdv_ev c y x
        have h2 : p ∣ (y - x) * pev (pdv c x) y := by rw [← h1]; exact Int.dvd_sub (hr y (by simp [hy])) hx
        rcases h.mul h2 with h3 | h3
        · exact absurd h3 (hp'.1 y hy)
        · exact h3

def pmon : Nat → List Int
  | 0 => [1]
  | k + 1 => 0 :: pmon k
theorem pmon_ev (x : Int) : ∀ k, pev (pmon k) x = x ^ k
  | 0 => by simp [pmon, pev]
  | k + 1 => by rw [pmon, pev, pmon_ev x k, Int.pow_succ]; grind
theorem pmon_len : ∀ k, (pmon k).length = k + 1
  | 0 => rfl
  | k + 1 => by rw [pmon, List.length_cons, pmon_len k]
theorem pmon_last : ∀ k, (pmon k).getLast? = some 1
  | 0 => rfl
  | k + 1 => by rw [pmon, List.getLast?_cons, pmon_last k]; rfl

/-- Euler's criterion -/
theorem euler {p : Int} (h : PI p) {m : Nat} (hm : p = 2 * m + 1) {x : Int} (hx : p ∣ x ^ m - 1) : ∃ s : Int, 1 ≤ s ∧ s ≤ m ∧ p ∣ s * s - x := by
  have h1 := h.lo
  refine Classical.byContradiction fun hn => ?_
  obtain ⟨k, rfl⟩ : ∃ k, m = k + 1 := ⟨m - 1, by omega⟩
  have hsq : ∀ i : Nat, i < k + 1 → ¬ p ∣ (((i : Int) + 1) * (i + 1)) - x := fun i hi hd => hn ⟨i + 1, by omega, by omega, hd⟩
  refine lagrange h (k + 1) (-1 :: pmon k) (x :: (List.range (k + 1)).map fun (i : Nat) => ((i : Int) + 1) * (i + 1)) 1 (by simp [pmon_len]) (by rw [List.getLast?_cons, pmon_last]; rfl) (small_dvd (by decide) (by omega) (by omega)) (by simp) ?_ ?_
  · refine List.pairwise_cons.2 ⟨fun y hy => ?_, List.pairwise_map.2 (List.pairwise_iff_getElem.2 fun i j hi hj hij => ?_)⟩
    · obtain ⟨i, hi, rfl⟩ := List.mem_map.1 hy
      exact hsq i (List.mem_range.1 hi)
    · simp only [List.getElem_range]
      simp at hi hj
      intro hd
      have e : ((j : Int) + 1) * (j + 1) - ((i : Int) + 1) * (i + 1) = (j - i) * (j + i + 2) := by grind
      rw [e] at hd
      rcases h.mul hd with hd | hd
      · exact small_dvd (by omega) (by omega) (by omega) hd
      · exact small_dvd (by omega) (by omega) (by omega) hd
  · intro y hy
    have hev : pev (-1 :: pmon k) y = y ^ (k + 1) - 1 := by rw [pev, pmon_ev, Int.pow_succ]; grind
    rw [hev]
    rcases List.mem_cons.1 hy with rfl | hy
    · exact hx
    · obtain ⟨i, hi, rfl⟩ := List.mem_map.1 hy
      have hi := List.mem_range.1 hi
      have hf := fermatI h (x := (i : Int) + 1) (small_dvd (by omega) (by omega) (by omega))
      have e : p.toNat - 1 = (k + 1) + (k + 1) := by omega
      rw [e, Int.pow_add] at hf
      rw [Int.mul_pow]; exact hf

/-- the half power is 1 or -1 -/
theorem half_pow {p : Int} (h : PI p) {m : Nat} (hm : p = 2 * m + 1) {x : Int} (hx : ¬ p ∣ x) : p ∣ x ^ m - 1 ∨ p ∣ x ^ m + 1 := by
  have hf := fermatI h hx
  have e : p.toNat - 1 = m + m := by have := h.lo; omega
  rw [e, Int.pow_add] at hf
  have e2 : x ^ m * x ^ m - 1 = (x ^ m - 1) * (x ^ m + 1) := by grind
  rw [e2] at hf
  exact h.mul hf
theorem sq_half {p : Int} (h : PI p) {m : Nat} (hm : p = 2 * m + 1) {s x : Int} (hx : ¬ p ∣ x) (hs : p ∣ s * s - x) : p ∣ x ^ m - 1 := by
  have hsn : ¬ p ∣ s := fun hd => hx (by
    obtain ⟨a, ha⟩ := hd; obtain ⟨b, hb⟩ := hs
    exact ⟨s * a - b, by rw [Int.mul_sub, ← hb, Int.mul_comm p, Int.mul_assoc, Int.mul_comm a, ← ha]; omega⟩)
  have hf := fermatI h hsn
  have e : p.toNat - 1 = m + m := by have := h.lo; omega
  rw [e, Int.pow_add, ← Int.mul_pow] at hf
  have hc : p ∣ (s * s) ^ m - x ^ m := pow_congr hs m
  have := Int.dvd_sub hf hc
  have e3 : (s * s) ^ m - 1 - ((s * s) ^ m - x ^ m) = x ^ m - 1 := by omega
  rwa [e3] at this
end Nt
end
section
/-!
The field with p^2 elements: Frobenius, and Cipolla's root.
-/
namespace Nt

abbrev Pr2 := Int × Int
def qm (d : Int) (x y : Pr2) : Pr2 := (x.1 * y.1 + d * (x.2 * y.2), x.1 * y.2 + x.2 * y.1)
def qp (d : Int) (x : Pr2) : Nat → Pr2
  | 0 => (1, 0)
  | n + 1 => qm d x (qp d x n)
def Cg (p : Int) (x y : Pr2) : Prop := p ∣ x.1 - y.1 ∧ p ∣ x.2 - y.2

theorem pm_comm (d : Int) (x y : Pr2) : qm d x y = qm d y x := by
  unfold qm; ext <;> simp only <;> grind
theorem pm_assoc (d : Int) (x y z : Pr2) : qm d (qm d x y) z = qm d x (qm d y z) := by
  unfold qm; ext <;> simp only <;> grind
theorem pm_one (d : Int) (x : Pr2) : qm d (1, 0) x = x := by
  unfold qm; ext <;> simp
theorem pp_add (d : Int) (x : Pr2) (m : Nat) : ∀ n, qp d x (n + m) = qm d (qp d x n) (qp d x m)
  | 0 => by rw [Nat.zero_add, qp, pm_one]
  | n + 1 => by rw [show n + 1 + m = (n + m) + 1 by omega, qp, pp_add d x m n, qp, pm_assoc]
theorem pp_dbl (d : Int) (x : Pr2) : ∀ n, qp d (qm d x x) n = qp d x (n + n)
  | 0 => rfl
  | n + 1 => by rw [qp, pp_dbl d x n, show n + 1 + (n + 1) = (n + n + 1) + 1 by omega, qp, qp, pm_assoc]
theorem Cg.refl (p : Int) (x : Pr2) : Cg p x x := ⟨by simp, by simp⟩
theorem Cg.symm {p : Int} {x y : Pr2} (h : Cg p x y) : Cg p y x := ⟨(Int.dvd_neg.2 h.1 |> fun h => by rwa [Int.neg_sub] at h), (Int.dvd_neg.2 h.2 |> fun h => by rwa [Int.neg_sub] at h)⟩
theorem Cg.trans {p : Int} {x y z : Pr2} (h : Cg p x y) (g : Cg p y z) : Cg p x z :=
  ⟨by have := Int.dvd_add h.1 g.1; rwa [show x.1 - y.1 + (y.1 - z.1) = x.1 - z.1 by omega] at this, by have := Int.dvd_add h.2 g.2; rwa [show x.2 - y.2 + (y.2 - z.2) = x.2 - z.2 by omega] at this⟩
theorem Cg.qm {p d d' : Int} (hd : p ∣ d - d') {x x' y y' : Pr2} (h : Cg p x x') (g : Cg p y y') : Cg p (qm d x y) (qm d' x' y') := by
  obtain ⟨⟨a, ha⟩, b, hb⟩ := h
  obtain ⟨⟨c, hc⟩, e, he⟩ := g
  obtain ⟨f, hf⟩ := hd
  obtain ⟨x1, x2⟩ := x; obtain ⟨x1', x2'⟩ := x'; obtain ⟨y1, y2⟩ := y; obtain ⟨y1', y2'⟩ := y'
  simp only at ha hb hc he
  have e1 : x1 = x1' + p * a := by omega
  have e2 : x2 = x2' + p * b := by omega
  have e3 : y1 = y1' + p * c := by omega
  have e4 : y2 = y2' + p * e := by omega
  have e5 : d = d' + p * f := by omega
  subst e1; subst e2; subst e3; subst e4; subst e5
  unfold Nt.qm
  constructor
  · exact ⟨a * y1' + x1' * c + p * a * c + f * ((x2' + p * b) * (y2' + p * e)) + d' * (b * y2' + x2' * e + p * b * e), by simp only; grind⟩
  · exact ⟨a * y2' + x1' * e + p * a * e + b * y1' + x2' * c + p * b * c, by simp only; grind⟩
theorem Cg.qp {p d d' : Int} (hd : p ∣ d - d') {x x' : Pr2} (h : Cg p x x') : ∀ n, Cg p (qp d x n) (qp d' x' n)
  | 0 => Cg.refl _ _
  | n + 1 => Cg.qm hd h (Cg.qp hd h n)

/-- scalars -/
def sm (k : Int) (x : Pr2) : Pr2 := (k * x.1, k * x.2)
def pa (x y : Pr2) : Pr2 := (x.1 + y.1, x.2 + y.2)

/-- the binomial sum -/
def bs (d t : Int) (n : Nat) : Nat → Pr2
  | 0 => (0, 0)
  | m + 1 => pa (bs d t n m) (sm (C n m * t ^ (n - m)) (qp d (0, 1) m))

theorem bs_succ (d t : Int) (n : Nat) : ∀ m, m ≤ n → bs d t (n + 1) (m + 1) = pa (sm t (bs d t n (m + 1))) (qm d (0, 1) (bs d t n m))
  | 0, _ => by
      simp only [bs, C, pa, sm, qm, qp]
      ext <;> simp [Int.pow_succ] <;> grind
  | m + 1, h => by
      have ih := bs_succ d t n m (by omega)
      have e1 : bs d t (n + 1) (m + 1 + 1) = pa (bs d t (n + 1) (m + 1)) (sm (C (n + 1) (m + 1) * t ^ (n + 1 - (m + 1))) (qp d (0, 1) (m + 1))) := rfl
      have e2 : bs d t n (m + 1 + 1) = pa (bs d t n (m + 1)) (sm (C n (m + 1) * t ^ (n - (m + 1))) (qp d (0, 1) (m + 1))) := rfl
      have e3 : bs d t n (m + 1) = pa (bs d t n m) (sm (C n m * t ^ (n - m)) (qp d (0, 1) m)) := rfl
      have e4 : qp d (0, 1) (m + 1) = qm d (0, 1) (qp d (0, 1) m) := rfl
      have e5 : C (n + 1) (m + 1) = C n m + C n (m + 1) := rfl
      have e6 : t ^ (n + 1 - (m + 1)) = t ^ (n - m) := by congr 1; omega
      have e7 : t ^ (n - m) = t ^ (n - (m + 1)) * t := by rw [← Int.pow_succ]; congr 1; omega
      rw [e1, ih, e2, e5, e6, e4]
      generalize hX : bs d t n (m + 1) = X at *
      generalize hY : bs d t n m = Y at *
      generalize hW : qp d (0, 1) m = W at *
      rw [e3]
      rw [Int.natCast_add]
      generalize ((C n m : Nat) : Int) = c1 at *
      generalize ((C n (m + 1) : Nat) : Int) = c2 at *
      rw [e7]
      generalize t ^ (n - (m + 1)) = T at *
      obtain ⟨y1, y2⟩ := Y; obtain ⟨w1, w2⟩ := W
      simp only [pa, sm, qm]
      ext <;> simp only <;> grind

theorem bs_all (d t : Int) : ∀ n, qp d (t, 1) n = bs d t n (n + 1)
  | 0 => by simp [qp, bs, pa, sm, C]
  | n + 1 => by
      have h1 := bs_succ d t n n (Nat.le_refl n)
      have e1 : bs d t (n + 1) (n + 1 + 1) = pa (bs d t (n + 1) (n + 1)) (sm (C (n + 1) (n + 1) * t ^ (n + 1 - (n + 1))) (qp d (0, 1) (n + 1))) := rfl
      have e3 : bs d t n (n + 1) = pa (bs d t n n) (sm (C n n * t ^ (n - n)) (qp d (0, 1) n)) := rfl
      have e4 : qp d (0, 1) (n + 1) = qm d (0, 1) (qp d (0, 1) n) := rfl
      have e5 : C (n + 1) (n + 1) = C n n + C n (n + 1) := rfl
      have e6 : C n (n + 1) = 0 := C_lt n (n + 1) (by omega)
      rw [e1, h1, qp, bs_all d t n, e4, e5, e6]
      rw [Nat.sub_self, Nat.add_zero]
      rw [e3]
      rw [Nat.sub_self]
      generalize bs d t n n = Y
      generalize qp d (0, 1) n = W
      generalize ((C n n : Nat) : Int) = c1
      obtain ⟨y1, y2⟩ := Y; obtain ⟨w1, w2⟩ := W
      simp only [pa, sm, qm, Int.pow_zero]
      ext <;> simp only <;> grind
end Nt
end
section
/-!
Cipolla's root.
-/
namespace Nt

theorem C_self : ∀ n, C n n = 1
  | 0 => rfl
  | n + 1 => by rw [C, C_self n, C_lt n (n + 1) (by omega)]
theorem pp_sc (d e : Int) : ∀ m, qp d (e, 0) m = (e ^ m, 0)
  | 0 => by simp [qp]
  | m + 1 => by rw [qp, pp_sc d e m]; unfold qm; ext <;> simp only [Int.pow_succ] <;> grind
theorem pp_w (d : Int) (m : Nat) : qp d (0, 1) (m + m) = (d ^ m, 0) := by
  rw [← pp_dbl, show qm d (0, 1) (0, 1) = (d, 0) by unfold qm; ext <;> simp, pp_sc]
theorem frob {p : Int} (h : PI p) {m : Nat} (hm : p = 2 * m + 1) {d : Int} (hd : p ∣ d ^ m + 1) (t : Int) : Cg p (qp d (t, 1) p.toNat) (t, -1) := by
  have h1 := h.lo
  have e := h.nat
  have main : ∀ k : Nat, k + 1 ≤ p.toNat → Cg p (bs d t p.toNat (k + 1)) (t ^ p.toNat, 0) := by
    intro k
    induction k with
    | zero =>
      intro _
      simp [bs, pa, sm, qp, C]
      exact Cg.refl _ _
    | succ k ih =>
      intro hk
      have ih := ih (by omega)
      obtain ⟨c, hc⟩ := h.prm.dvd_C (k := k + 1) (by omega) (by omega)
      have ec : ((C p.toNat (k + 1) : Nat) : Int) = p * c := by rw [hc, Int.natCast_mul, e]
      show Cg p (pa (bs d t p.toNat (k + 1)) (sm (C p.toNat (k + 1) * t ^ (p.toNat - (k + 1))) (qp d (0, 1) (k + 1)))) (t ^ p.toNat, 0)
      rw [ec]
      generalize qp d (0, 1) (k + 1) = W
      generalize t ^ (p.toNat - (k + 1)) = T
      obtain ⟨⟨a, ha⟩, b, hb⟩ := ih
      generalize bs d t p.toNat (k + 1) = X at *
      constructor
      · exact ⟨a + c * T * W.1, by simp only [pa, sm] at *; grind⟩
      · exact ⟨b + c * T * W.2, by simp only [pa, sm] at *; grind⟩
  rw [bs_all]
  have hk := main (p.toNat - 1) (by omega)
  rw [show p.toNat - 1 + 1 = p.toNat by omega] at hk
  show Cg p (pa (bs d t p.toNat p.toNat) (sm (C p.toNat p.toNat * t ^ (p.toNat - p.toNat)) (qp d (0, 1) p.toNat))) (t, -1)
  rw [C_self, Nat.sub_self, Int.pow_zero]
  have ew : qp d (0, 1) p.toNat = (0, d ^ m) := by
    rw [show p.toNat = (m + m) + 1 by omega, qp, pp_w]
    unfold qm; ext <;> simp
  rw [ew]
  obtain ⟨⟨a, ha⟩, b, hb⟩ := hk
  obtain ⟨f, hf⟩ := fermatI' h t
  obtain ⟨g, hg⟩ := hd
  generalize bs d t p.toNat p.toNat = X at *
  constructor
  · exact ⟨a + f, by simp only [pa, sm] at *; grind⟩
  · exact ⟨b + g, by simp only [pa, sm] at *; grind⟩

/-- the half of the power of t + sqrt(d) is a root of the norm -/
theorem cipolla {p : Int} (h : PI p) {m : Nat} (hm : p = 2 * m + 1) {d t x : Int} (hd : p ∣ d ^ m + 1) (hx : p ∣ t * t - d - x) (hx1 : p ∣ x ^ m - 1) {u : Pr2} (hu : Cg p u (qp d (t, 1) (m + 1))) : p ∣ u.1 * u.1 - x := by
  have h1 := h.lo
  have e := h.nat
  have hf := frob h hm hd t
  have hsq : Cg p (qm d u u) (qp d (t, 1) ((m + 1) + (m + 1))) := by
    rw [pp_add]; exact Cg.qm (by simp) hu hu
  have e1 : (m + 1) + (m + 1) = p.toNat + 1 := by omega
  rw [e1, qp] at hsq
  have hn : Cg p (qm d (t, 1) (qp d (t, 1) p.toNat)) (qm d (t, 1) (t, -1)) := Cg.qm (by simp) (Cg.refl _ _) hf
  have hall := hsq.trans hn
  obtain ⟨u1, u2⟩ := u
  obtain ⟨ha, hb⟩ := hall
  simp only [qm] at ha hb ⊢
  have hb' : p ∣ 2 * (u1 * u2) := by
    have e2 : u1 * u2 + u2 * u1 - (t * -1 + 1 * t) = 2 * (u1 * u2) := by grind
    rwa [e2] at hb
  have h2 : ¬ p ∣ 2 := small_dvd (by decide) (by omega) (by omega)
  have huv : p ∣ u1 ∨ p ∣ u2 := by
    rcases h.mul hb' with h3 | h3
    · exact absurd h3 h2
    · exact h.mul h3
  have hN : p ∣ u1 * u1 + d * (u2 * u2) - x := by
    have := Int.dvd_add ha hx
    have e2 : u1 * u1 + d * (u2 * u2) - (t * t + d * (1 * -1)) + (t * t - d - x) = u1 * u1 + d * (u2 * u2) - x := by grind
    rwa [e2] at this
  rcases huv with h3 | h3
  · -- u1 = 0
    exfalso
    have hdv : p ∣ d * (u2 * u2) - x := by
      have := Int.dvd_sub hN (show p ∣ u1 * u1 from Int.dvd_mul_of_dvd_left h3)
      have e2 : u1 * u1 + d * (u2 * u2) - x - u1 * u1 = d * (u2 * u2) - x := by omega
      rwa [e2] at this
    have hxn : ¬ p ∣ x := fun hdx => by
      have hp : p ∣ x ^ m := by
        obtain ⟨k, rfl⟩ : ∃ k, m = k + 1 := ⟨m - 1, by omega⟩
        rw [Int.pow_succ]; exact Int.dvd_mul_of_dvd_right hdx
      have := Int.dvd_sub hp hx1
      rw [show x ^ m - (x ^ m - 1) = 1 by omega] at this
      exact small_dvd (by decide) (by omega) (by omega) this
    have hvn : ¬ p ∣ u2 := fun hdv2 => hxn (by
      have h4 : p ∣ d * (u2 * u2) := Int.dvd_mul_of_dvd_right (Int.dvd_mul_of_dvd_left hdv2)
      have := Int.dvd_sub h4 hdv
      rwa [show d * (u2 * u2) - (d * (u2 * u2) - x) = x by omega] at this)
    have hc := pow_congr hdv m
    rw [Int.mul_pow] at hc
    have hs := sq_half h hm (s := u2) (x := u2 * u2) (fun hd => by rcases h.mul hd with h | h <;> exact hvn h) (by simp)
    obtain ⟨a, ha⟩ := hc; obtain ⟨b, hb⟩ := hs; obtain ⟨c, hc⟩ := hd; obtain ⟨f, hf⟩ := hx1
    refine h2 ⟨-(a + f) + c * (u2 * u2) ^ m - b, ?_⟩
    grind
  · have := Int.dvd_sub hN (show p ∣ d * (u2 * u2) from Int.dvd_mul_of_dvd_right (Int.dvd_mul_of_dvd_left h3))
    rwa [show u1 * u1 + d * (u2 * u2) - x - d * (u2 * u2) = u1 * u1 - x by omega] at this

/-- roots are alike but for the sign -/
theorem roots {p : Int} (h : PI p) {s u x : Int} (hs : p ∣ s * s - x) (hu : p ∣ u * u - x) : p ∣ u - s ∨ p ∣ u + s := by
  have := Int.dvd_sub hu hs
  have e : u * u - x - (s * s - x) = (u - s) * (u + s) := by grind
  rw [e] at this
  exact h.mul this
theorem min_root {p : Int} (h : PI p) {s u x : Int} (hs : p ∣ s * s - x) (hu : p ∣ u * u - x) (s1 : 1 ≤ s) (s2 : 2 * s < p) (u0 : 0 ≤ u) (u1 : u < p) : (if p - u < u then p - u else u) = s := by
  rcases roots h hs hu with hd | hd
  · have : u = s := by
      exact Classical.byContradiction fun hn => small_dvd (by omega) (by omega) (by omega) hd
    subst this; rw [if_neg (by omega)]
  · have : u = p - s := by
      have hd' : p ∣ u + s - p := Int.dvd_sub hd (Int.dvd_refl p)
      exact Classical.byContradiction fun hn => small_dvd (by omega) (by omega) (by omega) hd'
    subst this; rw [if_pos (by omega)]; omega
end Nt
end
