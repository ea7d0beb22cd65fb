import Derived.Test.YteghdokklckbhaaDoorXNt
/-!
Plain number theory: roots of polynomials modulo a prime, Euler's criterion, the field with p^2 elements.
-/
namespace Nt

/-- an odd prime among the integers -/
structure PI (p : Int) : Prop where
  lo : 3 ≤ p
  prm : Prm p.toNat

theorem PI.nat {p : Int} (h : PI p) : ((p.toNat : Nat) : Int) = p := by have := h.lo; omega
theorem PI.mul {p : Int} (h : PI p) {a b : Int} (hd : p ∣ a * b) : p ∣ a ∨ p ∣ b := by
  have e := h.nat
  have ea : p.natAbs = p.toNat := by omega
  have h1 : p.toNat ∣ a.natAbs * b.natAbs := by
    rw [← Int.natAbs_mul, ← ea]; exact Int.natAbs_dvd_natAbs.2 hd
  rcases h.prm.dvd_mul h1 with h2 | h2
  · exact .inl (Int.natAbs_dvd_natAbs.1 (by rw [ea]; exact h2))
  · exact .inr (Int.natAbs_dvd_natAbs.1 (by rw [ea]; exact h2))
theorem pow_congr {p a b : Int} (h : p ∣ a - b) : ∀ n : Nat, p ∣ a ^ n - b ^ n
  | 0 => by simp
  | n + 1 => by
      obtain ⟨k, hk⟩ := h
      obtain ⟨l, hl⟩ := pow_congr ⟨k, hk⟩ n
      refine ⟨a ^ n * k + b * l, ?_⟩
      rw [Int.pow_succ, Int.pow_succ, Int.mul_add, ← Int.mul_assoc, ← Int.mul_assoc, Int.mul_comm p, Int.mul_assoc, ← hk, Int.mul_comm p, Int.mul_assoc b, ← hl]
      grind
theorem PI.pow {p : Int} (h : PI p) {a : Int} {n : Nat} (hd : p ∣ a ^ n) : p ∣ a := by
  induction n with
  | zero =>
    exfalso
    rw [Int.pow_zero] at hd
    have := Int.le_of_dvd (by decide) hd
    have := h.lo; omega
  | succ n ih =>
    rw [Int.pow_succ] at hd
    rcases h.mul hd with h1 | h1
    · exact ih h1
    · exact h1
theorem small_dvd {p a : Int} (h0 : a ≠ 0) (h1 : -p < a) (h2 : a < p) : ¬ p ∣ a := by
  rintro ⟨k, hk⟩
  have hp : 0 < p := by omega
  by_cases hk0 : k = 0
  · subst hk0; simp at hk; exact h0 hk
  · rcases Int.lt_or_gt_of_ne hk0 with h | h
    · have : p * k ≤ p * (-1) := Int.mul_le_mul_of_nonneg_left (by omega) (by omega)
      omega
    · have : p * 1 ≤ p * k := Int.mul_le_mul_of_nonneg_left (by omega) (by omega)
      omega
theorem dvd_emod {p a : Int} : p ∣ a % p - a := by
  refine ⟨-(a / p), ?_⟩
  have := Int.emod_add_mul_ediv a p
  grind
theorem emod_eq_of_dvd {p a b : Int} (h : p ∣ a - b) : a % p = b % p := Int.emod_eq_emod_iff_emod_sub_eq_zero.2 (Int.emod_eq_zero_of_dvd h)

theorem fermatI {p : Int} (h : PI p) {x : Int} (hx : ¬ p ∣ x) : p ∣ x ^ (p.toNat - 1) - 1 := by
  have h1 := h.lo
  have e := h.nat
  have hm0 : 0 ≤ x % p := Int.emod_nonneg _ (by omega)
  have hm1 : x % p < p := Int.emod_lt_of_pos _ (by omega)
  have hne : x % p ≠ 0 := fun h => hx (Int.dvd_of_emod_eq_zero h)
  have hf := Prm.fermat (a := (x % p).toNat) h.prm (fun hd => by have := Nat.le_of_dvd (by omega) hd; omega)
  have e2 : (((x % p).toNat : Nat) : Int) = x % p := by omega
  have h3 : (((x % p).toNat ^ (p.toNat - 1) % p.toNat : Nat) : Int) = 1 := by rw [hf]; rfl
  rw [Int.natCast_emod, Int.natCast_pow, e, e2] at h3
  have h4 : x ^ (p.toNat - 1) % p = (x % p) ^ (p.toNat - 1) % p := (emod_eq_of_dvd (pow_congr dvd_emod _)).symm
  rw [← h4] at h3
  have := Int.emod_add_mul_ediv (x ^ (p.toNat - 1)) p
  rw [h3] at this
  exact ⟨x ^ (p.toNat - 1) / p, by omega⟩
theorem fermatI' {p : Int} (h : PI p) (x : Int) : p ∣ x ^ p.toNat - x := by
  have h1 := h.lo
  have e : p.toNat = (p.toNat - 1) + 1 := by omega
  by_cases hx : p ∣ x
  · rw [e, Int.pow_succ]
    obtain ⟨k, hk⟩ := hx
    exact ⟨x ^ (p.toNat - 1) * k - k, by rw [Int.mul_sub, ← hk, ← Int.mul_assoc, Int.mul_comm p, Int.mul_assoc, ← hk]⟩
  · obtain ⟨k, hk⟩ := fermatI h hx
    rw [e, Int.pow_succ]
    exact ⟨k * x, by rw [← Int.mul_assoc, ← hk]; grind⟩

/-! polynomials, their lowest coefficient first -/
def pev : List Int → Int → Int
  | [], _ => 0
  | a :: c, x => a + x * pev c x
def pdv : List Int → Int → List Int
  | [], _ => []
  | [_], _ => []
  | _ :: b :: c, r => pev (b :: c) r :: pdv (b :: c) r
theorem pdv_ev : ∀ (c : List Int) (x r : Int), pev c x - pev c r = (x - r) * pev (pdv c r) x
  | [], x, r => by simp [pev, pdv]
  | [a], x, r => by simp [pev, pdv]
  | a :: b :: c, x, r => by
      have ih := pdv_ev (b :: c) x r
      show a + x * pev (b :: c) x - (a + r * pev (b :: c) r) = (x - r) * (pev (b :: c) r + x * pev (pdv (b :: c) r) x)
      generalize pev (b :: c) x = X at *
      generalize pev (b :: c) r = R at *
      generalize pev (pdv (b :: c) r) x = Q at *
      grind
theorem pdv_len : ∀ (c : List Int) (r : Int), (pdv c r).length = c.length - 1
  | [], _ => rfl
  | [_], _ => rfl
  | _ :: b :: c, r => by rw [pdv, List.length_cons, pdv_len (b :: c) r]; simp
theorem pdv_last : ∀ (c : List Int) (r : Int), 2 ≤ c.length → (pdv c r).getLast? = c.getLast?
  | [], _, h => by simp at h
  | [_], _, h => by simp at h
  | [a, b], r, _ => by simp [pdv, pev]
  | a :: b :: b' :: c, r, _ => by
      have := pdv_last (b :: b' :: c) r (by simp)
      rw [pdv, List.getLast?_cons, this]
      simp [List.getLast?_cons]

/-- a polynomial has no more roots than its degree -/
theorem lagrange {p : Int} (h : PI p) : ∀ (n : Nat) (c L : List Int) (a : Int), c.length = n + 1 → c.getLast? = some a → ¬ p ∣ a → L.length = n + 1 → (L.Pairwise fun x y => ¬ p ∣ y - x) → (∀ x ∈ L, p ∣ pev c x) → False
  | 0, c, L, a, hc, hl, ha, hL, _, hr => by
      match c, hc with
      | [b], _ =>
        simp at hl; subst hl
        match L, hL with
        | [x], _ =>
          have := hr x (by simp)
          simp [pev] at this
          exact ha this
  | n + 1, c, L, a, hc, hl, ha, hL, hp, hr => by
      match L, hL with
      | x :: L, hL =>
        have hx := hr x (by simp)
        have hp' := List.pairwise_cons.1 hp
        refine lagrange h n (pdv c x) L a (by rw [pdv_len, hc]; rfl) (by rw [pdv_last c x (by omega)]; exact hl) ha (by simpa using hL) hp'.2 fun y hy => ?_
        have h1 := pdv_ev c y x
        have h2 : p ∣ (y - x) * pev (pdv c x) y := by rw [← h1]; exact Int.dvd_sub (hr y (by simp [hy])) hx
        rcases h.mul h2 with h3 | h3
        · exact absurd h3 (hp'.1 y hy)
        · exact h3

def pmon : Nat → List Int
  | 0 => [1]
  | k + 1 => 0 :: pmon k
theorem pmon_ev (x : Int) : ∀ k, pev (pmon k) x = x ^ k
  | 0 => by simp [pmon, pev]
  | k + 1 => by rw [pmon, pev, pmon_ev x k, Int.pow_succ]; grind
theorem pmon_len : ∀ k, (pmon k).length = k + 1
  | 0 => rfl
  | k + 1 => by rw [pmon, List.length_cons, pmon_len k]
theorem pmon_last : ∀ k, (pmon k).getLast? = some 1
  | 0 => rfl
  | k + 1 => by rw [pmon, List.getLast?_cons, pmon_last k]; rfl

/-- Euler's criterion -/
theorem euler {p : Int} (h : PI p) {m : Nat} (hm : p = 2 * m + 1) {x : Int} (hx : p ∣ x ^ m - 1) : ∃ s : Int, 1 ≤ s ∧ s ≤ m ∧ p ∣ s * s - x := by
  have h1 := h.lo
  refine Classical.byContradiction fun hn => ?_
  obtain ⟨k, rfl⟩ : ∃ k, m = k + 1 := ⟨m - 1, by omega⟩
  have hsq : ∀ i : Nat, i < k + 1 → ¬ p ∣ (((i : Int) + 1) * (i + 1)) - x := fun i hi hd => hn ⟨i + 1, by omega, by omega, hd⟩
  refine lagrange h (k + 1) (-1 :: pmon k) (x :: (List.range (k + 1)).map fun (i : Nat) => ((i : Int) + 1) * (i + 1)) 1 (by simp [pmon_len]) (by rw [List.getLast?_cons, pmon_last]; rfl) (small_dvd (by decide) (by omega) (by omega)) (by simp) ?_ ?_
  · refine List.pairwise_cons.2 ⟨fun y hy => ?_, List.pairwise_map.2 (List.pairwise_iff_getElem.2 fun i j hi hj hij => ?_)⟩
    · obtain ⟨i, hi, rfl⟩ := List.mem_map.1 hy
      exact hsq i (List.mem_range.1 hi)
    · simp only [List.getElem_range]
      simp at hi hj
      intro hd
      have e : ((j : Int) + 1) * (j + 1) - ((i : Int) + 1) * (i + 1) = (j - i) * (j + i + 2) := by grind
      rw [e] at hd
      rcases h.mul hd with hd | hd
      · exact small_dvd (by omega) (by omega) (by omega) hd
      · exact small_dvd (by omega) (by omega) (by omega) hd
  · intro y hy
    have hev : pev (-1 :: pmon k) y = y ^ (k + 1) - 1 := by rw [pev, pmon_ev, Int.pow_succ]; grind
    rw [hev]
    rcases List.mem_cons.1 hy with rfl | hy
    · exact hx
    · obtain ⟨i, hi, rfl⟩ := List.mem_map.1 hy
      have hi := List.mem_range.1 hi
      have hf := fermatI h (x := (i : Int) + 1) (small_dvd (by omega) (by omega) (by omega))
      have e : p.toNat - 1 = (k + 1) + (k + 1) := by omega
      rw [e, Int.pow_add] at hf
      rw [Int.mul_pow]; exact hf

/-- the half power is 1 or -1 -/
theorem half_pow {p : Int} (h : PI p) {m : Nat} (hm : p = 2 * m + 1) {x : Int} (hx : ¬ p ∣ x) : p ∣ x ^ m - 1 ∨ p ∣ x ^ m + 1 := by
  have hf := fermatI h hx
  have e : p.toNat - 1 = m + m := by have := h.lo; omega
  rw [e, Int.pow_add] at hf
  have e2 : x ^ m * x ^ m - 1 = (x ^ m - 1) * (x ^ m + 1) := by grind
  rw [e2] at hf
  exact h.mul hf
theorem sq_half {p : Int} (h : PI p) {m : Nat} (hm : p = 2 * m + 1) {s x : Int} (hx : ¬ p ∣ x) (hs : p ∣ s * s - x) : p ∣ x ^ m - 1 := by
  have hsn : ¬ p ∣ s := fun hd => hx (by
    obtain ⟨a, ha⟩ := hd; obtain ⟨b, hb⟩ := hs
    exact ⟨s * a - b, by rw [Int.mul_sub, ← hb, Int.mul_comm p, Int.mul_assoc, Int.mul_comm a, ← ha]; omega⟩)
  have hf := fermatI h hsn
  have e : p.toNat - 1 = m + m := by have := h.lo; omega
  rw [e, Int.pow_add, ← Int.mul_pow] at hf
  have hc : p ∣ (s * s) ^ m - x ^ m := pow_congr hs m
  have := Int.dvd_sub hf hc
  have e3 : (s * s) ^ m - 1 - ((s * s) ^ m - x ^ m) = x ^ m - 1 := by omega
  rwa [e3] at this
end Nt
