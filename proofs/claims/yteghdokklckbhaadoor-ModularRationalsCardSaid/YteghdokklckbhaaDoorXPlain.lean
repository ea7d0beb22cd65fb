import Derived.Test.YteghdokklckbhaaDoorXNext
import Derived.WalkSmall
/-!
What modular.Prime computes.
-/
open Go
namespace Ab

theorem and_one (n : Int) (h0 : 0 ≤ n) (h1 : n ≤ 9223372036854775807) : Go.bits .and .i64 n 1 = n % 2 := by
  have h : (((BitVec.ofInt 64 n &&& BitVec.ofInt 64 1).toNat : Nat) : Int) = n % 2 := by
    have hu := Go.and_one_u64 n h0 (by omega)
    unfold Go.bits at hu
    have e : (BitVec.ofInt 64 n &&& BitVec.ofInt 64 1).toNat < 18446744073709551616 := (BitVec.ofInt 64 n &&& BitVec.ofInt 64 1).isLt
    have hw : IntKind.u64.wrap (((BitVec.ofInt 64 n &&& BitVec.ofInt 64 1).toNat : Nat) : Int) = n % 2 := hu
    rw [IntKind.wrap_u64] at hw
    omega
  unfold Go.bits
  show IntKind.i64.wrap (((BitVec.ofInt 64 n &&& BitVec.ofInt 64 1).toNat : Nat) : Int) = n % 2
  rw [h]
  exact Go.IntWalk.i64_in _ (by omega)

theorem tm_eq {a b p : Int} (ha : 0 ≤ a) (hb : 0 ≤ b) (ha2 : a ≤ 2147483647) (hb2 : b ≤ 2147483647) : tm a b p = (a * b) % p := by
  have h1 : 0 ≤ a * b := Int.mul_nonneg ha hb
  have h2 : a * b ≤ 2147483647 * 2147483647 := Int.mul_le_mul ha2 hb2 hb (by omega)
  unfold tm
  rw [Go.IntWalk.i64_in _ (by omega), Int.tmod_eq_emod_of_nonneg h1]

theorem mul_emod_l (a b p : Int) : (a % p) * b % p = a * b % p := by rw [Int.mul_emod, Int.emod_emod_of_dvd _ (Int.dvd_refl p), ← Int.mul_emod]
theorem mul_emod_r (a b p : Int) : a * (b % p) % p = a * b % p := by rw [Int.mul_comm, mul_emod_l, Int.mul_comm]
theorem pow_emod (a p : Int) : ∀ k : Nat, (a % p) ^ k % p = a ^ k % p
  | 0 => by rw [Int.pow_zero, Int.pow_zero]
  | k + 1 => by rw [Int.pow_succ, Int.pow_succ, Int.mul_emod, pow_emod a p k, Int.emod_emod_of_dvd _ (Int.dvd_refl p), ← Int.mul_emod]

/-- power is the power -/
theorem powF_eq {p : Int} (hp : 2 ≤ p) (hp2 : p ≤ 2147483647) : ∀ (k : Nat) (a n r : Int), n.toNat = k → 0 ≤ a → a ≤ 2147483647 → 0 ≤ n → n ≤ 9223372036854775807 → 0 ≤ r → r < p → powF p a n r = r * a ^ n.toNat % p := by
  intro k
  induction k using Nat.strongRecOn with
  | ind k ih =>
    intro a n r hk ha ha2 hn hn2 hr hr2
    rw [powF]
    by_cases h : n > 0
    · rw [dif_pos h]
      have e : n.fdiv 2 = n / 2 := Int.fdiv_eq_ediv_of_nonneg _ (by omega)
      have hlt := half_lt h
      rw [e] at hlt ⊢
      have haa : tm a a p = a * a % p := tm_eq ha ha ha2 ha2
      have hra : tm r a p = r * a % p := tm_eq hr ha (by omega) ha2
      have b1 := Int.emod_nonneg (a * a) (show p ≠ 0 by omega)
      have b2 := Int.emod_lt_of_pos (a * a) (show 0 < p by omega)
      have b3 := Int.emod_nonneg (r * a) (show p ≠ 0 by omega)
      have b4 := Int.emod_lt_of_pos (r * a) (show 0 < p by omega)
      rw [and_one n hn hn2, haa, hra]
      have hsq : ∀ m : Nat, (a * a) ^ m = a ^ (2 * m) := fun m => by rw [Int.pow_mul, Int.pow_succ, Int.pow_succ, Int.pow_zero, Int.one_mul]
      by_cases ho : n % 2 = 1
      · rw [if_pos (by simp [ho]), ih (n / 2).toNat (by omega) _ _ _ rfl b1 (by omega) (by omega) (by omega) b3 b4]
        have e2 : n.toNat = 2 * (n / 2).toNat + 1 := by omega
        rw [Int.mul_emod, pow_emod, Int.emod_emod_of_dvd _ (Int.dvd_refl p), ← Int.mul_emod, hsq, e2, Int.pow_succ, Int.mul_assoc, Int.mul_comm a]
      · rw [if_neg (by simp [ho]), ih (n / 2).toNat (by omega) _ _ _ rfl b1 (by omega) (by omega) (by omega) hr hr2]
        have e2 : n.toNat = 2 * (n / 2).toNat := by omega
        rw [Int.mul_emod, pow_emod, ← Int.mul_emod, hsq, e2]
    · rw [dif_neg h]
      have : n.toNat = 0 := by omega
      rw [this, Int.pow_zero, Int.mul_one, Int.emod_eq_of_lt hr hr2]

theorem splitF_eq : ∀ (k : Nat) (odd twos : Int), odd.toNat = k → 0 < odd → 0 ≤ twos → twos + odd ≤ 4294967296 →
    ∃ s : Nat, (splitF odd twos).2 = twos + s ∧ 0 < (splitF odd twos).1 ∧ (splitF odd twos).1 % 2 = 1 ∧ odd = (splitF odd twos).1 * 2 ^ s := by
  intro k
  induction k using Nat.strongRecOn with
  | ind k ih =>
    intro odd twos hk h0 ht hs
    have et : odd.tmod 2 = odd % 2 := Int.tmod_eq_emod_of_nonneg (by omega)
    rw [splitF]
    by_cases h : odd % 2 = 0
    · rw [dif_pos ⟨⟨h0, by omega⟩, by rw [et, h]; rfl⟩]
      have e : odd.tdiv 2 = odd / 2 := Int.tdiv_eq_ediv_of_nonneg (by omega)
      have e2 : w64 (odd.tdiv 2) = odd / 2 := by rw [w64, Go.IntWalk.i64_in _ (by rw [e]; omega), e]
      have e3 : w64 (twos + 1) = twos + 1 := by rw [w64, Go.IntWalk.i64_in _ (by omega)]
      rw [e2, e3]
      obtain ⟨s, h1, h2, h3, h4⟩ := ih (odd / 2).toNat (by omega) (odd / 2) (twos + 1) rfl (by omega) (by omega) (by omega)
      refine ⟨s + 1, by rw [h1]; omega, h2, h3, ?_⟩
      rw [Int.pow_succ, ← Int.mul_assoc, ← h4]; omega
    · rw [dif_neg (fun hh => h (by have := hh.2; rw [et] at this; simpa using this))]
      exact ⟨0, by simp, h0, by omega, by simp⟩

/-- the squarings: some power meets p - 1 -/
theorem passF_eq {p : Int} (hp : 2 ≤ p) (hp2 : p ≤ 2147483647) : ∀ (k : Nat) (x : Int) (ok : Bool) (i lim : Int), (lim - i).toNat = k → 0 ≤ x → x < p → i ≤ lim →
    (passF p x ok i lim = true ↔ ok = true ∨ ∃ r : Nat, 0 < r ∧ r ≤ (lim - i).toNat ∧ x ^ 2 ^ r % p = p - 1) := by
  have ew : w64 (p - 1) = p - 1 := by rw [w64, Go.IntWalk.i64_in _ (by omega)]
  intro k
  induction k with
  | zero =>
    intro x ok i lim hk hx hx2 hi
    rw [passF, dif_neg (by omega)]
    constructor
    · exact .inl
    · rintro (h | ⟨r, h1, h2, _⟩)
      · exact h
      · omega
  | succ k ih =>
    intro x ok i lim hk hx hx2 hi
    rw [passF, dif_pos (by omega)]
    have hxx : tm x x p = x * x % p := tm_eq hx hx (by omega) (by omega)
    have b1 := Int.emod_nonneg (x * x) (show p ≠ 0 by omega)
    have b2 := Int.emod_lt_of_pos (x * x) (show 0 < p by omega)
    rw [hxx, ih (x * x % p) _ (i + 1) lim (by omega) b1 b2 (by omega), ew]
    have hpow : ∀ r : Nat, (x * x % p) ^ 2 ^ r % p = x ^ 2 ^ (r + 1) % p := fun r => by
      rw [pow_emod, Nat.pow_succ, Nat.mul_comm, Int.pow_mul]
      congr 2
      rw [Int.pow_succ, Int.pow_succ, Int.pow_zero, Int.one_mul]
    have hsq2 : x * x % p = x ^ 2 ^ (0 + 1) % p := by rw [show (2 : Nat) ^ (0 + 1) = 2 from rfl, Int.pow_succ, Int.pow_succ, Int.pow_zero, Int.one_mul]
    constructor
    · rintro (h | ⟨r, h1, h2, h3⟩)
      · cases ok with
        | true => exact .inl rfl
        | false =>
          right
          refine ⟨1, by omega, by omega, ?_⟩
          have h : (x * x % p == p - 1) = true := h
          rw [← hsq2]
          exact eq_of_beq h
      · right
        exact ⟨r + 1, by omega, by omega, by rw [← hpow]; exact h3⟩
    · rintro (h | ⟨r, h1, h2, h3⟩)
      · left; rw [h]; rfl
      · rcases r with _ | _ | r
        · omega
        · left
          rw [hsq2, h3]
          cases ok <;> simp
        · right
          exact ⟨r + 1, by omega, by omega, by rw [hpow]; exact h3⟩
end Ab
