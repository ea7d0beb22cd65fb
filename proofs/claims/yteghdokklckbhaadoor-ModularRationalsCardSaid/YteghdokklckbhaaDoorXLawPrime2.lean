import Derived.Test.YteghdokklckbhaaDoorXLawPrime
/-!
The law's prime is one.
-/
open Go Go.Proofs
namespace Ab

def tryR (n s : Nat) : Nat → Bool
  | 0 => true
  | c + 1 => and (not (Nat.beq (n % (s + c)) 0)) (tryR n s c)
def tryRR (n w : Nat) : Nat → Bool
  | 0 => true
  | i + 1 => and (tryR n (i * w + 2) w) (tryRR n w i)
theorem tryR_ok {n s : Nat} : ∀ {c : Nat}, tryR n s c = true → ∀ d, s ≤ d → d < s + c → n % d ≠ 0
  | 0, _, d, h1, h2 => by omega
  | c + 1, h, d, h1, h2 => by
      simp only [tryR, Bool.and_eq_true, Bool.not_eq_true'] at h
      by_cases e : d = s + c
      · subst e
        intro h3
        rw [h3] at h
        exact absurd h.1 (by decide)
      · exact tryR_ok h.2 d h1 (by omega)
theorem tryRR_ok {n w : Nat} : ∀ {i : Nat}, tryRR n w i = true → ∀ d, 2 ≤ d → d < i * w + 2 → n % d ≠ 0
  | 0, _, d, h1, h2 => by omega
  | i + 1, h, d, h1, h2 => by
      simp only [tryRR, Bool.and_eq_true] at h
      by_cases e : d < i * w + 2
      · exact tryRR_ok h.2 d h1 e
      · exact tryR_ok h.1 d (by omega) (by rw [Nat.add_mul] at h2; omega)
set_option maxRecDepth 100000 in
theorem prm_most : Nt.Prm 2147483647 :=
  prm_trial (by decide) fun d h1 h2 => tryRR_ok (w := 216) (i := 216) (by decide +kernel) d h1 (by
    by_cases h : d < 216 * 216 + 2
    · exact h
    · have : 46600 * 46600 ≤ d * d := Nat.mul_le_mul (by omega) (by omega)
      omega)
theorem primeF_most : primeF 2147483647 = true := (primeF_iff _).2 ⟨by decide, by decide, prm_most⟩

theorem lawP_prime (n : Int) (h1 : -9223372036854775808 ≤ n) (h2 : n ≤ 9223372036854775807) : primeF (lawP n) = true := by
  have hm : 0 < mostF n ∧ mostF n ≤ 2147483647 := by unfold mostF; split; decide; split; decide; split; decide; decide
  have hq : n.tdiv 4 ≤ 9223372036854775807 ∧ -9223372036854775808 ≤ n.tdiv 4 := by
    rcases Int.le_total 0 n with h | h
    · rw [Int.tdiv_eq_ediv_of_nonneg h]; omega
    · rw [show n = -(-n) by omega, Int.neg_tdiv, Int.tdiv_eq_ediv_of_nonneg (by omega)]; omega
  have hb := pickF_bd (x := w64 (n.tdiv 4)) (n := mostF n) hm.1 (by rw [w64_eq (by omega)]; omega) (by rw [w64_eq (by omega)]; omega)
  unfold lawP
  obtain ⟨r, r1, r2, r3, r4, r5⟩ := nextF_spec primeF_most _ (if pickF (w64 (n.tdiv 4)) (mostF n) < 3 then 3 else pickF (w64 (n.tdiv 4)) (mostF n)) rfl (by split <;> omega)
  rw [r1]; exact r4
theorem lawP_bd (n : Int) (h1 : -9223372036854775808 ≤ n) (h2 : n ≤ 9223372036854775807) : 3 ≤ lawP n ∧ lawP n ≤ 2147483647 ∧ Nt.Prm (lawP n).toNat :=
  (primeF_iff _).1 (lawP_prime n h1 h2)
end Ab
