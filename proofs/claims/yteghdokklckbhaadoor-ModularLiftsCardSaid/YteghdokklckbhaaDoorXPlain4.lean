import Derived.Test.YteghdokklckbhaaDoorXPlain3
/-!
A prime above a million.
-/
namespace Ab
theorem prm_trial {n : Nat} (hn : 2 ≤ n) (h : ∀ d, 2 ≤ d → d * d ≤ n → n % d ≠ 0) : Nt.Prm n := by
  refine ⟨hn, fun d hd => ?_⟩
  obtain ⟨k, hk⟩ := hd
  by_cases h1 : d = 1
  · exact .inl h1
  by_cases h2 : d = n
  · exact .inr h2
  exfalso
  have hd0 : d ≠ 0 := by rintro rfl; simp at hk; omega
  have hk0 : k ≠ 0 := by rintro rfl; simp at hk; omega
  have hk1 : k ≠ 1 := by rintro rfl; simp at hk; omega
  rcases Nat.le_total d k with hle | hle
  · refine h d (by omega) ?_ (by rw [hk]; simp)
    rw [hk]; exact Nat.mul_le_mul_left _ hle
  · refine h k (by omega) ?_ (by rw [hk]; simp)
    rw [hk]; exact Nat.mul_le_mul_right _ hle

def tryAll (n : Nat) : Nat → Bool
  | 0 => true
  | d + 1 => and (not (Nat.beq (n % (d + 2)) 0)) (tryAll n d)
theorem tryAll_ok {n : Nat} : ∀ {m : Nat}, tryAll n m = true → ∀ d, 2 ≤ d → d < m + 2 → n % d ≠ 0
  | 0, _, d, h1, h2 => by omega
  | m + 1, h, d, h1, h2 => by
      simp only [tryAll, Bool.and_eq_true, Bool.not_eq_true'] at h
      by_cases e : d = m + 2
      · subst e
        intro h3
        rw [h3] at h
        exact absurd h.1 (by decide)
      · exact tryAll_ok h.2 d h1 (by omega)
set_option maxRecDepth 100000 in
theorem prm_million : Nt.Prm 1000003 :=
  prm_trial (by decide) fun d h1 h2 => tryAll_ok (m := 1000) (by decide +kernel) d h1 (by
    by_cases h : d < 1002
    · exact h
    · have : 1002 * 1002 ≤ d * d := Nat.mul_le_mul (by omega) (by omega)
      omega)
theorem primeF_million : primeF 1000003 = true := (primeF_iff _).2 ⟨by decide, by decide, prm_million⟩
end Ab
