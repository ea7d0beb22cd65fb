import Derived.Test.YteghdokklckbhaaDoorXPlain2
/-!
modular.Next finds the least.
-/
open Go
namespace Ab

theorem nextF_spec {q : Int} (hq : primeF q = true) : ∀ (k : Nat) (x : Int), (q - x).toNat = k → x ≤ q →
    ∃ r, nextF x = (r, 0) ∧ x ≤ r ∧ r ≤ q ∧ primeF r = true ∧ ∀ j, x ≤ j → j < r → primeF j = false := by
  have hq2 := (primeF_iff q).1 hq
  intro k
  induction k with
  | zero =>
    intro x hk hx
    have : x = q := by omega
    subst this
    refine ⟨x, ?_, Int.le_refl _, Int.le_refl _, hq, fun j h1 h2 => by omega⟩
    rw [nextF, dif_pos hq2.2.1, if_pos hq]
  | succ k ih =>
    intro x hk hx
    rw [nextF, dif_pos (by omega)]
    by_cases h : primeF x = true
    · rw [if_pos h]
      exact ⟨x, rfl, Int.le_refl _, hx, h, fun j h1 h2 => by omega⟩
    · rw [if_neg h]
      obtain ⟨r, h1, h2, h3, h4, h5⟩ := ih (x + 1) (by omega) (by omega)
      refine ⟨r, h1, by omega, h3, h4, fun j h6 h7 => ?_⟩
      by_cases e : j = x
      · subst e; simpa using h
      · exact h5 j (by omega) h7
end Ab
