import Derived.Test.YteghdokklckbhaaDoorXLaw1
/-!
ModularPrimes: the plain facts.
-/
open Go Go.Proofs
namespace Ab

theorem pickF_bd {x n : Int} (hn : 0 < n) (h1 : -9223372036854775808 ≤ x) (h2 : x ≤ 9223372036854775807) : 0 ≤ pickF x n ∧ pickF x n < n := by
  unfold pickF
  split
  · have e : w64 (x + 1) = x + 1 := by rw [w64, Go.IntWalk.i64_in _ (by omega)]
    have e2 : w64 (0 - w64 (x + 1)) = -(x + 1) := by rw [e, w64, Go.IntWalk.i64_in _ (by omega)]; omega
    rw [e2, Int.tmod_eq_emod_of_nonneg (by omega)]
    exact ⟨Int.emod_nonneg _ (by omega), Int.emod_lt_of_pos _ hn⟩
  · rw [Int.tmod_eq_emod_of_nonneg (by omega)]
    exact ⟨Int.emod_nonneg _ (by omega), Int.emod_lt_of_pos _ hn⟩

theorem law1_spec (hs : Spec Tryd.prog glB4 10 [] (.bool true)) (n a b : Int) (hn : (Lit.int .i64 n).wf = true) (ha : (Lit.int .i64 a).wf = true) (hb : (Lit.int .i64 b).wf = true) : Spec Tryd.prog glB4 3 [.int .i64 n, .int .i64 a, .int .i64 b] (.bool true) := by
  have bd : ∀ x : Int, (Lit.int .i64 x).wf = true → -9223372036854775808 ≤ x ∧ x ≤ 9223372036854775807 := fun x hx => by
    simp only [Lit.wf, Bool.and_eq_true, decide_eq_true_eq] at hx
    exact hx
  obtain ⟨p0, p1⟩ := pickF_bd (show (0 : Int) < 1000000 by decide) (bd n hn).1 (bd n hn).2
  obtain ⟨x0, x1⟩ := pickF_bd (show (0 : Int) < 46000 by decide) (bd a ha).1 (bd a ha).2
  obtain ⟨y0, y1⟩ := pickF_bd (show (0 : Int) < 46000 by decide) (bd b hb).1 (bd b hb).2
  have hstart : 3 ≤ (if pickF n 1000000 < 3 then 3 else pickF n 1000000) ∧ pickF n 1000000 ≤ (if pickF n 1000000 < 3 then 3 else pickF n 1000000) ∧ (if pickF n 1000000 < 3 then 3 else pickF n 1000000) ≤ 1000003 := by split <;> omega
  obtain ⟨r, r1, r2, r3, r4, r5⟩ := nextF_spec primeF_million _ _ rfl hstart.2.2
  have hr := (primeF_iff r).1 r4
  refine law1 hs n a b r p0 p1 r1 hr.1 r3 (by omega) r4 (fun k h1 h2 => ?_) (fun d h1 h2 h3 => ?_) x0 x1 y0 y1 ?_ ?_ ?_
  · by_cases h3 : k < 3
    · unfold primeF; rw [if_pos h3]
    · exact r5 k (by split <;> omega) h2
  · have hd : d.toNat ∣ r.toNat := by
      rw [Int.tmod_eq_emod_of_nonneg (by omega)] at h3
      have := Int.dvd_of_emod_eq_zero h3
      have e1 : ((d.toNat : Nat) : Int) = d := by omega
      have e2 : ((r.toNat : Nat) : Int) = r := by omega
      rw [← e1, ← e2] at this
      exact Int.natCast_dvd_natCast.1 this
    have hdd : 2 * d ≤ d * d := Int.mul_le_mul_of_nonneg_right h1 (by omega)
    rcases hr.2.2.2 _ hd with h | h
    · omega
    · omega
  · have e1 : w64 (2 + pickF a 46000) = 2 + pickF a 46000 := by rw [w64, Go.IntWalk.i64_in _ (by omega)]
    have e2 : w64 (2 + pickF b 46000) = 2 + pickF b 46000 := by rw [w64, Go.IntWalk.i64_in _ (by omega)]
    rw [e1, e2]
    generalize hX : 2 + pickF a 46000 = X
    generalize hY : 2 + pickF b 46000 = Y
    have hXY : X * Y ≤ 46002 * 46002 := Int.mul_le_mul (by omega) (by omega) (by omega) (by decide)
    have hX2 : 2 * Y ≤ X * Y := Int.mul_le_mul_of_nonneg_right (by omega) (by omega)
    have e3 : w64 (X * Y) = X * Y := by rw [w64, Go.IntWalk.i64_in _ (by omega)]
    rw [e3]
    cases hc : primeF (X * Y) with
    | false => rfl
    | true =>
      exfalso
      have hp := (primeF_iff _).1 hc
      have hxn : (X * Y).toNat = X.toNat * Y.toNat := by
        have : ((X.toNat * Y.toNat : Nat) : Int) = X * Y := by
          rw [Int.natCast_mul]
          rw [show ((X.toNat : Nat) : Int) = X by omega, show ((Y.toNat : Nat) : Int) = Y by omega]
        omega
      have hd : X.toNat ∣ (X * Y).toNat := by rw [hxn]; exact Nat.dvd_mul_right _ _
      rcases hp.2.2.2 _ hd with h | h
      · omega
      · have h2 : X = X * Y := by omega
        have h4 : X * 2 ≤ X * Y := Int.mul_le_mul_of_nonneg_left (by omega) (by omega)
        omega
  · have : w64 (0 - r) = -r := by rw [w64, Go.IntWalk.i64_in _ (by omega)]; omega
    rw [this]
    unfold primeF; rw [if_pos (by omega)]
  · unfold primeF; rw [if_pos (by decide)]
end Ab
