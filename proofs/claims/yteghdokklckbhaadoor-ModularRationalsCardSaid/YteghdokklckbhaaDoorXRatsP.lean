import Derived.Test.YteghdokklckbhaaDoorXLiftQ
/-!
Residues of sums, products and quotients of fractions: plain.
-/
open Go Go.Proofs
namespace Ab

theorem mul_ne {p x y : Int} (h : Pr p) (hx : x % p ≠ 0) (hy : y % p ≠ 0) : x * y % p ≠ 0 := fun e => hy (by
  have := cancel (x := y) (y := 0) h hx (by rw [e, Int.mul_zero, Int.zero_emod])
  rwa [Int.zero_emod] at this)
theorem dvd_ne {p g q : Int} (h : g * q % p ≠ 0) : g % p ≠ 0 ∧ q % p ≠ 0 :=
  ⟨fun e => h (by rw [Int.mul_emod, e, Int.zero_mul, Int.zero_emod]), fun e => h (by rw [Int.mul_emod, e, Int.mul_zero, Int.zero_emod])⟩
theorem ratF_quo {p S Q g : Int} (h : Pr p) (hQ : Q % p ≠ 0) (gS : g ∣ S) (gQ : g ∣ Q) : Q * ratF p (S / g) (Q / g) % p = S % p ∧ (Q / g) % p ≠ 0 := by
  obtain ⟨s, rfl⟩ := gS
  obtain ⟨q, rfl⟩ := gQ
  have hq := dvd_ne hQ
  have g0 : g ≠ 0 := fun e => hq.1 (by rw [e, Int.zero_emod])
  rw [Int.mul_ediv_cancel_left _ g0, Int.mul_ediv_cancel_left _ g0]
  refine ⟨?_, hq.2⟩
  have e := ratF_mul (N := s) h hq.2
  rw [Int.mul_assoc, ← mul_emod_r, e, mul_emod_r]
theorem emod_ex {x y p : Int} (h : x % p = y % p) : ∃ k, x = y + p * k := by
  have a := Int.emod_add_mul_ediv x p
  have b := Int.emod_add_mul_ediv y p
  exact ⟨x / p - y / p, by rw [Int.mul_sub]; omega⟩
theorem ex_emod {x y p : Int} (h : ∃ k, x = y + p * k) : x % p = y % p := by
  obtain ⟨k, rfl⟩ := h
  rw [Int.add_mul_emod_self_left]
theorem ratF_self {p N D : Int} (h : Pr p) : ratF p N D % p = ratF p N D := Int.emod_eq_of_lt (ratF_bd h N D).1 (ratF_bd h N D).2
theorem rat_sum {p N D M F g : Int} (h : Pr p) (hD : D % p ≠ 0) (hF : F % p ≠ 0) (gS : g ∣ N * F + M * D) (gQ : g ∣ D * F) :
    ratF p ((N * F + M * D) / g) (D * F / g) = (ratF p N D + ratF p M F) % p := by
  have q := (ratF_quo h (mul_ne h hD hF) gS gQ).1
  have s := ratF_self (N := (N * F + M * D) / g) (D := D * F / g) h
  obtain ⟨k1, e1⟩ := emod_ex (ratF_mul (N := N) h hD)
  obtain ⟨k2, e2⟩ := emod_ex (ratF_mul (N := M) h hF)
  rw [← s]
  refine cancel h (mul_ne h hD hF) ?_
  rw [q]
  generalize ratF p N D = a at *
  generalize ratF p M F = b at *
  exact (ex_emod ⟨F * k1 + D * k2, by grind⟩).symm
theorem rat_prod {p N D M F g : Int} (h : Pr p) (hD : D % p ≠ 0) (hF : F % p ≠ 0) (gS : g ∣ N * M) (gQ : g ∣ D * F) :
    ratF p (N * M / g) (D * F / g) = ratF p N D * ratF p M F % p := by
  have q := (ratF_quo h (mul_ne h hD hF) gS gQ).1
  have s := ratF_self (N := N * M / g) (D := D * F / g) h
  obtain ⟨k1, e1⟩ := emod_ex (ratF_mul (N := N) h hD)
  obtain ⟨k2, e2⟩ := emod_ex (ratF_mul (N := M) h hF)
  rw [← s]
  refine cancel h (mul_ne h hD hF) ?_
  rw [q]
  generalize ratF p N D = a at *
  generalize ratF p M F = b at *
  refine (ex_emod ⟨k1 * M + N * k2 + p * k1 * k2, ?_⟩).symm
  rw [show D * F * (a * b) = (D * a) * (F * b) by grind, e1, e2]
  grind
theorem ratF_num {p M F : Int} (h : Pr p) (hF : F % p ≠ 0) (hb : ratF p M F ≠ 0) : M % p ≠ 0 := fun e => hb (by
  have := ratF_mul (N := M) h hF
  have s := ratF_self (N := M) (D := F) h
  rw [← s]
  have c := cancel (y := 0) h hF (by rw [this, e, Int.mul_zero, Int.zero_emod])
  rw [c, Int.zero_emod])
theorem rat_quot {p N D M F S Q g : Int} (h : Pr p) (hD : D % p ≠ 0) (hF : F % p ≠ 0) (hM : M % p ≠ 0) (hs : (S = N * F ∧ Q = D * M) ∨ (S = -(N * F) ∧ Q = -(D * M))) (gS : g ∣ S) (gQ : g ∣ Q) :
    ratF p (S / g) (Q / g) * ratF p M F % p = ratF p N D ∧ (Q / g) % p ≠ 0 := by
  have hQ : Q % p ≠ 0 := by
    have hm := mul_ne h hD hM
    rcases hs with ⟨_, rfl⟩ | ⟨_, rfl⟩
    · exact hm
    · exact fun e => hm (by
        have := Int.dvd_of_emod_eq_zero e
        exact Int.emod_eq_zero_of_dvd (Int.dvd_neg.1 this))
  obtain ⟨q, q2⟩ := ratF_quo h hQ gS gQ
  refine ⟨?_, q2⟩
  obtain ⟨k1, e1⟩ := emod_ex (ratF_mul (N := N) h hD)
  obtain ⟨k2, e2⟩ := emod_ex (ratF_mul (N := M) h hF)
  obtain ⟨k3, e3⟩ := emod_ex q
  rw [← ratF_self (N := N) (D := D) h]
  refine cancel h (mul_ne h hD hF) ?_
  generalize ratF p (S / g) (Q / g) = X at *
  generalize ratF p N D = a at *
  generalize ratF p M F = b at *
  have e4 : D * F * a % p = F * N % p := ex_emod ⟨F * k1, by grind⟩
  rw [e4]
  rcases hs with ⟨rfl, rfl⟩ | ⟨rfl, rfl⟩
  · refine ex_emod ⟨k3 + D * X * k2, ?_⟩
    rw [show D * F * (X * b) = D * X * (F * b) by grind, e2]
    grind
  · refine ex_emod ⟨-k3 + D * X * k2, ?_⟩
    rw [show D * F * (X * b) = D * X * (F * b) by grind, e2]
    grind
end Ab
