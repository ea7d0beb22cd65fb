/-!
Rational reconstruction: plain.
-/
namespace Ab

/-- the state of Euclid's algorithm: remainders r, n and their factors t, d -/
structure Eu (p a r n t d : Int) : Prop where
  c1 : ∃ k, r - t * a = p * k
  c2 : ∃ k, n - d * a = p * k
  det : r * d - t * n = p ∨ r * d - t * n = -p
  sg : (0 ≤ d ∧ t ≤ 0) ∨ (d ≤ 0 ∧ 0 ≤ t)
  d0 : d ≠ 0
  n0 : 0 ≤ n
  nr : n < r
theorem eu_init {p a : Int} (h0 : 0 ≤ a) (h1 : a < p) : Eu p a p a 0 1 := ⟨⟨1, by omega⟩, ⟨0, by omega⟩, .inl (by omega), .inl ⟨by decide, Int.le_refl _⟩, by decide, h0, h1⟩
theorem eu_next {p a r n t d : Int} (h : Eu p a r n t d) (hn : 0 < n) : Eu p a n (r - r / n * n) d (t - r / n * d) := by
  obtain ⟨⟨k1, c1⟩, ⟨k2, c2⟩, det, sg, d0, n0, nr⟩ := h
  have q0 : 1 ≤ r / n := (Int.le_ediv_iff_mul_le hn).2 (by omega)
  have m0 := Int.emod_nonneg r (show n ≠ 0 by omega)
  have m1 := Int.emod_lt_of_pos r hn
  have e := Int.mul_ediv_add_emod r n
  rw [Int.mul_comm] at e
  generalize r / n = q at *
  refine ⟨⟨k2, c2⟩, ⟨k1 - q * k2, by grind⟩, ?_, ?_, ?_, by omega, by omega⟩
  · rcases det with h | h
    · right; grind
    · left; grind
  · rcases sg with ⟨s1, s2⟩ | ⟨s1, s2⟩
    · right
      have := Int.mul_nonneg (show 0 ≤ q by omega) s1
      omega
    · left
      have := Int.mul_nonpos_of_nonneg_of_nonpos (show 0 ≤ q by omega) s1
      omega
  · rcases sg with ⟨s1, s2⟩ | ⟨s1, s2⟩
    · have : 0 < q * d := Int.mul_pos (by omega) (by omega)
      omega
    · have : q * d < 0 := Int.mul_neg_of_pos_of_neg (by omega) (by omega)
      omega
/-- the factors stay below p -/
theorem eu_bd {p a r n t d : Int} (hp : 0 < p) (h : Eu p a r n t d) : -p ≤ d ∧ d ≤ p := by
  obtain ⟨_, _, det, sg, d0, n0, nr⟩ := h
  rcases sg with ⟨s1, s2⟩ | ⟨s1, s2⟩
  · have a1 : 0 ≤ -t * n := Int.mul_nonneg (by omega) n0
    have a2 : 1 * d ≤ r * d := Int.mul_le_mul_of_nonneg_right (by omega) s1
    rw [Int.neg_mul] at a1
    rcases det with h | h <;> omega
  · have a1 : 0 ≤ t * n := Int.mul_nonneg s2 n0
    have a2 : r * d ≤ 1 * d := Int.mul_le_mul_of_nonpos_right (by omega) s1
    rcases det with h | h <;> omega

theorem ab {x y : Int} (h : x.natAbs ≤ y.natAbs) : -(y.natAbs : Int) ≤ x ∧ x ≤ (y.natAbs : Int) := by omega
/-- a small fraction is found -/
theorem lift_uniq {p a r n t d N D M : Int} (hp : 0 < p) (h : Eu p a r n t d) (hr : M < r) (hn : n ≤ M) (hM : 2 * (M * M) < p) (hN1 : -M ≤ N) (hN2 : N ≤ M) (hD1 : 0 < D) (hD2 : D ≤ M) (hc : ∃ k, N - D * a = p * k) (hg : Int.gcd N D = 1) :
    (N = n ∧ D = d) ∨ (N = -n ∧ D = -d) := by
  obtain ⟨⟨k1, c1⟩, ⟨k2, c2⟩, det, sg, d0, n0, nr⟩ := h
  obtain ⟨k, hc⟩ := hc
  have hM0 : 0 < M := by omega
  -- N = al r + be n, D = al t + be d
  have key : ∃ al be, N = al * r + be * n ∧ D = al * t + be * d := by
    have x1 : N * d - D * n = p * (k * d - D * k2) := by grind
    have x2 : D * r - N * t = p * (D * k1 - k * t) := by grind
    rcases det with e | e
    · refine ⟨k * d - D * k2, D * k1 - k * t, ?_, ?_⟩
      · refine Int.eq_of_mul_eq_mul_left (show p ≠ 0 by omega) ?_
        rw [Int.mul_add, ← Int.mul_assoc, ← Int.mul_assoc, ← x1, ← x2, ← e]; grind
      · refine Int.eq_of_mul_eq_mul_left (show p ≠ 0 by omega) ?_
        rw [Int.mul_add, ← Int.mul_assoc, ← Int.mul_assoc, ← x1, ← x2, ← e]; grind
    · have e' : p = t * n - r * d := by omega
      refine ⟨-(k * d - D * k2), -(D * k1 - k * t), ?_, ?_⟩
      · refine Int.eq_of_mul_eq_mul_left (show p ≠ 0 by omega) ?_
        rw [Int.mul_add, ← Int.mul_assoc, ← Int.mul_assoc, Int.mul_neg, Int.mul_neg, ← x1, ← x2, e']; grind
      · refine Int.eq_of_mul_eq_mul_left (show p ≠ 0 by omega) ?_
        rw [Int.mul_add, ← Int.mul_assoc, ← Int.mul_assoc, Int.mul_neg, Int.mul_neg, ← x1, ← x2, e']; grind
  obtain ⟨al, be, e1, e2⟩ := key
  have hal : al = 0 := by
    refine Decidable.byContradiction fun ha => ?_
    -- N d - D n = al (r d - t n)
    have e3 : N * d - D * n = al * (r * d - t * n) := by rw [e1, e2]; grind
    have hap : p ≤ N * d - D * n ∨ N * d - D * n ≤ -p := by
      have pos : ∀ z : Int, 0 < z → p ≤ z * p := fun z hz => by
        have := Int.mul_le_mul_of_nonneg_right (show 1 ≤ z from hz) (Int.le_of_lt hp)
        omega
      rw [e3]
      rcases det with e | e <;> rw [e]
      · rcases Int.lt_or_gt_of_ne ha with g | g
        · right
          have := pos (-al) (by omega)
          rw [Int.neg_mul] at this
          omega
        · left; exact pos al g
      · rw [Int.mul_neg]
        rcases Int.lt_or_gt_of_ne ha with g | g
        · left
          have := pos (-al) (by omega)
          rw [Int.neg_mul] at this
          omega
        · right
          have := pos al g
          omega
    -- |d| ≤ M unless N is too large
    have hd : (-M ≤ d ∧ d ≤ M) := by
      have rr : ∀ z : Int, 0 < z → r ≤ z * r := fun z hz => by
        have := Int.mul_le_mul_of_nonneg_right (show 1 ≤ z from hz) (show 0 ≤ r by omega)
        omega
      rcases Int.lt_or_gt_of_ne ha with ga | ga
      · -- al < 0
        have r1 := rr (-al) (by omega)
        rw [Int.neg_mul] at r1
        have hbe : 0 < be := by
          refine Int.not_le.1 fun g => ?_
          have := Int.mul_nonpos_of_nonpos_of_nonneg g n0
          omega
        rcases sg with ⟨s1, s2⟩ | ⟨s1, s2⟩
        · have b1 : 0 ≤ al * t := Int.mul_nonneg_of_nonpos_of_nonpos (by omega) s2
          have b2 : 1 * d ≤ be * d := Int.mul_le_mul_of_nonneg_right (by omega) s1
          omega
        · have b1 : al * t ≤ 0 := Int.mul_nonpos_of_nonpos_of_nonneg (by omega) s2
          have b2 : be * d ≤ 0 := Int.mul_nonpos_of_nonneg_of_nonpos (by omega) s1
          omega
      · have r1 := rr al ga
        have hbe : be < 0 := by
          refine Int.not_le.1 fun g => ?_
          have := Int.mul_nonneg g n0
          omega
        rcases sg with ⟨s1, s2⟩ | ⟨s1, s2⟩
        · have b1 : al * t ≤ 0 := Int.mul_nonpos_of_nonneg_of_nonpos (by omega) s2
          have b2 : be * d ≤ 0 := Int.mul_nonpos_of_nonpos_of_nonneg (by omega) s1
          omega
        · have b1 : 0 ≤ al * t := Int.mul_nonneg (by omega) s2
          have b2 : be * d ≥ 1 * -d := by
            have := Int.mul_le_mul_of_nonneg_right (show 1 ≤ -be by omega) (show 0 ≤ -d by omega)
            rw [Int.neg_mul_neg] at this
            omega
          omega
    have m1 : N * d ≤ M * M ∧ -(M * M) ≤ N * d := by
      have f1 : (N.natAbs * d.natAbs : Nat) ≤ M.natAbs * M.natAbs := Nat.mul_le_mul (by omega) (by omega)
      have f2 : (N * d).natAbs ≤ (M * M).natAbs := by rw [Int.natAbs_mul, Int.natAbs_mul]; exact f1
      have f3 : 0 ≤ M * M := Int.mul_nonneg (by omega) (by omega)
      omega
    have m2 : D * n ≤ M * M ∧ 0 ≤ D * n := ⟨Int.mul_le_mul hD2 hn n0 (by omega), Int.mul_nonneg (by omega) n0⟩
    omega
  subst hal
  rw [Int.zero_mul, Int.zero_add] at e1 e2
  have hb : be.natAbs = 1 := by
    rw [e1, e2, Int.gcd_mul_left] at hg
    exact Nat.eq_one_of_mul_eq_one_right hg
  rcases Int.natAbs_eq be with g | g
  · left
    rw [g, hb] at e1 e2
    exact ⟨by simpa using e1, by simpa using e2⟩
  · right
    rw [g, hb] at e1 e2
    exact ⟨by simpa using e1, by simpa using e2⟩
end Ab
