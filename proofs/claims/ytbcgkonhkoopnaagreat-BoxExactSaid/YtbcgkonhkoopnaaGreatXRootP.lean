import Derived.Test.YtbcgkonhkoopnaaGreatXMulQ
/-!
Square roots: plain.
-/
open Go Go.Proofs
namespace Ab
set_option maxRecDepth 100000

def isq : Nat → Nat
  | 0 => 0
  | n + 1 => if (isq n + 1) * (isq n + 1) ≤ n + 1 then isq n + 1 else isq n
theorem isq_ok (n : Nat) : isq n * isq n ≤ n ∧ n < (isq n + 1) * (isq n + 1) := by
  induction n with
  | zero => exact ⟨by simp [isq], by simp [isq]⟩
  | succ n ih =>
    obtain ⟨h1, h2⟩ := ih
    simp only [isq]
    by_cases h : (isq n + 1) * (isq n + 1) ≤ n + 1
    · rw [if_pos h]
      refine ⟨h, ?_⟩
      have : (isq n + 1) * (isq n + 1) < (isq n + 1 + 1) * (isq n + 1 + 1) := Nat.mul_self_lt_mul_self (by omega)
      omega
    · rw [if_neg h]
      omega
theorem isq_uniq {r n : Nat} (h1 : r * r ≤ n) (h2 : n < (r + 1) * (r + 1)) : r = isq n := by
  obtain ⟨k1, k2⟩ := isq_ok n
  have a : r < isq n + 1 := Nat.mul_self_lt_mul_self_iff.1 (Nat.lt_of_le_of_lt h1 k2)
  have b : isq n < r + 1 := Nat.mul_self_lt_mul_self_iff.1 (Nat.lt_of_le_of_lt k1 h2)
  omega
theorem isq_mono {m n : Nat} (h : m ≤ n) : isq m ≤ isq n := by
  have a : isq m < isq n + 1 := Nat.mul_self_lt_mul_self_iff.1 (Nat.lt_of_le_of_lt (isq_ok m).1 (Nat.lt_of_le_of_lt h (isq_ok n).2))
  omega
attribute [irreducible] isq
/-- the root, rounded up -/
def csq (n : Nat) : Nat := if isq n * isq n = n then isq n else isq n + 1
theorem csq_ok (n : Nat) : n ≤ csq n * csq n ∧ isq n ≤ csq n ∧ csq n ≤ isq n + 1 := by
  unfold csq
  obtain ⟨h1, h2⟩ := isq_ok n
  split <;> omega

theorem mmmc (a b c d : Int) : a * b * (c * d) = a * c * (b * d) := by
  rw [Int.mul_assoc, Int.mul_assoc, Int.mul_left_comm b c d]

def LA (a X Y : Int) : Prop := 0 ≤ a ∧ a * (a - 2 * X) ≤ Y * Y
def HA (b X Y : Int) : Prop := 0 ≤ b ∧ 2 * X ≤ b ∧ Y * Y ≤ b * (b - 2 * X)
theorem LA.mono {a X X' Y Y' : Int} (h : LA a X Y) (hx : X ≤ X') (hy : Y * Y ≤ Y' * Y') : LA a X' Y' := by
  obtain ⟨h0, h1⟩ := h
  have : a * (a - 2 * X') ≤ a * (a - 2 * X) := Int.mul_le_mul_of_nonneg_left (by omega) h0
  exact ⟨h0, by omega⟩
theorem HA.mono {b X X' Y Y' : Int} (h : HA b X' Y') (hx : X ≤ X') (hy : Y * Y ≤ Y' * Y') : HA b X Y := by
  obtain ⟨h0, h1, h2⟩ := h
  have : b * (b - 2 * X') ≤ b * (b - 2 * X) := Int.mul_le_mul_of_nonneg_left (by omega) h0
  exact ⟨h0, by omega, by omega⟩
theorem la_ha {a b X Y : Int} (h1 : LA a X Y) (h2 : HA b X Y) : a ≤ b := by
  obtain ⟨a0, a1⟩ := h1
  obtain ⟨b0, b1, b2⟩ := h2
  refine Int.not_lt.1 fun h => ?_
  have k1 : b * (b - 2 * X) ≤ b * (a - 2 * X) := Int.mul_le_mul_of_nonneg_left (by omega) b0
  have k2 : b * (a - 2 * X) < a * (a - 2 * X) := Int.mul_lt_mul_of_pos_right h (by omega)
  omega
theorem la_hb {a b X Y : Int} (h1 : LA a X Y) (h2 : HA b (-X) Y) : a - b ≤ 2 * X := by
  obtain ⟨a0, a1⟩ := h1
  obtain ⟨b0, b1, b2⟩ := h2
  refine Int.not_lt.1 fun h => ?_
  have e : b - 2 * -X = b + 2 * X := by omega
  rw [e] at b2
  have k1 : b * (b + 2 * X) ≤ (a - 2 * X) * (b + 2 * X) := Int.mul_le_mul_of_nonneg_right (by omega) (by omega)
  have k2 : (a - 2 * X) * (b + 2 * X) < (a - 2 * X) * a := Int.mul_lt_mul_of_pos_left (by omega) (by omega)
  rw [Int.mul_comm (a - 2 * X) a] at k2
  omega
theorem ha_lb {a b X Y : Int} (h1 : HA a X Y) (h2 : LA b (-X) Y) : 2 * X ≤ a - b := by
  obtain ⟨a0, a1, a2⟩ := h1
  obtain ⟨b0, b1⟩ := h2
  refine Int.not_lt.1 fun h => ?_
  have e : b - 2 * -X = b + 2 * X := by omega
  rw [e] at b1
  have k1 : (a - 2 * X) * a ≤ (a - 2 * X) * (b + 2 * X) := Int.mul_le_mul_of_nonneg_left (by omega) (by omega)
  have k2 : (a - 2 * X) * (b + 2 * X) < b * (b + 2 * X) := Int.mul_lt_mul_of_pos_right (by omega) (by omega)
  rw [Int.mul_comm (a - 2 * X) a] at k1
  omega
theorem la_lb {a b X Y : Int} (h1 : LA a X Y) (h2 : LA b (-X) Y) : a * b ≤ Y * Y := by
  obtain ⟨a0, a1⟩ := h1
  obtain ⟨b0, b1⟩ := h2
  have e : b - 2 * -X = b + 2 * X := by omega
  rw [e] at b1
  by_cases h : b ≤ a - 2 * X
  · have : a * b ≤ a * (a - 2 * X) := Int.mul_le_mul_of_nonneg_left h a0
    omega
  · have : b * a ≤ b * (b + 2 * X) := Int.mul_le_mul_of_nonneg_left (by omega) b0
    rw [Int.mul_comm b a] at this
    omega
theorem ha_hb {a b X Y : Int} (h1 : HA a X Y) (h2 : HA b (-X) Y) : Y * Y ≤ a * b := by
  obtain ⟨a0, _, a1⟩ := h1
  obtain ⟨b0, _, b1⟩ := h2
  have e : b - 2 * -X = b + 2 * X := by omega
  rw [e] at b1
  by_cases h : a - 2 * X ≤ b
  · have : a * (a - 2 * X) ≤ a * b := Int.mul_le_mul_of_nonneg_left h a0
    omega
  · have : b * (b + 2 * X) ≤ b * a := Int.mul_le_mul_of_nonneg_left (by omega) b0
    rw [Int.mul_comm b a] at this
    omega

/-! the bounds of the parts -/
theorem la_p {a m X Y : Int} (a0 : 0 ≤ a) (_ : 0 ≤ m) (h : a ≤ m + X) (_ : 0 ≤ X) (h2 : m * m ≤ X * X + Y * Y) : LA a X Y := by
  refine ⟨a0, ?_⟩
  by_cases h3 : a ≤ 2 * X
  · have k : a * (a - 2 * X) ≤ a * 0 := Int.mul_le_mul_of_nonneg_left (by omega) a0
    have : 0 ≤ Y * Y := by
      by_cases hy : 0 ≤ Y
      · exact Int.mul_nonneg hy hy
      · rw [← Int.neg_mul_neg]; exact Int.mul_nonneg (by omega) (by omega)
    omega
  · have k1 : a * (a - 2 * X) ≤ (m + X) * (a - 2 * X) := Int.mul_le_mul_of_nonneg_right h (by omega)
    have k2 : (m + X) * (a - 2 * X) ≤ (m + X) * (m - X) := Int.mul_le_mul_of_nonneg_left (by omega) (by omega)
    have e : (m + X) * (m - X) = m * m - X * X := by
      rw [Int.add_mul, Int.mul_sub, Int.mul_sub, Int.mul_comm X m]; omega
    omega
theorem ha_p {a m X Y : Int} (hm : 0 ≤ m) (h : m + X ≤ a) (hX : 0 ≤ X) (h2 : X * X + Y * Y ≤ m * m) (hXm : X ≤ m) : HA a X Y := by
  refine ⟨by omega, by omega, ?_⟩
  have k1 : (m + X) * (a - 2 * X) ≤ a * (a - 2 * X) := Int.mul_le_mul_of_nonneg_right h (by omega)
  have k2 : (m + X) * (m - X) ≤ (m + X) * (a - 2 * X) := Int.mul_le_mul_of_nonneg_left (by omega) (by omega)
  have e : (m + X) * (m - X) = m * m - X * X := by
    rw [Int.add_mul, Int.mul_sub, Int.mul_sub, Int.mul_comm X m]; omega
  omega
theorem lb_q {b p X Y : Int} (b0 : 0 ≤ b) (hp : HA p X Y) (p0 : 0 < p) (h : b * p ≤ Y * Y) : LA b (-X) Y := by
  refine ⟨b0, ?_⟩
  obtain ⟨h0, h1, h2⟩ := hp
  have e : b - 2 * -X = b + 2 * X := by omega
  rw [e]
  by_cases h3 : b + 2 * X ≤ p
  · have : b * (b + 2 * X) ≤ b * p := Int.mul_le_mul_of_nonneg_left h3 b0
    omega
  · exfalso
    have : p * (p - 2 * X) < p * b := Int.mul_lt_mul_of_pos_left (by omega) p0
    rw [Int.mul_comm p b] at this
    omega
theorem hb_q {b p X Y : Int} (b0 : 0 ≤ b) (hX : 0 ≤ X) (hp : LA p X Y) (p0 : 0 < p) (h : Y * Y ≤ b * p) : HA b (-X) Y := by
  refine ⟨b0, by omega, ?_⟩
  obtain ⟨h0, h1⟩ := hp
  have e : b - 2 * -X = b + 2 * X := by omega
  rw [e]
  by_cases h3 : p ≤ b + 2 * X
  · have : b * p ≤ b * (b + 2 * X) := Int.mul_le_mul_of_nonneg_left h3 b0
    omega
  · exfalso
    have : p * b < p * (p - 2 * X) := Int.mul_lt_mul_of_pos_left (by omega) p0
    rw [Int.mul_comm p b] at this
    omega

def nrm (x y : Int) : Nat := x.natAbs * x.natAbs + y.natAbs * y.natAbs
def pLo (x y : Int) : Nat := isq ((isq (nrm x y) + x.natAbs) * 8388608)
def pHi (x y : Int) : Nat := csq ((csq (nrm x y) + x.natAbs) * 8388608)
def qLo (x y : Int) : Nat := y.natAbs * 8388608 / pHi x y
def qHi (x y : Int) : Nat := (y.natAbs * 8388608 + (pLo x y - 1)) / pLo x y

theorem isq_pos {n : Nat} (h : 0 < n) : 0 < isq n := by
  have := (isq_ok n).2
  rcases Nat.eq_zero_or_pos (isq n) with e | e
  · rw [e] at this; omega
  · exact e
theorem pLo_pos {x y : Int} (h : x ≠ 0 ∨ y ≠ 0) : 0 < pLo x y := by
  unfold pLo
  refine isq_pos ?_
  have : 0 < isq (nrm x y) + x.natAbs := by
    rcases h with h | h
    · omega
    · have : 0 < isq (nrm x y) := isq_pos (by
        unfold nrm
        have : 0 < y.natAbs * y.natAbs := Nat.mul_pos (by omega) (by omega)
        omega)
      omega
  omega
theorem pHi_pos {x y : Int} (h : x ≠ 0 ∨ y ≠ 0) : 0 < pHi x y := by
  have h1 := pLo_pos h
  unfold pLo at h1
  unfold pHi
  have := (csq_ok (nrm x y)).2.1
  have h2 : isq ((isq (nrm x y) + x.natAbs) * 8388608) ≤ isq ((csq (nrm x y) + x.natAbs) * 8388608) := isq_mono (Nat.mul_le_mul_right _ (by omega))
  have := (csq_ok ((csq (nrm x y) + x.natAbs) * 8388608)).2.1
  omega

theorem sq_abs (x : Int) : ((x.natAbs : Int)) * (x.natAbs : Int) = x * x := by
  have := Int.natAbs_mul_self (a := x)
  rw [← this, Int.natCast_mul]
theorem nrm_int (x y : Int) : ((nrm x y : Nat) : Int) = x * x + y * y := by
  unfold nrm
  rw [Int.natCast_add, Int.natCast_mul, Int.natCast_mul, sq_abs, sq_abs]
/-- c = 2^23 -/
def cc : Int := 8388608
theorem cc_sq (m x y : Int) : (cc * m) * (cc * m) ≤ (cc * x) * (cc * x) + (cc * y) * (cc * y) ↔ m * m ≤ x * x + y * y := by
  have e : ∀ t : Int, cc * t * (cc * t) = 70368744177664 * (t * t) := fun t => by
    unfold cc
    rw [mmmc, show (8388608 * 8388608 : Int) = 70368744177664 from by decide]
  rw [e, e, e]
  omega
theorem cc_sq' (m x y : Int) : (cc * x) * (cc * x) + (cc * y) * (cc * y) ≤ (cc * m) * (cc * m) ↔ x * x + y * y ≤ m * m := by
  have e : ∀ t : Int, cc * t * (cc * t) = 70368744177664 * (t * t) := fun t => by
    unfold cc
    rw [mmmc, show (8388608 * 8388608 : Int) = 70368744177664 from by decide]
  rw [e, e, e]
  omega
theorem p_la (x y : Int) : LA ((pLo x y : Int) * (pLo x y : Int)) (cc * (x.natAbs : Int)) (cc * y) := by
  have h := (isq_ok ((isq (nrm x y) + x.natAbs) * 8388608)).1
  have h2 := (isq_ok (nrm x y)).1
  have h3 : ((pLo x y : Int) * (pLo x y : Int)) ≤ cc * (isq (nrm x y) : Int) + cc * (x.natAbs : Int) := by
    have : ((pLo x y * pLo x y : Nat) : Int) ≤ (((isq (nrm x y) + x.natAbs) * 8388608 : Nat) : Int) := Int.ofNat_le.2 h
    rw [Int.natCast_mul] at this
    unfold cc
    omega
  refine la_p (m := cc * (isq (nrm x y) : Int)) (Int.mul_nonneg (Int.natCast_nonneg _) (Int.natCast_nonneg _)) (by unfold cc; omega) h3 (by unfold cc; omega) ?_
  rw [cc_sq, sq_abs, ← nrm_int, ← Int.natCast_mul]
  exact Int.ofNat_le.2 h2
theorem p_ha (x y : Int) : HA ((pHi x y : Int) * (pHi x y : Int)) (cc * (x.natAbs : Int)) (cc * y) := by
  have h := (csq_ok ((csq (nrm x y) + x.natAbs) * 8388608)).1
  have h2 := (csq_ok (nrm x y)).1
  have h3 : cc * (csq (nrm x y) : Int) + cc * (x.natAbs : Int) ≤ ((pHi x y : Int) * (pHi x y : Int)) := by
    have : (((csq (nrm x y) + x.natAbs) * 8388608 : Nat) : Int) ≤ ((pHi x y * pHi x y : Nat) : Int) := Int.ofNat_le.2 h
    rw [Int.natCast_mul (pHi x y)] at this
    unfold cc
    omega
  have h4 : x.natAbs ≤ csq (nrm x y) := by
    have : x.natAbs * x.natAbs ≤ csq (nrm x y) * csq (nrm x y) := Nat.le_trans (by unfold nrm; omega) h2
    exact Nat.mul_self_le_mul_self_iff.1 this
  refine ha_p (m := cc * (csq (nrm x y) : Int)) (by unfold cc; omega) h3 (by unfold cc; omega) ?_ (by unfold cc; omega)
  rw [cc_sq', sq_abs, ← nrm_int, ← Int.natCast_mul]
  exact Int.ofNat_le.2 h2
theorem q_lb {x y : Int} (h : x ≠ 0 ∨ y ≠ 0) : LA ((qLo x y : Int) * (qLo x y : Int)) (-(cc * (x.natAbs : Int))) (cc * y) := by
  have hp := pHi_pos h
  refine lb_q (Int.mul_nonneg (Int.natCast_nonneg _) (Int.natCast_nonneg _)) (p_ha x y) (Int.mul_pos (by omega) (by omega)) ?_
  have h1 : qLo x y * pHi x y ≤ y.natAbs * 8388608 := Nat.div_mul_le_self _ _
  have h2 : (qLo x y * pHi x y) * (qLo x y * pHi x y) ≤ (y.natAbs * 8388608) * (y.natAbs * 8388608) := Nat.mul_self_le_mul_self h1
  have h3 : (((qLo x y * pHi x y) * (qLo x y * pHi x y) : Nat) : Int) ≤ (((y.natAbs * 8388608) * (y.natAbs * 8388608) : Nat) : Int) := Int.ofNat_le.2 h2
  have e : cc * y * (cc * y) = (((y.natAbs * 8388608) * (y.natAbs * 8388608) : Nat) : Int) := by
    rw [Int.natCast_mul, Int.natCast_mul, mmmc, mmmc (y.natAbs : Int), sq_abs, Int.mul_comm]
    rfl
  rw [e, mmmc]
  rw [Int.natCast_mul, Int.natCast_mul] at h3
  exact h3
theorem q_hb {x y : Int} (h : x ≠ 0 ∨ y ≠ 0) : HA ((qHi x y : Int) * (qHi x y : Int)) (-(cc * (x.natAbs : Int))) (cc * y) := by
  have hp := pLo_pos h
  refine hb_q (Int.mul_nonneg (Int.natCast_nonneg _) (Int.natCast_nonneg _)) (by unfold cc; omega) (p_la x y) (Int.mul_pos (by omega) (by omega)) ?_
  have h1 : y.natAbs * 8388608 ≤ qHi x y * pLo x y := by
    unfold qHi
    have a := Nat.div_add_mod (y.natAbs * 8388608 + (pLo x y - 1)) (pLo x y)
    have b := Nat.mod_lt (y.natAbs * 8388608 + (pLo x y - 1)) hp
    rw [Nat.mul_comm] at a
    omega
  have h2 : (y.natAbs * 8388608) * (y.natAbs * 8388608) ≤ (qHi x y * pLo x y) * (qHi x y * pLo x y) := Nat.mul_self_le_mul_self h1
  have h3 : (((y.natAbs * 8388608) * (y.natAbs * 8388608) : Nat) : Int) ≤ (((qHi x y * pLo x y) * (qHi x y * pLo x y) : Nat) : Int) := Int.ofNat_le.2 h2
  have e : cc * y * (cc * y) = (((y.natAbs * 8388608) * (y.natAbs * 8388608) : Nat) : Int) := by
    rw [Int.natCast_mul, Int.natCast_mul, mmmc, mmmc (y.natAbs : Int), sq_abs, Int.mul_comm]
    rfl
  rw [e, mmmc]
  rw [Int.natCast_mul (qHi x y * pLo x y), Int.natCast_mul (qHi x y)] at h3
  exact h3

/-- bounds of the magnitudes of both parts of the root of x + i y -/
def reF (x y : Int) : Sp := if x < 0 then ⟨qLo x y, qHi x y⟩ else ⟨pLo x y, pHi x y⟩
def imF (x y : Int) : Sp := if x < 0 then ⟨pLo x y, pHi x y⟩ else ⟨qLo x y, qHi x y⟩
structure Rt (x y : Int) (u v : Sp) : Prop where
  u0 : 0 ≤ u.lo
  v0 : 0 ≤ v.lo
  ul : LA (u.lo * u.lo) (cc * x) (cc * y)
  uh : HA (u.hi * u.hi) (cc * x) (cc * y)
  vl : LA (v.lo * v.lo) (-(cc * x)) (cc * y)
  vh : HA (v.hi * v.hi) (-(cc * x)) (cc * y)
  uh0 : 0 ≤ u.hi
  vh0 : 0 ≤ v.hi
theorem parts_rt {x y : Int} (h : x ≠ 0 ∨ y ≠ 0) : Rt x y (reF x y) (imF x y) := by
  unfold reF imF
  by_cases hx : x < 0
  · rw [if_pos hx, if_pos hx]
    have e : (x.natAbs : Int) = -x := by omega
    have e1 : -(cc * (x.natAbs : Int)) = cc * x := by rw [e, Int.mul_neg, Int.neg_neg]
    have e2 : cc * (x.natAbs : Int) = -(cc * x) := by rw [e, Int.mul_neg]
    exact ⟨Int.natCast_nonneg _, Int.natCast_nonneg _, e1 ▸ q_lb h, e1 ▸ q_hb h, e2 ▸ p_la x y, e2 ▸ p_ha x y, Int.natCast_nonneg _, Int.natCast_nonneg _⟩
  · rw [if_neg hx, if_neg hx]
    have e : (x.natAbs : Int) = x := by omega
    have e1 : cc * (x.natAbs : Int) = cc * x := by rw [e]
    exact ⟨Int.natCast_nonneg _, Int.natCast_nonneg _, e1 ▸ p_la x y, e1 ▸ p_ha x y, e1 ▸ q_lb h, e1 ▸ q_hb h, Int.natCast_nonneg _, Int.natCast_nonneg _⟩
end Ab
