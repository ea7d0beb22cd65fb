import Derived.Test.YtbcgkonhkoopnaaGreatXMulQ
open Go Go.Proofs
namespace Ab
set_option maxRecDepth 100000
def isq : Nat -> Nat
 | 0 => 0
 | n + 1 => if (isq n + 1) * (isq n + 1) <= n + 1 then isq n + 1 else isq n
theorem isq_ok (n : Nat) : isq n * isq n <= n ∧ n < (isq n + 1) * (isq n + 1) := by
 induction n with
 | zero => exact ⟨by simp [isq], by simp [isq]⟩
 | succ n ih =>
  obtain ⟨h1, h2⟩ := ih
  simp only [isq]
  by_cases h : (isq n + 1) * (isq n + 1) <= n + 1
  ·rw [if_pos h]
   refine ⟨h, ?_⟩
   have : (isq n + 1) * (isq n + 1) < (isq n + 1 + 1) * (isq n + 1 + 1) := Nat.mul_self_lt_mul_self (by omega)
   omega
  ·rw [if_neg h]
   omega
theorem isq_uniq {r n : Nat} (h1 : r * r <= n) (h2 : n < (r + 1) * (r + 1)) : r = isq n := by
 obtain ⟨k1, k2⟩ := isq_ok n
 have a : r < isq n + 1 := Nat.mul_self_lt_mul_self_iff.1 (Nat.lt_of_le_of_lt h1 k2)
 have b : isq n < r + 1 := Nat.mul_self_lt_mul_self_iff.1 (Nat.lt_of_le_of_lt k1 h2)
 omega
theorem isq_mono {m n : Nat} (h : m <= n) : isq m <= isq n := by
 have a : isq m < isq n + 1 := Nat.mul_self_lt_mul_self_iff.1 (Nat.lt_of_le_of_lt (isq_ok m).1 (Nat.lt_of_le_of_lt h (isq_ok n).2))
 omega
attribute [irreducible] isq
def csq (n : Nat) : Nat := if isq n * isq n = n then isq n else isq n + 1
theorem csq_ok (n : Nat) : n <= csq n * csq n ∧ isq n <= csq n ∧ csq n <= isq n + 1 := by
 unfold csq
 obtain ⟨h1, h2⟩ := isq_ok n
 split <;> omega
def nrm (x y : Int) : Nat := x.natAbs * x.natAbs + y.natAbs * y.natAbs
def pLo (x y : Int) : Nat := isq ((isq (nrm x y) + x.natAbs) * 8388608)
def pHi (x y : Int) : Nat := csq ((csq (nrm x y) + x.natAbs) * 8388608)
def qLo (x y : Int) : Nat := y.natAbs * 8388608 / pHi x y
def qHi (x y : Int) : Nat := (y.natAbs * 8388608 + (pLo x y - 1)) / pLo x y
theorem isq_pos {n : Nat} (h : 0 < n) : 0 < isq n := by
 have := (isq_ok n).2
 rcases Nat.eq_zero_or_pos (isq n) with e | e
 ·rw [e] at this; omega
 ·exact e
theorem pLo_pos {x y : Int} (h : x ≠ 0 ∨ y ≠ 0) : 0 < pLo x y := by
 unfold pLo
 refine isq_pos ?_
 have : 0 < isq (nrm x y) + x.natAbs := by
  rcases h with h | h
  ·omega
  ·have : 0 < isq (nrm x y) := isq_pos (by
    unfold nrm
    have : 0 < y.natAbs * y.natAbs := Nat.mul_pos (by omega) (by omega)
    omega)
   omega
 omega
def reF (x y : Int) : Sp := if x < 0 then ⟨qLo x y, qHi x y⟩ else ⟨pLo x y, pHi x y⟩
def imF (x y : Int) : Sp := if x < 0 then ⟨pLo x y, pHi x y⟩ else ⟨qLo x y, qHi x y⟩
end Ab
