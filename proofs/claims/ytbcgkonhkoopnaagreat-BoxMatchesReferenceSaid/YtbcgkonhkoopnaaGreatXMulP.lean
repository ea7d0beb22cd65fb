import Derived.Test.YtbcgkonhkoopnaaGreatXOrderP
open Go Go.Proofs
namespace Ab
set_option maxRecDepth 100000
def scaledF (a b : Int) (up : Bool) : Int :=
 let N : Int := ((a.natAbs * b.natAbs : Nat) : Int)
 let ng : Bool := decide (a < 0) != decide (b < 0)
 let q0 : Int := if N / 16777216 < MF + 1 then N / 16777216 else MF + 1
 let q : Int := if N % 16777216 ≠ 0 ∧ ng ≠ up then q0 + 1 else q0
 match ng with | true => -q | false => q
def Fl24 (p : Int) : Int := p / 16777216
def Ce24 (p : Int) : Int := -((-p) / 16777216)
theorem prod_sign (a b : Int) : ((a.natAbs * b.natAbs : Nat) : Int) = (match (decide (a < 0) != decide (b < 0)) with | true => -(a * b) | false => a * b) := by
 rw [Int.natCast_mul]
 by_cases ha : a < 0 <;> by_cases hb : b < 0
 ·have e1 : (a.natAbs : Int) = -a := by omega
  have e2 : (b.natAbs : Int) = -b := by omega
  simp [ha, hb, e1, e2, Int.neg_mul_neg]
 ·have e1 : (a.natAbs : Int) = -a := by omega
  have e2 : (b.natAbs : Int) = b := by omega
  simp [ha, hb, e1, e2, Int.neg_mul]
 ·have e1 : (a.natAbs : Int) = a := by omega
  have e2 : (b.natAbs : Int) = -b := by omega
  simp [ha, hb, e1, e2, Int.mul_neg]
 ·have e1 : (a.natAbs : Int) = a := by omega
  have e2 : (b.natAbs : Int) = b := by omega
  simp [ha, hb, e1, e2]
def Fit (p : Int) : Prop := -(MF * 16777216) <= p ∧ p <= MF * 16777216
theorem scaled_cases (a b : Int) : (Fit (a * b) -> scaledF a b false = Fl24 (a * b) ∧ scaledF a b true = Ce24 (a * b)) ∧ (-MF <= scaledF a b false -> scaledF a b true <= MF -> Fit (a * b)) := by
 have hs := prod_sign a b
 have hN : (0 : Int) <= ((a.natAbs * b.natAbs : Nat) : Int) := Int.natCast_nonneg _
 unfold scaledF Fl24 Ce24 Fit MF
 generalize ((a.natAbs * b.natAbs : Nat) : Int) = N at hs hN ⊢
 generalize a * b = p at hs ⊢
 generalize (decide (a < 0) != decide (b < 0)) = ng at hs ⊢
 cases ng with
 | true =>
  simp only at hs
  obtain rfl : p = -N := by omega
  simp only [ne_eq, reduceCtorEq, not_false_eq_true, and_true, not_true_eq_false, and_false, if_false]
  constructor
  ·rintro ⟨h1, h2⟩
   constructor
   ·(repeat' split) <;> omega
   ·(repeat' split) <;> omega
  ·intro h1 h2
   split at h1 <;> (try split at h1) <;> (try split at h2) <;> (try split at h2) <;> omega
 | false =>
  simp only at hs
  obtain rfl : p = N := by omega
  simp only [ne_eq, reduceCtorEq, not_false_eq_true, and_true, not_true_eq_false, and_false, if_false]
  constructor
  ·rintro ⟨h1, h2⟩
   constructor
   ·(repeat' split) <;> omega
   ·(repeat' split) <;> omega
  ·intro h1 h2
   split at h1 <;> (try split at h1) <;> (try split at h2) <;> (try split at h2) <;> omega
structure Sp where
 lo : Int
 hi : Int
def timesF (a b : Sp) : Sp :=
 ⟨minL (scaledF a.lo b.lo false) [scaledF a.lo b.hi false, scaledF a.hi b.lo false, scaledF a.hi b.hi false],
  maxL (scaledF a.lo b.lo true) [scaledF a.lo b.hi true, scaledF a.hi b.lo true, scaledF a.hi b.hi true]⟩
def outF (s : Sp) : Bool := or (decide (s.lo < -MF)) (decide (s.hi > MF))
def mulF (x y : Bx) : Bx :=
 match or (outF (timesF ⟨x.a, x.b⟩ ⟨y.a, y.b⟩)) (or (outF (timesF ⟨x.c, x.d⟩ ⟨y.c, y.d⟩)) (or (outF (timesF ⟨x.a, x.b⟩ ⟨y.c, y.d⟩)) (outF (timesF ⟨x.c, x.d⟩ ⟨y.a, y.b⟩)))) with
 | true => wideB
 | false => ⟨w64 ((timesF ⟨x.a, x.b⟩ ⟨y.a, y.b⟩).lo - (timesF ⟨x.c, x.d⟩ ⟨y.c, y.d⟩).hi), w64 ((timesF ⟨x.a, x.b⟩ ⟨y.a, y.b⟩).hi - (timesF ⟨x.c, x.d⟩ ⟨y.c, y.d⟩).lo),
   w64 ((timesF ⟨x.a, x.b⟩ ⟨y.c, y.d⟩).lo + (timesF ⟨x.c, x.d⟩ ⟨y.a, y.b⟩).lo), w64 ((timesF ⟨x.a, x.b⟩ ⟨y.c, y.d⟩).hi + (timesF ⟨x.c, x.d⟩ ⟨y.a, y.b⟩).hi), false⟩
theorem lin_lo {m x y b1 b2 : Int} (h1 : m <= x * b1) (h2 : m <= x * b2) (g1 : b1 <= y) (g2 : y <= b2) : m <= x * y := by
 by_cases hx : 0 <= x
 ·exact Int.le_trans h1 (Int.mul_le_mul_of_nonneg_left g1 hx)
 ·exact Int.le_trans h2 (Int.mul_le_mul_of_nonpos_left (by omega) g2)
theorem lin_hi {m x y b1 b2 : Int} (h1 : x * b1 <= m) (h2 : x * b2 <= m) (g1 : b1 <= y) (g2 : y <= b2) : x * y <= m := by
 by_cases hx : 0 <= x
 ·exact Int.le_trans (Int.mul_le_mul_of_nonneg_left g2 hx) h2
 ·exact Int.le_trans (Int.mul_le_mul_of_nonpos_left (by omega) g1) h1
theorem bil_lo {m x y a1 a2 b1 b2 : Int} (h1 : m <= a1 * b1) (h2 : m <= a1 * b2) (h3 : m <= a2 * b1) (h4 : m <= a2 * b2) (f1 : a1 <= x) (f2 : x <= a2) (g1 : b1 <= y) (g2 : y <= b2) : m <= x * y := by
 refine lin_lo ?_ ?_ g1 g2
 ·rw [Int.mul_comm]; exact lin_lo (by rw [Int.mul_comm]; exact h1) (by rw [Int.mul_comm]; exact h3) f1 f2
 ·rw [Int.mul_comm]; exact lin_lo (by rw [Int.mul_comm]; exact h2) (by rw [Int.mul_comm]; exact h4) f1 f2
theorem bil_hi {m x y a1 a2 b1 b2 : Int} (h1 : a1 * b1 <= m) (h2 : a1 * b2 <= m) (h3 : a2 * b1 <= m) (h4 : a2 * b2 <= m) (f1 : a1 <= x) (f2 : x <= a2) (g1 : b1 <= y) (g2 : y <= b2) : x * y <= m := by
 refine lin_hi ?_ ?_ g1 g2
 ·rw [Int.mul_comm]; exact lin_hi (by rw [Int.mul_comm]; exact h1) (by rw [Int.mul_comm]; exact h3) f1 f2
 ·rw [Int.mul_comm]; exact lin_hi (by rw [Int.mul_comm]; exact h2) (by rw [Int.mul_comm]; exact h4) f1 f2
theorem minL3 (a b c d : Int) : minL a [b, c, d] <= a ∧ minL a [b, c, d] <= b ∧ minL a [b, c, d] <= c ∧ minL a [b, c, d] <= d ∧ (minL a [b, c, d] = a ∨ minL a [b, c, d] = b ∨ minL a [b, c, d] = c ∨ minL a [b, c, d] = d) := by
 simp only [minL]
 refine ⟨?_, ?_, ?_, ?_, ?_⟩ <;> (repeat' split) <;> omega
theorem maxL3 (a b c d : Int) : a <= maxL a [b, c, d] ∧ b <= maxL a [b, c, d] ∧ c <= maxL a [b, c, d] ∧ d <= maxL a [b, c, d] ∧ (maxL a [b, c, d] = a ∨ maxL a [b, c, d] = b ∨ maxL a [b, c, d] = c ∨ maxL a [b, c, d] = d) := by
 simp only [maxL]
 refine ⟨?_, ?_, ?_, ?_, ?_⟩ <;> (repeat' split) <;> omega
structure TimesOk (a b s : Sp) : Prop where
 lo : ∀ x y, a.lo <= x -> x <= a.hi -> b.lo <= y -> y <= b.hi -> s.lo * 16777216 <= x * y
 hi : ∀ x y, a.lo <= x -> x <= a.hi -> b.lo <= y -> y <= b.hi -> x * y <= s.hi * 16777216
 lo_at : ∃ x y, (x = a.lo ∨ x = a.hi) ∧ (y = b.lo ∨ y = b.hi) ∧ s.lo = Fl24 (x * y)
 hi_at : ∃ x y, (x = a.lo ∨ x = a.hi) ∧ (y = b.lo ∨ y = b.hi) ∧ s.hi = Ce24 (x * y)
 le : -MF <= s.lo ∧ s.lo <= s.hi ∧ s.hi <= MF
def Corners (a b : Sp) : Prop := Fit (a.lo * b.lo) ∧ Fit (a.lo * b.hi) ∧ Fit (a.hi * b.lo) ∧ Fit (a.hi * b.hi)
theorem out_iff (a b : Sp) : outF (timesF a b) = false ↔ Corners a b := by
 obtain ⟨p1, p2⟩ := scaled_cases a.lo b.lo
 obtain ⟨q1, q2⟩ := scaled_cases a.lo b.hi
 obtain ⟨r1, r2⟩ := scaled_cases a.hi b.lo
 obtain ⟨s1, s2⟩ := scaled_cases a.hi b.hi
 unfold outF timesF Corners
 simp only [Bool.or_eq_false_iff, decide_eq_false_iff_not, Int.not_lt, gt_iff_lt]
 obtain ⟨m1, m2, m3, m4, m5⟩ := minL3 (scaledF a.lo b.lo false) (scaledF a.lo b.hi false) (scaledF a.hi b.lo false) (scaledF a.hi b.hi false)
 obtain ⟨n1, n2, n3, n4, n5⟩ := maxL3 (scaledF a.lo b.lo true) (scaledF a.lo b.hi true) (scaledF a.hi b.lo true) (scaledF a.hi b.hi true)
 constructor
 ·rintro ⟨h1, h2⟩
  exact ⟨p2 (by omega) (by omega), q2 (by omega) (by omega), r2 (by omega) (by omega), s2 (by omega) (by omega)⟩
 ·rintro ⟨h1, h2, h3, h4⟩
  obtain ⟨e1, e2⟩ := p1 h1
  obtain ⟨e3, e4⟩ := q1 h2
  obtain ⟨e5, e6⟩ := r1 h3
  obtain ⟨e7, e8⟩ := s1 h4
  unfold Fit MF at h1 h2 h3 h4
  unfold Fl24 at e1 e3 e5 e7
  unfold Ce24 at e2 e4 e6 e8
  unfold MF
  constructor <;> omega
theorem times_ok {a b : Sp} (hc : Corners a b) (_ : a.lo <= a.hi) (_ : b.lo <= b.hi) : TimesOk a b (timesF a b) := by
 have ho := (out_iff a b).2 hc
 obtain ⟨h1, h2, h3, h4⟩ := hc
 obtain ⟨e1, e2⟩ := (scaled_cases a.lo b.lo).1 h1
 obtain ⟨e3, e4⟩ := (scaled_cases a.lo b.hi).1 h2
 obtain ⟨e5, e6⟩ := (scaled_cases a.hi b.lo).1 h3
 obtain ⟨e7, e8⟩ := (scaled_cases a.hi b.hi).1 h4
 obtain ⟨m1, m2, m3, m4, m5⟩ := minL3 (scaledF a.lo b.lo false) (scaledF a.lo b.hi false) (scaledF a.hi b.lo false) (scaledF a.hi b.hi false)
 obtain ⟨n1, n2, n3, n4, n5⟩ := maxL3 (scaledF a.lo b.lo true) (scaledF a.lo b.hi true) (scaledF a.hi b.lo true) (scaledF a.hi b.hi true)
 have g1 : (timesF a b).lo = minL (scaledF a.lo b.lo false) [scaledF a.lo b.hi false, scaledF a.hi b.lo false, scaledF a.hi b.hi false] := rfl
 have g2 : (timesF a b).hi = maxL (scaledF a.lo b.lo true) [scaledF a.lo b.hi true, scaledF a.hi b.lo true, scaledF a.hi b.hi true] := rfl
 rw [<- g1] at m1 m2 m3 m4 m5
 rw [<- g2] at n1 n2 n3 n4 n5
 rw [e1, e3, e5, e7] at m5
 rw [e2, e4, e6, e8] at n5
 have c1 := e1; have c2 := e2; have c3 := e3; have c4 := e4; have c5 := e5; have c6 := e6; have c7 := e7; have c8 := e8
 unfold Fl24 at c1 c3 c5 c7
 unfold Ce24 at c2 c4 c6 c8
 refine ⟨fun x y f1 f2 k1 k2 => bil_lo ?_ ?_ ?_ ?_ f1 f2 k1 k2, fun x y f1 f2 k1 k2 => bil_hi ?_ ?_ ?_ ?_ f1 f2 k1 k2, ?_, ?_, ?_⟩
 ·omega
 ·omega
 ·omega
 ·omega
 ·omega
 ·omega
 ·omega
 ·omega
 ·rcases m5 with e | e | e | e
  ·exact ⟨_, _, .inl rfl, .inl rfl, e⟩
  ·exact ⟨_, _, .inl rfl, .inr rfl, e⟩
  ·exact ⟨_, _, .inr rfl, .inl rfl, e⟩
  ·exact ⟨_, _, .inr rfl, .inr rfl, e⟩
 ·rcases n5 with e | e | e | e
  ·exact ⟨_, _, .inl rfl, .inl rfl, e⟩
  ·exact ⟨_, _, .inl rfl, .inr rfl, e⟩
  ·exact ⟨_, _, .inr rfl, .inl rfl, e⟩
  ·exact ⟨_, _, .inr rfl, .inr rfl, e⟩
 ·unfold outF at ho
  simp only [Bool.or_eq_false_iff, decide_eq_false_iff_not, Int.not_lt, gt_iff_lt] at ho
  refine ⟨ho.1, ?_, ho.2⟩
  omega
end Ab
