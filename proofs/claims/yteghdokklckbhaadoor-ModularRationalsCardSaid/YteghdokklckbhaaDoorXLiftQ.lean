import Derived.Test.YteghdokklckbhaaDoorXField
import Derived.Test.YteghdokklckbhaaDoorXDig
import Derived.Test.YteghdokklckbhaaDoorXLiftP
/-!
Rational reconstruction modulo a prime: plain.
-/
open Go Go.Proofs
namespace Ab

theorem redF_eq {p : Int} (h : Pr p) : ∀ {l : List Int}, Dg.D l → redF p l = Dg.val l % p
  | [], _ => by simp [redF, Dg.val]
  | x :: l, hd => by
    obtain ⟨hx, hl⟩ := Dg.D.cons.1 hd
    have ih := redF_eq h hl
    have h1 := h.lo; have h2 := h.hi
    have hm := h.mod (Dg.val l)
    have hB := h.mod 4294967296
    have hX := h.mod x
    show redStep p (redF p l) x = _
    rw [ih]
    unfold redStep
    simp only [Dg.B] at hx
    have e1 : Int.tmod 4294967296 p = 4294967296 % p := Int.tmod_eq_emod_of_nonneg (by decide)
    have e2 : (w64 x).tmod p = x % p := by rw [w64_eq (by omega), Int.tmod_eq_emod_of_nonneg (by omega)]
    rw [e1, tm_eq hm.1 hB.1 (by omega) (by omega), e2]
    have hp := h.mod (Dg.val l % p * (4294967296 % p))
    rw [w64_eq (by omega), Int.tmod_eq_emod_of_nonneg (by omega), ← Int.mul_emod, ← Int.add_emod]
    have e3 : Dg.val (x :: l) = x + 4294967296 * Dg.val l := rfl
    rw [e3, Int.mul_comm, Int.add_comm]
theorem neg_mod (x p : Int) : (0 - x % p) % p = (0 - x) % p := by
  have e := Int.emod_add_mul_ediv x p
  have e2 : 0 - x % p = (0 - x) + p * (x / p) := by omega
  rw [e2, Int.add_mul_emod_self_left]
theorem reduceF_eq {p : Int} (h : Pr p) {l : List Int} (hd : Dg.D l) (neg : Bool) : reduceF neg l p = (if neg then - Dg.val l else Dg.val l) % p := by
  have h1 := h.lo; have h2 := h.hi
  have hm := h.mod (Dg.val l)
  unfold reduceF
  rw [redF_eq h hd]
  cases neg with
  | false => rfl
  | true =>
    rw [if_pos rfl, if_pos rfl, w64_eq (by omega), resF_eq (by omega) (by omega), neg_mod]
    congr 1
    omega

/-- the residue of a fraction -/
def ratF (p N D : Int) : Int := N % p * ((D % p) ^ (p - 2).toNat % p) % p
theorem ratF_bd {p : Int} (h : Pr p) (N D : Int) : 0 ≤ ratF p N D ∧ ratF p N D < p := h.mod _
theorem inv_mul {p D : Int} (h : Pr p) (hD : D % p ≠ 0) : D * ((D % p) ^ (p - 2).toNat % p) % p = 1 := by
  have h1 := h.lo
  have hmm : D % p % p = D % p := Int.emod_emod_of_dvd _ (Int.dvd_refl p)
  have f := h.fermat (x := D % p) (by rw [hmm]; exact hD)
  rw [mul_emod_r, ← mul_emod_l, ← f, show (p - 1).toNat = (p - 2).toNat + 1 by omega, Int.pow_succ, Int.mul_comm]
theorem ratF_mul {p N D : Int} (h : Pr p) (hD : D % p ≠ 0) : D * ratF p N D % p = N % p := by
  have f := inv_mul h hD
  unfold ratF
  generalize (D % p) ^ (p - 2).toNat % p = I at *
  rw [mul_emod_r, show D * (N % p * I) = N % p * (D * I) by grind, ← mul_emod_r, f, Int.mul_one, Int.emod_emod_of_dvd _ (Int.dvd_refl p)]
theorem cancel {p D x y : Int} (h : Pr p) (hD : D % p ≠ 0) (e : D * x % p = D * y % p) : x % p = y % p := by
  have f := inv_mul h hD
  generalize (D % p) ^ (p - 2).toNat % p = I at *
  have g : ∀ z, I * (D * z % p) % p = z % p := fun z => by
    rw [mul_emod_r, show I * (D * z) = D * I * z by grind, ← mul_emod_l, f, Int.one_mul]
  rw [← g x, ← g y, e]
theorem ratF_back {p n d a : Int} (h : Pr p) (hd : 0 < d) (hdp : d < p) (hc : ∃ k, n - d * a = p * k) : ratF p (n / Int.gcd n d) (d / Int.gcd n d) = a % p := by
  obtain ⟨k, hc⟩ := hc
  have hg : 0 < (Int.gcd n d : Int) := by
    have := Int.gcd_pos_of_ne_zero_right n (show d ≠ 0 by omega)
    omega
  obtain ⟨n', hn⟩ := Int.gcd_dvd_left n d
  obtain ⟨d', hd'⟩ := Int.gcd_dvd_right n d
  generalize (Int.gcd n d : Int) = g at *
  subst hn
  subst hd'
  rw [Int.mul_ediv_cancel_left _ (by omega), Int.mul_ediv_cancel_left _ (by omega)]
  have d0 : 0 < d' := Int.lt_of_mul_lt_mul_left (a := g) (by rw [Int.mul_zero]; exact hd) (Int.le_of_lt hg)
  have d1 : 1 * d' ≤ g * d' := Int.mul_le_mul_of_nonneg_right (by omega) (by omega)
  have e1 := ratF_mul (N := n') (D := d') h (by rw [Int.emod_eq_of_lt (by omega) (by omega)]; omega)
  have bd := ratF_bd h n' d'
  generalize ratF p n' d' = B at *
  have e2 : g * d' * B % p = g * d' * a % p := by
    rw [Int.mul_assoc, ← mul_emod_r, e1, mul_emod_r, show g * n' = g * d' * a + p * k by omega, Int.add_mul_emod_self_left]
  have e3 := cancel h (D := g * d') (by rw [Int.emod_eq_of_lt (by omega) (by omega)]; omega) e2
  rw [← e3, Int.emod_eq_of_lt bd.1 bd.2]

/-! the loop of Lift -/
structure LQ where
  (r n t d : Int)
def LQ.cond (p : Int) (s : LQ) : Prop := s.n > 65536 ∨ 2 * s.n * s.n ≥ p
def LQ.nxt (s : LQ) : LQ := ⟨s.n, s.r - s.r / s.n * s.n, s.d, s.t - s.r / s.n * s.d⟩
def LQ.big (p : Int) (r : Int) : Prop := r > 65536 ∨ 2 * r * r ≥ p
structure LQ.Inv (p a : Int) (s : LQ) : Prop where
  eu : Eu p a s.r s.n s.t s.d
  t1 : -p ≤ s.t
  t2 : s.t ≤ p
  r1 : s.r ≤ p
inductive LQ.To (p : Int) : LQ → LQ → Prop
  | stop {s : LQ} : ¬ s.cond p → LQ.To p s s
  | go {s S : LQ} : s.cond p → LQ.To p s.nxt S → LQ.To p s S
theorem LQ.cond_pos {p : Int} (hp : 0 < p) {s : LQ} (h0 : 0 ≤ s.n) (h : s.cond p) : 0 < s.n := by
  refine Int.not_le.1 fun g => ?_
  have e : s.n = 0 := by omega
  rcases h with h | h
  · omega
  · rw [e] at h; omega
theorem LQ.Inv.nxt {p a : Int} (hp : 0 < p) {s : LQ} (h : s.Inv p a) (hc : s.cond p) : s.nxt.Inv p a := by
  have n0 := LQ.cond_pos hp h.eu.n0 hc
  have bd := eu_bd hp h.eu
  have := h.eu.nr
  have := h.r1
  exact ⟨eu_next h.eu n0, bd.1, bd.2, by show s.n ≤ p; omega⟩
theorem LQ.nxt_lt {p a : Int} (hp : 0 < p) {s : LQ} (h : s.Inv p a) (hc : s.cond p) : s.nxt.n.toNat < s.n.toNat := by
  have n0 := LQ.cond_pos hp h.eu.n0 hc
  have := (eu_next h.eu n0).nr
  have := (eu_next h.eu n0).n0
  show (s.r - s.r / s.n * s.n).toNat < s.n.toNat
  omega
theorem LQ.ex {p a : Int} (hp : 0 < p) : ∀ (k : Nat) (s : LQ), s.n.toNat ≤ k → s.Inv p a → LQ.big p s.r → ∃ S, LQ.To p s S ∧ S.Inv p a ∧ LQ.big p S.r ∧ ¬ S.cond p
  | k, s, hk, h, hb => by
    by_cases hc : s.cond p
    · have lt := LQ.nxt_lt hp h hc
      cases k with
      | zero => omega
      | succ k =>
        obtain ⟨S, h1, h2, h3, h4⟩ := LQ.ex hp k s.nxt (by omega) (h.nxt hp hc) hc
        exact ⟨S, .go hc h1, h2, h3, h4⟩
    · exact ⟨s, .stop hc, h, hb, hc⟩
/-- the bound that the law uses -/
theorem big_lt {p M r : Int} (hM0 : 0 ≤ M) (hM : 2 * (M * M) < p) (hp : p ≤ 2147483647) (hr : 0 ≤ r) (h : LQ.big p r) : M < r := by
  refine Int.not_le.1 fun g => ?_
  have m1 : r * r ≤ M * M := Int.mul_le_mul g g hr hM0
  rcases h with h | h
  · have : 65537 * 65537 ≤ r * r := Int.mul_le_mul (by omega) (by omega) (by decide) (by omega)
    omega
  · rw [Int.mul_assoc] at h
    omega
theorem small_le {p M n : Int} (hM : p ≤ 2 * ((M + 1) * (M + 1))) (hM0 : 0 ≤ M) (h : 2 * n * n < p) : n ≤ M := by
  refine Int.not_lt.1 fun g => ?_
  have m1 : (M + 1) * (M + 1) ≤ n * n := Int.mul_le_mul (by omega) (by omega) (by omega) (by omega)
  rw [Int.mul_assoc] at h
  omega
end Ab
