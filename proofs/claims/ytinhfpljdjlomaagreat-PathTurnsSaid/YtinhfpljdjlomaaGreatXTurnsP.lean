import Derived.Test.YtinhfpljdjlomaaGreatXAt5
open Go Go.Proofs
namespace Ab
set_option maxHeartbeats 1000000
theorem ft_lt {z : Int} {k : Nat} (h : az z < Dg.B ^ k) (hk : k <= 128) : ftB z = true := ftB_iff.2 (Nat.le_trans (mag_pow (az_nn z) h) hk)
theorem pow_le_pow {i j : Nat} (h : i <= j) : Dg.B ^ i <= Dg.B ^ j := by rw [pow_B, pow_B]; exact two_pow_le (by omega)
theorem az_mul (a b : Int) : az (a * b) = az a * az b := by unfold az; rw [Int.natAbs_mul]; exact Int.natCast_mul _ _
theorem lt_mul {a b : Int} {i j : Nat} (h1 : az a < Dg.B ^ i) (h2 : az b < Dg.B ^ j) : az (a * b) < Dg.B ^ (i + j) := by
 rw [az_mul, Int.pow_add]
 exact Int.lt_of_le_of_lt (Int.mul_le_mul_of_nonneg_right (Int.le_of_lt h1) (az_nn b)) (Int.mul_lt_mul_of_pos_left h2 (Dg.pow_pos i))
theorem lt_add {a b : Int} {k : Nat} (h1 : az a < Dg.B ^ k) (h2 : az b < Dg.B ^ k) : az (a + b) < Dg.B ^ (k + 1) ∧ az (a - b) < Dg.B ^ (k + 1) := by
 have d : Dg.B ^ (k + 1) = Dg.B ^ k * Dg.B := Int.pow_succ _ _
 have e : (0 : Int) < Dg.B ^ k := Dg.pow_pos k
 have e2 : Dg.B ^ k * 2 <= Dg.B ^ (k + 1) := by rw [d]; exact Int.mul_le_mul_of_nonneg_left (by simp [Dg.B]) (by omega)
 unfold az at *
 omega
theorem lt_up {a : Int} {i j : Nat} (h : az a < Dg.B ^ i) (hij : i <= j) : az a < Dg.B ^ j := Int.lt_of_lt_of_le h (pow_le_pow hij)
def Sz (x : Int × Int) (i j : Nat) : Prop := az x.1 < Dg.B ^ i ∧ az x.2 < Dg.B ^ j
theorem oQ_ok {n d : Int} {i j : Nat} (d0 : 0 < d) (hn : az n < Dg.B ^ i) (hd : az d < Dg.B ^ j) : ∃ z, oQ n d true = some z ∧ Sz z i j ∧ z.1 * d = n * z.2 := by
 have g0 := gcd_pos (n := n) d0
 have dn := Int.gcd_dvd_left n d
 have dd := Int.gcd_dvd_right n d
 refine ⟨_, rfl, ⟨Int.lt_of_le_of_lt (quo_abs g0) hn, Int.lt_of_le_of_lt (quo_abs g0) hd⟩, ?_⟩
 show n / (Int.gcd n d : Int) * d = n * (d / (Int.gcd n d : Int))
 generalize (Int.gcd n d : Int) = g at *
 obtain ⟨u, rfl⟩ := dn
 obtain ⟨v, rfl⟩ := dd
 rw [Int.mul_ediv_cancel_left _ (by omega), Int.mul_ediv_cancel_left _ (by omega)]
 grind
section
variable {x y : Int × Int} {i j k l : Nat}
theorem oMul_ok (hx : Qv x) (hy : Qv y) (sx : Sz x i j) (sy : Sz y k l) (h1 : i + k <= 128) (h2 : j + l <= 128) : ∃ z, oMul x y = some z ∧ Qv z ∧ Sz z (i + k) (j + l) ∧ z.1 * (x.2 * y.2) = x.1 * y.1 * z.2 := by
 have a1 := lt_mul sx.1 sy.1
 have a2 := lt_mul sx.2 sy.2
 obtain ⟨z, e, s, v⟩ := oQ_ok (Int.mul_pos hx.2.2.1 hy.2.2.1) a1 a2
 have e' : oMul x y = some z := by unfold oMul; rw [ft_lt a1 h1, ft_lt a2 h2]; exact e
 exact ⟨z, e', oMul_qv hx hy e', s, v⟩
theorem oAdd_ok (hx : Qv x) (hy : Qv y) (sx : Sz x i j) (sy : Sz y k l) (m : Nat) (h1 : i + l <= m) (h2 : k + j <= m) (h3 : m + 1 <= 128) (h4 : j + l <= 128) : ∃ z, oAdd x y = some z ∧ Qv z ∧ Sz z (m + 1) (j + l) ∧ z.1 * (x.2 * y.2) = (x.1 * y.2 + y.1 * x.2) * z.2 := by
 have a1 := lt_up (lt_mul sx.1 sy.2) h1
 have a2 := lt_up (lt_mul sy.1 sx.2) h2
 have a3 := (lt_add a1 a2).1
 have a4 := lt_mul sx.2 sy.2
 obtain ⟨z, e, s, v⟩ := oQ_ok (Int.mul_pos hx.2.2.1 hy.2.2.1) a3 a4
 have e' : oAdd x y = some z := by unfold oAdd; rw [ft_lt a1 (by omega), ft_lt a2 (by omega), ft_lt a3 h3, ft_lt a4 h4]; exact e
 exact ⟨z, e', oAdd_qv hx hy e', s, v⟩
theorem oSub_ok (hx : Qv x) (hy : Qv y) (sx : Sz x i j) (sy : Sz y k l) (m : Nat) (h1 : i + l <= m) (h2 : k + j <= m) (h3 : m + 1 <= 128) (h4 : j + l <= 128) : ∃ z, oSub x y = some z ∧ Qv z ∧ Sz z (m + 1) (j + l) ∧ z.1 * (x.2 * y.2) = (x.1 * y.2 - y.1 * x.2) * z.2 := by
 have a1 := lt_up (lt_mul sx.1 sy.2) h1
 have a2 := lt_up (lt_mul sy.1 sx.2) h2
 have a3 := (lt_add a1 a2).2
 have a4 := lt_mul sx.2 sy.2
 obtain ⟨z, e, s, v⟩ := oQ_ok (Int.mul_pos hx.2.2.1 hy.2.2.1) a3 a4
 have e' : oSub x y = some z := by unfold oSub; rw [ft_lt a1 (by omega), ft_lt a2 (by omega), ft_lt a3 h3, ft_lt a4 h4]; exact e
 exact ⟨z, e', oSub_qv hx hy e', s, v⟩
end
theorem tq_val (z : Int) : (tq z).1 * 4096 = z * (tq z).2 := by
 have dn := Int.gcd_dvd_left z 4096
 have dd := Int.gcd_dvd_right z 4096
 have g0 := gcd_pos (n := z) (d := 4096) (by decide)
 unfold tq
 show z / (Int.gcd z 4096 : Int) * 4096 = z * (4096 / (Int.gcd z 4096 : Int))
 generalize (Int.gcd z 4096 : Int) = g at *
 obtain ⟨u, hu⟩ := dn
 obtain ⟨v, hv⟩ := dd
 rw [hu, hv, Int.mul_ediv_cancel_left _ (by omega), Int.mul_ediv_cancel_left _ (by omega)]
 grind
theorem tq_sz {z : Int} (h0 : -1048576 <= z) (h1 : z <= 1048576) : Sz (tq z) 1 1 := by
 have g0 := gcd_pos (n := z) (d := 4096) (by decide)
 refine ⟨Int.lt_of_le_of_lt (quo_abs g0) ?_, Int.lt_of_le_of_lt (quo_abs g0) ?_⟩
 ·rw [Int.pow_one]; unfold az Dg.B; omega
 ·rw [Int.pow_one]; unfold az Dg.B; omega
theorem same_val {z w : Int × Int} (hz : Qv z) (hw : Qv w) {N D : Int} (hD : 0 < D) (h1 : z.1 * D = N * z.2) (h2 : w.1 * D = N * w.2) : z = w := by
 obtain ⟨a, b⟩ := z
 obtain ⟨c, d⟩ := w
 have e : a * d = c * b := by
  refine Int.eq_of_mul_eq_mul_right (a := D) (by omega) ?_
  simp only at h1 h2
  calc a * d * D = (a * D) * d := by grind
   _ = N * b * d := by rw [h1]
   _ = (N * d) * b := by grind
   _ = c * D * b := by rw [h2]
   _ = c * b * D := by grind
 obtain ⟨rfl, rfl⟩ := cross_eq hz hw e
 rfl
end Ab
