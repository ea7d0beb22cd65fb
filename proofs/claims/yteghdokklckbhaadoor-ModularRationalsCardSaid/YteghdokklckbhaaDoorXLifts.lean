import Derived.Test.YteghdokklckbhaaDoorXLift
/-!
The law ModularLifts.
-/
open Go Go.Proofs
namespace Ab
set_option maxRecDepth 100000
set_option maxHeartbeats 1000000

theorem inv_start {p b : Int} (h0 : 0 ≤ b) (h1 : b < p) : LQ.Inv p b ⟨p, b, 0, 1⟩ := ⟨eu_init h0 h1, by show -p ≤ 0; omega, by show 0 ≤ p; omega, Int.le_refl p⟩
theorem big_start {p : Int} (h : 0 < p) : LQ.big p p := Or.inr (by
  have : 2 * p * 1 ≤ 2 * p * p := Int.mul_le_mul_of_nonneg_left (by omega) (by omega)
  omega)
/-- the fraction at the end, the sign at the numerator -/
theorem end_facts {p b : Int} (h : Pr p) {S : LQ} (hS : S.Inv p b) (hc : ¬ S.cond p) : ∃ n' d', (S.d < 0 → w64 (0 - S.n) = n' ∧ w64 (0 - S.d) = d') ∧ (¬ S.d < 0 → S.n = n' ∧ S.d = d') ∧ 0 < d' ∧ d' ≤ p ∧ -65536 ≤ n' ∧ n' ≤ 65536 ∧ (∃ k, n' - d' * b = p * k) ∧ ((n' = S.n ∧ d' = S.d) ∨ (n' = -S.n ∧ d' = -S.d)) := by
  have hp := h.lo
  have hh := h.hi
  have bd := eu_bd (by omega) hS.eu
  have n0 := hS.eu.n0
  have d0 := hS.eu.d0
  have n1 : S.n ≤ 65536 := Int.not_lt.1 fun g => hc (Or.inl g)
  obtain ⟨k, hk⟩ := hS.eu.c2
  by_cases g : S.d < 0
  · refine ⟨-S.n, -S.d, fun _ => ⟨by rw [w64_eq (n := 0 - S.n) (by omega)]; omega, by rw [w64_eq (n := 0 - S.d) (by omega)]; omega⟩, fun g2 => absurd g g2, by omega, by omega, by omega, by omega, ⟨-k, ?_⟩, .inr ⟨rfl, rfl⟩⟩
    rw [Int.neg_mul, Int.mul_neg]; omega
  · exact ⟨S.n, S.d, fun g2 => absurd g2 g, fun _ => ⟨rfl, rfl⟩, by omega, by omega, by omega, by omega, ⟨k, hk⟩, .inl ⟨rfl, rfl⟩⟩

theorem lift_any {p : Int} (h : Pr p) (a : Int) : Spec Tryd.prog glB4 17 [.int .i64 a, .int .i64 p] (.tup [mkQ false [] false [], .bool false, .int .i64 0]) ∨
    ∃ N D, 0 < D ∧ D < p ∧ Fits N ∧ Fits D ∧ Int.gcd N D = 1 ∧ ratF p N D = a % p ∧ Spec Tryd.prog glB4 17 [.int .i64 a, .int .i64 p] (.tup [mkR N D, .bool true, .int .i64 0]) := by
  have hb := h.mod a
  have s1 := residue_eq h glB4 a
  generalize a % p = b at *
  have hp := h.lo
  have hh := h.hi
  obtain ⟨S, hto, hS, _, hc⟩ := LQ.ex (show 0 < p by omega) b.toNat ⟨p, b, 0, 1⟩ (Nat.le_refl _) (inv_start hb.1 hb.2) (big_start (by omega))
  obtain ⟨n', d', h1, h2, h3, h4, h5, h6, h7, _⟩ := end_facts h hS hc
  by_cases g : d' > 65536 ∨ 2 * d' * d' ≥ p
  · exact .inl (lift_no h s1 (inv_start hb.1 hb.2) hto h1 h2 (by omega) g)
  · right
    have g1 : ¬ d' > 65536 := fun x => g (.inl x)
    have g2 : ¬ 2 * d' * d' ≥ p := fun x => g (.inr x)
    have dp : d' < p := by
      have : 2 * d' * 1 ≤ 2 * d' * d' := Int.mul_le_mul_of_nonneg_left (by omega) (by omega)
      omega
    have ho := ratof_int glB4 (n := n') (d := d') (by omega) (by omega) h3 (by omega)
    have back := ratF_back h h3 dp h7
    have g0 := gcd_pos (n := n') h3
    rw [Int.emod_eq_of_lt hb.1 hb.2] at back
    have q1 : d' / (Int.gcd n' d' : Int) ≤ d' := Int.ediv_le_self _ (by omega)
    exact ⟨_, _, Int.ediv_pos_of_pos_of_dvd h3 (by omega) (Int.gcd_dvd_right n' d'), Int.lt_of_le_of_lt q1 dp, quo_fits g0 (fits_i64 (by omega) (by omega)), quo_fits g0 (fits_i64 (by omega) (by omega)), Int.gcd_ediv_gcd_ediv_gcd (by omega), back, lift_yes h s1 (inv_start hb.1 hb.2) hto h1 h2 (by omega) g1 g2 ho⟩
theorem M_bd {p M : Int} (hp : p ≤ 2147483647) (h : 2 * (M * M) < p) (h1 : 1 ≤ M) : M < 32768 ∧ M < p := by
  refine ⟨Int.not_le.1 fun g => ?_, ?_⟩
  · have : 32768 * 32768 ≤ M * M := Int.mul_le_mul g g (by decide) (by omega)
    omega
  · have : M * 1 ≤ M * M := Int.mul_le_mul_of_nonneg_left h1 (by omega)
    omega
theorem lift_first {p M N D : Int} (h : Pr p) (hM0 : 1 ≤ M) (hM : 2 * (M * M) < p) (hM2 : p ≤ 2 * ((M + 1) * (M + 1))) (hN1 : -M ≤ N) (hN2 : N ≤ M) (hD1 : 0 < D) (hD2 : D ≤ M) (hg : Int.gcd N D = 1) :
    Spec Tryd.prog glB4 17 [.int .i64 (ratF p N D), .int .i64 p] (.tup [mkR N D, .bool true, .int .i64 0]) := by
  have hp := h.lo
  have hh := h.hi
  have hb := ratF_bd h N D
  have s1 := residue_eq h glB4 (ratF p N D)
  have bM := M_bd hh hM hM0
  have e := ratF_mul (N := N) (D := D) h (by rw [Int.emod_eq_of_lt (by omega) (by omega)]; omega)
  rw [Int.emod_eq_of_lt hb.1 hb.2] at s1
  generalize ratF p N D = b at *
  have hcg : ∃ k, N - D * b = p * k := Int.dvd_of_emod_eq_zero (Int.emod_eq_emod_iff_emod_sub_eq_zero.1 e.symm)
  obtain ⟨S, hto, hS, hbig, hc⟩ := LQ.ex (show 0 < p by omega) b.toNat ⟨p, b, 0, 1⟩ (Nat.le_refl _) (inv_start hb.1 hb.2) (big_start (by omega))
  obtain ⟨n', d', h1, h2, h3, h4, h5, h6, _, h8⟩ := end_facts h hS hc
  have hr : M < S.r := big_lt (by omega) hM hh (by have := hS.eu.nr; have := hS.eu.n0; omega) hbig
  have hn : S.n ≤ M := small_le hM2 (by omega) (Int.not_le.1 fun g => hc (Or.inr g))
  have hu := lift_uniq (by omega) hS.eu hr hn hM hN1 hN2 hD1 hD2 hcg hg
  obtain ⟨rfl, rfl⟩ : n' = N ∧ d' = D := by
    rcases hu with ⟨u1, u2⟩ | ⟨u1, u2⟩ <;> rcases h8 with ⟨v1, v2⟩ | ⟨v1, v2⟩ <;> omega
  have g2 : d' * d' ≤ M * M := Int.mul_le_mul hD2 hD2 (by omega) (by omega)
  have ho := ratof_int glB4 (n := n') (d := d') (by omega) (by omega) h3 (by omega)
  rw [hg, show ((1 : Nat) : Int) = 1 from rfl, Int.ediv_one, Int.ediv_one] at ho
  exact lift_yes h s1 (inv_start hb.1 hb.2) hto h1 h2 (by omega) (by omega) (by rw [Int.mul_assoc]; omega) ho

/-- the fraction that the law makes, and what becomes of it -/
theorem first_facts {p M n d : Int} (h : Pr p) (hM0 : 1 ≤ M) (hM : 2 * (M * M) < p) (hM2 : p ≤ 2 * ((M + 1) * (M + 1))) (hn : I64 n) (hd : I64 d) : ∃ nn nl dn dl r, nl.length ≤ 1073741824 ∧ dl.length ≤ 1073741824 ∧
    Spec Tryd.prog glB4 15 [.int .i64 (w64 (pickF n (w64 (w64 (2 * M) + 1)) - M)), .int .i64 (w64 (1 + pickF d M))] (.tup [mkQ nn nl dn dl, .int .i64 0]) ∧
    Spec Tryd.prog glB4 16 [mkQ nn nl dn dl, .int .i64 p] (.tup [.int .i64 r, .int .i64 0]) ∧
    Spec Tryd.prog glB4 17 [.int .i64 r, .int .i64 p] (.tup [mkQ nn nl dn dl, .bool true, .int .i64 0]) := by
  have hp := h.lo
  have hh := h.hi
  have bM := M_bd hh hM hM0
  have x1 := pickF_bd (x := n) (n := 2 * M + 1) (by omega) hn.1 hn.2
  have y1 := pickF_bd (x := d) (n := M) (by omega) hd.1 hd.2
  rw [w64_eq (n := 2 * M) (by omega), w64_eq (n := 2 * M + 1) (by omega), w64_eq (n := pickF n (2 * M + 1) - M) (by omega), w64_eq (n := 1 + pickF d M) (by omega)]
  generalize pickF n (2 * M + 1) = x at *
  generalize pickF d M = y at *
  have ho := ratof_int glB4 (n := x - M) (d := 1 + y) (by omega) (by omega) (by omega) (by omega)
  have g0 := gcd_pos (n := x - M) (d := 1 + y) (by omega)
  have g1 := Int.gcd_ediv_gcd_ediv_gcd (i := x - M) (j := 1 + y) (by omega)
  have q0 := Int.ediv_pos_of_pos_of_dvd (show 0 < 1 + y by omega) (by omega) (Int.gcd_dvd_right (x - M) (1 + y))
  generalize (Int.gcd (x - M) (1 + y) : Int) = g at *
  have q1 : (1 + y) / g ≤ 1 + y := Int.ediv_le_self _ (by omega)
  have q2 := quo_abs (a := x - M) g0
  generalize (1 + y) / g = D at *
  generalize (x - M) / g = N at *
  unfold az at q2
  have fN : Fits N := fits_i64 (by omega) (by omega)
  have fD : Fits D := fits_i64 (by omega) (by omega)
  exact ⟨_, _, _, _, _, Nat.le_trans fN (by decide), Nat.le_trans fD (by decide), ho, mrat_spec h fN fD q0 (by omega) g1, lift_first h hM0 hM hM2 (by omega) (by omega) q0 (by omega) g1⟩
theorem most_arith {p m : Int} (hp : p ≤ 2147483647) (h : 2 * (m * m) < p) (h1 : 1 ≤ m) : w64 (w64 (2 * w64 (m + 1)) * w64 (m + 1)) = 2 * ((m + 1) * (m + 1)) ∧ w64 (m + 1) = m + 1 := by
  have b := M_bd hp h h1
  have m0 : 0 ≤ (m + 1) * (m + 1) := Int.mul_nonneg (by omega) (by omega)
  have m1 : (m + 1) * (m + 1) ≤ 32768 * 32768 := Int.mul_le_mul (by omega) (by omega) (by omega) (by decide)
  have e : w64 (m + 1) = m + 1 := w64_eq (by omega)
  rw [e, w64_eq (n := 2 * (m + 1)) (by omega), Int.mul_assoc, w64_eq (by omega)]
  exact ⟨rfl, rfl⟩

theorem lifts_walk {p : Int} (h : Pr p) (n d a p0 : Int) (hn : I64 n) (hd : I64 d) (hp0 : I64 p0) (hp : lawP p0 = p) : Spec Tryd.prog glB4 4 [.int .i64 n, .int .i64 d, .int .i64 a, .int .i64 p0] (.bool true) := by
  have hpr := lawPrime_spec glB4 p0 hp0.1 hp0.2
  rw [hp] at hpr
  have h1 := h.lo
  have h2 := h.hi
  have hz := lift_any h a
  have hmod := Mod_spec h a
  refine spec_fn T_ok mixed_ok 1 Tryd.func4 fn_ok4 (by kernel_rfl) ?_
  first | refine Exists.intro _ (And.intro (sane_spec) ?_) | refine Hn_by (Exists.intro _ (And.intro (sane_spec) ?_))
  repeat (first | refine gT ?_ | refine gF ?_ | refine brT ?_ | refine brF ?_)
  first | refine Exists.intro _ (And.intro (hpr) ?_) | refine Hn_by (Exists.intro _ (And.intro (hpr) ?_))
  refine aw_loop (fun m : Int => stOf [(0, .int .i64 n), (1, .int .i64 d), (2, .int .i64 a), (3, .int .i64 p), (9, .int .i64 m)] [] 0) (fun m => 1 ≤ m ∧ 2 * (m * m) < p) (fun m => (p - m).toNat) 1 ⟨by decide, by omega⟩
    (le_by ⟨rfl, rfl, rfl, rfl, rfl, trivial⟩ trivial (Nat.le_refl _)) ?_
  rintro M ⟨m1, m2⟩ P hP
  obtain ⟨ea, eb⟩ := most_arith h2 m2 m1
  have mb := M_bd h2 m2 m1
  refine br (fun h3 => ?_) (fun h3 => ?_)
  · have h3' : 2 * ((M + 1) * (M + 1)) < p := by rw [← ea]; exact h3
    exact hP (M + 1) _ (le_by ⟨rfl, rfl, rfl, rfl, int_eq eb, trivial⟩ trivial (Nat.le_refl _)) ⟨by omega, h3'⟩ (by omega)
  · clear hP
    have h3' : p ≤ 2 * ((M + 1) * (M + 1)) := by rw [← ea]; exact Int.not_lt.1 h3
    clear h3 ea eb
    obtain ⟨nn, nl, dn, dl, r, l1, l2, sOf, sRat, sLift⟩ := first_facts h m1 m2 h3' hn hd
    have sSame := same_rat glB4 (nn := nn) (dn := dn) l1 l2
    have hk : w64 (w64 (2 * M) + 1) ≠ 0 := by rw [w64_eq (n := 2 * M) (by omega), w64_eq (n := 2 * M + 1) (by omega)]; omega
    have pk1 := pick_spec glB4 n (w64 (w64 (2 * M) + 1)) hk
    have pk2 := pick_spec glB4 d M (by omega)
    first | refine Exists.intro _ (And.intro (pk1) ?_) | refine Hn_by (Exists.intro _ (And.intro (pk1) ?_))
    first | refine Exists.intro _ (And.intro (pk2) ?_) | refine Hn_by (Exists.intro _ (And.intro (pk2) ?_))
    first | refine Exists.intro _ (And.intro (sOf) ?_) | refine Hn_by (Exists.intro _ (And.intro (sOf) ?_))
    first | refine Exists.intro _ (And.intro (sRat) ?_) | refine Hn_by (Exists.intro _ (And.intro (sRat) ?_))
    first | refine Exists.intro _ (And.intro (sLift) ?_) | refine Hn_by (Exists.intro _ (And.intro (sLift) ?_))
    repeat (first | refine gT ?_ | refine gF ?_ | refine brT ?_ | refine brF ?_)
    first | refine Exists.intro _ (And.intro (sSame) ?_) | refine Hn_by (Exists.intro _ (And.intro (sSame) ?_))
    repeat (first | refine gT ?_ | refine gF ?_ | refine brT ?_ | refine brF ?_)
    rcases hz with s5 | ⟨N, D, d0, d1, fN, fD, hg, hr, s5⟩
    · have sz := same_rat glB4 (nn := false) (nl := []) (dn := false) (dl := []) (by decide) (by decide)
      first | refine Exists.intro _ (And.intro (s5) ?_) | refine Hn_by (Exists.intro _ (And.intro (s5) ?_))
      repeat (first | refine gT ?_ | refine gF ?_ | refine brT ?_ | refine brF ?_)
      first | refine Exists.intro _ (And.intro (sz) ?_) | refine Hn_by (Exists.intro _ (And.intro (sz) ?_))
      repeat (first | refine gT ?_ | refine gF ?_ | refine brT ?_ | refine brF ?_)
      exact And.intro (Or.inr rfl) rfl
    · have s6 := mrat_spec h fN fD d0 d1 hg
      rw [hr] at s6
      first | refine Exists.intro _ (And.intro (s5) ?_) | refine Hn_by (Exists.intro _ (And.intro (s5) ?_))
      repeat (first | refine gT ?_ | refine gF ?_ | refine brT ?_ | refine brF ?_)
      first | refine Exists.intro _ (And.intro (s6) ?_) | refine Hn_by (Exists.intro _ (And.intro (s6) ?_))
      first | refine Exists.intro _ (And.intro (hmod) ?_) | refine Hn_by (Exists.intro _ (And.intro (hmod) ?_))
      repeat (first | refine gT ?_ | refine gF ?_ | refine brT ?_ | refine brF ?_)
      exact And.intro (Or.inr rfl) (congrArg AV.bool (beq_self_eq_true (a % p)))
theorem lifts_spec (n d a p0 : Int) (hn : (Lit.int .i64 n).wf = true) (hd : (Lit.int .i64 d).wf = true) (_ha : (Lit.int .i64 a).wf = true) (hp : (Lit.int .i64 p0).wf = true) :
    Spec Tryd.prog glB4 4 [.int .i64 n, .int .i64 d, .int .i64 a, .int .i64 p0] (.bool true) :=
  lifts_walk (Pr.of (lawP_prime p0 (wf_I64 hp).1 (wf_I64 hp).2)) n d a p0 (wf_I64 hn) (wf_I64 hd) (wf_I64 hp) rfl
end Ab
