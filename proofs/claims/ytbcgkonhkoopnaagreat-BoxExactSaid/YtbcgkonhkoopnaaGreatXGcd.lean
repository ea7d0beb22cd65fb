import Derived.Test.YtbcgkonhkoopnaaGreatXDivide
/-!
The contracts of integer.DivMod (divisors from 1 on), word, GCD.
-/
open Go Go.Proofs
namespace Ab
set_option maxRecDepth 100000
set_option maxHeartbeats 1000000

theorem fits_le {a b : Int} (h : az a ≤ az b) (hb : Fits b) : Fits a := Nat.le_trans (mag_le (az_nn a) h) hb
theorem fits_nn {a : Int} (h : 0 ≤ a) : az a = a := by unfold az; omega
theorem mkZ_nn {a : Int} (h : 0 ≤ a) : mkZ a = mkI false (Dg.mag a) := by
  unfold mkZ
  rw [fits_nn h, decide_eq_false (by omega)]
/-- a quotient, by magnitudes -/
theorem div_cases {a b : Int} (hb : 0 < b) : (0 ≤ a → a / b = az a / b ∧ a % b = az a % b) ∧ (a < 0 → az a % b = 0 → a / b = -(az a / b) ∧ a % b = 0) ∧ (a < 0 → az a % b ≠ 0 → a / b = -(az a / b + 1) ∧ a % b = b - az a % b) := by
  refine ⟨fun h => by rw [fits_nn h]; exact ⟨rfl, rfl⟩, fun h h2 => ?_, fun h h2 => ?_⟩
  · have e : az a = -a := by unfold az; omega
    have d := Int.mul_ediv_add_emod (az a) b
    rw [h2] at d
    have ea : a = b * -(az a / b) := by rw [Int.mul_neg]; omega
    generalize az a / b = q at *
    rw [ea]
    exact ⟨Int.mul_ediv_cancel_left _ (by omega), Int.mul_emod_right _ _⟩
  · have e : az a = -a := by unfold az; omega
    have d := Int.mul_ediv_add_emod (az a) b
    have r0 := Int.emod_nonneg (az a) (show b ≠ 0 by omega)
    have r1 := Int.emod_lt_of_pos (az a) hb
    generalize az a / b = q at *
    generalize az a % b = r at *
    have ea : a = (b - r) + b * -(q + 1) := by rw [Int.mul_neg, Int.mul_add, Int.mul_one]; omega
    rw [ea]
    refine ⟨?_, ?_⟩
    · rw [Int.add_mul_ediv_left _ _ (by omega), Int.ediv_eq_zero_of_lt (by omega) (by omega), Int.zero_add]
    · rw [Int.add_mul_emod_self_left, Int.emod_eq_of_lt (by omega) (by omega)]
theorem resZ_small {z : Int} (h : Fits z) : resZ z = .tup [mkZ z, .int .i64 0] := resZ_ok h

theorem divmod_walk (gl : List (Nat × AV)) {an : Bool} {al bl q0 r0 q1 r1 ql rl : List Int} {qn rn : Bool} (s0 : Spec Tryz.prog gl 84 [mkI an al, mkI false bl] (.bool true)) (hb : ¬ ((irows .u32 bl).length : Int) = 0)
    (s1 : Spec Tryz.prog gl 124 [lim al, lim bl] (.tup [lim q0, lim r0])) (hn : an = true → ((irows .u32 r0).length : Int) > 0 → Spec Tryz.prog gl 83 [lim q0, lim [1]] (lim q1) ∧ Spec Tryz.prog gl 125 [lim bl, lim r0] (lim r1))
    (hz : ¬ (an = true ∧ ((irows .u32 r0).length : Int) > 0) → q1 = q0 ∧ r1 = r0)
    (s3 : Spec Tryz.prog gl 80 [.bool an, lim q1] (.tup [mkI qn ql, .int .i64 0])) (s4 : Spec Tryz.prog gl 80 [.bool false, lim r1] (.tup [mkI rn rl, .int .i64 0])) :
    Spec Tryz.prog gl 88 [mkI an al, mkI false bl] (.tup [mkI qn ql, mkI rn rl, .int .i64 0]) := by
  cases an with
  | false =>
    obtain ⟨rfl, rfl⟩ := hz (by simp)
    refine spec_fn T_ok mixed_ok 1 Tryz.func88 fn_ok88 (by kernel_rfl) ?_
    first | refine Exists.intro _ (And.intro (s0) ?_) | refine Hn_by (Exists.intro _ (And.intro (s0) ?_))
    repeat (first | refine gT ?_ | refine gF ?_ | refine brT ?_ | refine brF ?_)
    refine brE (fun g => absurd g hb) (fun _ => ?_)
    first | refine Exists.intro _ (And.intro (s1) ?_) | refine Hn_by (Exists.intro _ (And.intro (s1) ?_))
    repeat (first | refine gT ?_ | refine gF ?_ | refine brT ?_ | refine brF ?_)
    first | refine Exists.intro _ (And.intro (s3) ?_) | refine Hn_by (Exists.intro _ (And.intro (s3) ?_))
    repeat (first | refine gT ?_ | refine gF ?_ | refine brT ?_ | refine brF ?_)
    first | refine Exists.intro _ (And.intro (s4) ?_) | refine Hn_by (Exists.intro _ (And.intro (s4) ?_))
    refine And.intro (by kernel_rfl) ?_
    repeat (first | refine gT ?_ | refine gF ?_ | refine brT ?_ | refine brF ?_ | refine And.intro rfl ?_)
    exact And.intro (Or.inr rfl) rfl
  | true =>
    by_cases hr : ((irows .u32 r0).length : Int) > 0
    · obtain ⟨d1, d2⟩ := hn rfl hr
      refine spec_fn T_ok mixed_ok 1 Tryz.func88 fn_ok88 (by kernel_rfl) ?_
      first | refine Exists.intro _ (And.intro (s0) ?_) | refine Hn_by (Exists.intro _ (And.intro (s0) ?_))
      repeat (first | refine gT ?_ | refine gF ?_ | refine brT ?_ | refine brF ?_)
      refine brE (fun g => absurd g hb) (fun _ => ?_)
      first | refine Exists.intro _ (And.intro (s1) ?_) | refine Hn_by (Exists.intro _ (And.intro (s1) ?_))
      refine brT ?_
      refine brT ?_
      refine brT ?_
      refine br (fun _ => ?_) (fun g => absurd hr g)
      refine Hn_by (And.intro (Nat.le_refl 1) (Exists.intro _ (And.intro d1 ?_)))
      first | refine Exists.intro _ (And.intro (d2) ?_) | refine Hn_by (Exists.intro _ (And.intro (d2) ?_))
      first | refine Exists.intro _ (And.intro (s3) ?_) | refine Hn_by (Exists.intro _ (And.intro (s3) ?_))
      repeat (first | refine gT ?_ | refine gF ?_ | refine brT ?_ | refine brF ?_)
      first | refine Exists.intro _ (And.intro (s4) ?_) | refine Hn_by (Exists.intro _ (And.intro (s4) ?_))
      refine And.intro (by kernel_rfl) ?_
      repeat (first | refine gT ?_ | refine gF ?_ | refine brT ?_ | refine brF ?_ | refine And.intro rfl ?_)
      exact And.intro (Or.inr rfl) rfl
    · obtain ⟨rfl, rfl⟩ := hz (fun g => hr g.2)
      refine spec_fn T_ok mixed_ok 1 Tryz.func88 fn_ok88 (by kernel_rfl) ?_
      first | refine Exists.intro _ (And.intro (s0) ?_) | refine Hn_by (Exists.intro _ (And.intro (s0) ?_))
      repeat (first | refine gT ?_ | refine gF ?_ | refine brT ?_ | refine brF ?_)
      refine brE (fun g => absurd g hb) (fun _ => ?_)
      first | refine Exists.intro _ (And.intro (s1) ?_) | refine Hn_by (Exists.intro _ (And.intro (s1) ?_))
      refine brT ?_
      refine brT ?_
      refine brT ?_
      refine br (fun g => absurd g hr) (fun _ => ?_)
      first | refine Exists.intro _ (And.intro (s3) ?_) | refine Hn_by (Exists.intro _ (And.intro (s3) ?_))
      repeat (first | refine gT ?_ | refine gF ?_ | refine brT ?_ | refine brF ?_)
      first | refine Exists.intro _ (And.intro (s4) ?_) | refine Hn_by (Exists.intro _ (And.intro (s4) ?_))
      refine And.intro (by kernel_rfl) ?_
      repeat (first | refine gT ?_ | refine gF ?_ | refine brT ?_ | refine brF ?_ | refine And.intro rfl ?_)
      exact And.intro (Or.inr rfl) rfl

theorem len_pos_mag {x : Int} (h : 0 ≤ x) : ((irows .u32 (Dg.mag x)).length : Int) > 0 ↔ 0 < x := by
  rw [irows_len]
  have := mag_nil h
  constructor
  · intro g
    refine Int.not_le.1 fun e => ?_
    rw [this.2 (by omega)] at g
    simp at g
  · intro g
    have : Dg.mag x ≠ [] := fun e => by have := this.1 e; omega
    have := List.length_pos_iff.2 this
    omega
theorem quo_abs {a b : Int} (hb : 0 < b) : az (a / b) ≤ az a := by
  obtain ⟨c1, c2, c3⟩ := div_cases (a := a) hb
  have d := Int.mul_ediv_add_emod (az a) b
  have q0 := Int.ediv_nonneg (az_nn a) (Int.le_of_lt hb)
  have r0 := Int.emod_nonneg (az a) (show b ≠ 0 by omega)
  have r1 := Int.emod_lt_of_pos (az a) hb
  have e1 : 1 * (az a / b) ≤ b * (az a / b) := Int.mul_le_mul_of_nonneg_right hb q0
  by_cases h : a < 0
  · by_cases h2 : az a % b = 0
    · rw [(c2 h h2).1]
      have : az (-(az a / b)) = az a / b := by unfold az at *; omega
      omega
    · rw [(c3 h h2).1]
      have e2 : 2 * (az a / b) ≤ b * (az a / b) := Int.mul_le_mul_of_nonneg_right (by omega) q0
      have : az (-(az a / b + 1)) = az a / b + 1 := by unfold az at *; omega
      omega
  · rw [(c1 (by omega)).1, fits_nn q0]
    omega
theorem result_fit (gl : List (Nat × AV)) {neg : Bool} {x z : Int} (hx : 0 ≤ x) (hz : sg neg x = z) (hf : Fits z) : Spec Tryz.prog gl 80 [.bool neg, lim (Dg.mag x)] (.tup [mkZ z, .int .i64 0]) := by
  have e : az z = x := by rw [← hz]; unfold sg az; split <;> omega
  have hb : x < Dg.B ^ 128 := by rw [← e]; exact az_lt hf
  have s := result_int gl hx hz hb (by decide)
  rwa [resZ_ok hf] at s
theorem divmod_int (gl : List (Nat × AV)) {a b : Int} (ha : Fits a) (hb : Fits b) (h0 : 0 < b) : Spec Tryz.prog gl 88 [mkZ a, mkZ b] (.tup [mkZ (a / b), mkZ (a % b), .int .i64 0]) := by
  have s0 := both_ok gl ha hb
  rw [mkZ_nn (a := b) (by omega)] at s0 ⊢
  have fq : Fits (a / b) := fits_le (quo_abs h0) ha
  have m0 := Int.emod_nonneg a (show b ≠ 0 by omega)
  have m1 := Int.emod_lt_of_pos a h0
  have fr : Fits (a % b) := fits_le (by rw [fits_nn m0, fits_nn (a := b) (by omega)]; omega) hb
  have s1 := divide_int gl (az_nn a) h0 (Nat.le_trans ha (by decide))
  have hbl : ¬ ((irows .u32 (Dg.mag b)).length : Int) = 0 := by
    have := (len_pos_mag (x := b) (by omega)).2 h0
    omega
  obtain ⟨c1, c2, c3⟩ := div_cases (a := a) h0
  have q0 := Int.ediv_nonneg (az_nn a) (Int.le_of_lt h0)
  have r0 := Int.emod_nonneg (az a) (show b ≠ 0 by omega)
  have r1 := Int.emod_lt_of_pos (az a) h0
  have hlp := len_pos_mag r0
  by_cases h : a < 0
  · have hd := decide_eq_true h
    by_cases h2 : az a % b = 0
    · obtain ⟨e1, e2⟩ := c2 h h2
      have s3 := result_fit gl (neg := true) q0 (by unfold sg; rw [if_pos rfl]; exact e1.symm) fq
      have s4 := result_fit gl (neg := false) r0 (by unfold sg; rw [if_neg (by decide), h2]; exact e2.symm) fr
      unfold mkZ at s0 s3 s4 ⊢
      rw [hd] at s0 ⊢
      exact divmod_walk gl s0 hbl s1 (fun _ g => absurd (hlp.1 g) (by omega)) (fun _ => ⟨rfl, rfl⟩) s3 s4
    · obtain ⟨e1, e2⟩ := c3 h h2
      have hD1 : Dg.D [1] := Dg.D.cons.2 ⟨by decide, Dg.D.nil⟩
      have su := sum_spec gl (Dg.magD (az a / b)) hD1 (by
        have := mag_le q0 (show az a / b ≤ az a from Int.ediv_le_self b (az_nn a))
        have := fits_len ha
        omega) (by simp)
      rw [Dg.magV q0, show Dg.val [1] = 1 by simp [Dg.val]] at su
      have di := diff_spec gl (Dg.magD b) (Dg.magD (az a % b)) (by have := fits_len hb; rw [fits_nn (a := b) (by omega)] at this; omega) (mag_le r0 (Int.le_of_lt r1)) (by rw [Dg.magV (n := b) (by omega), Dg.magV r0]; omega)
      rw [Dg.magV (n := b) (by omega), Dg.magV r0] at di
      have s3 := result_fit gl (neg := true) (x := az a / b + 1) (by omega) (by unfold sg; rw [if_pos rfl]; exact e1.symm) fq
      have s4 := result_fit gl (neg := false) (x := b - az a % b) (by omega) (by unfold sg; rw [if_neg (by decide)]; exact e2.symm) fr
      unfold mkZ at s0 s3 s4 ⊢
      rw [hd] at s0 ⊢
      exact divmod_walk gl s0 hbl s1 (fun _ _ => ⟨su, di⟩) (fun g => absurd ⟨rfl, hlp.2 (by omega)⟩ g) s3 s4
  · have hd := decide_eq_false h
    obtain ⟨e1, e2⟩ := c1 (by omega)
    have s3 := result_fit gl (neg := false) q0 (by unfold sg; rw [if_neg (by decide)]; exact e1.symm) fq
    have s4 := result_fit gl (neg := false) r0 (by unfold sg; rw [if_neg (by decide)]; exact e2.symm) fr
    unfold mkZ at s0 s3 s4 ⊢
    rw [hd] at s0 ⊢
    exact divmod_walk gl s0 hbl s1 (fun g => absurd g (by decide)) (fun _ => ⟨rfl, rfl⟩) s3 s4

theorem word_or {i : Nat} (hi : i ≤ 1) {T x : Int} (hT : 0 ≤ T ∧ T < Dg.B ^ i) (hx : 0 ≤ x ∧ x < Dg.B) : Go.bits .or .u64 T (u64 (u64 x * 2 ^ (min (w64 (32 * (i : Int))).toNat IntKind.u64.bits))) = T + Dg.B ^ i * x := by
  rcases Nat.le_one_iff_eq_zero_or_eq_one.1 hi with rfl | rfl
  · have e0 : Dg.B ^ 0 = 1 := by decide
    rw [e0] at hT ⊢
    obtain rfl : T = 0 := by omega
    rw [show (w64 (32 * ((0 : Nat) : Int))).toNat = 0 by decide, Nat.zero_min]
    simp only [Dg.B] at hx
    obtain ⟨n, rfl⟩ := Int.eq_ofNat_of_zero_le hx.1
    rw [Int.pow_zero, Int.mul_one, u64_in (n := (n : Int)) (by omega), u64_in (by omega), show (0 : Int) = ((0 : Nat) : Int) from rfl, u64_or_nat _ _ (by decide) (by omega), Nat.zero_or]
    omega
  · have e1 : Dg.B ^ 1 = Dg.B := by decide
    rw [e1] at hT ⊢
    rw [show min (w64 (32 * ((1 : Nat) : Int))).toNat IntKind.u64.bits = 32 by decide]
    have := or_limb2 hT hx
    rw [u64_in (n := T) (by simp only [Dg.B] at hT; omega)] at this
    exact this
theorem word_spec (gl : List (Nat × AV)) {l : List Int} (hl : Dg.D l) (h2 : l.length ≤ 2) : Spec Tryz.prog gl 89 [lim l] (.int .u64 (Dg.val l)) := by
  have la : ((irows .u32 l).length : Int) = l.length := by rw [irows_len]
  refine spec_fn T_ok mixed_ok 0 Tryz.func89 fn_ok89 (by kernel_rfl) ?_
  refine aw_loop (fun i : Nat => stOf [(0, lim l), (3, .int .u64 (Dg.val (l.take i))), (6, .int .i64 (l.length : Int)), (7, .int .i64 (i : Int))] [] 0) (fun i => i ≤ l.length) (fun i => l.length - i) 0 (Nat.zero_le _)
    (le_by ⟨rfl, rfl, int_eq la, rfl, trivial⟩ trivial (Nat.le_refl _)) ?_
  intro i hi P hP
  refine br (fun h3 => ?_) (fun h3 => ?_)
  · have hil : i < l.length := by have : (i : Int) < (l.length : Int) := h3; omega
    have lx := Dg.getD_bd hl i
    have ix : (irows .u32 l)[((i : Int)).toNat]? = some [.int .u32 (l.getD i 0)] := irows_at (getD_some hil)
    have hw2 : w64 ((i : Int) + 1) = ((i + 1 : Nat) : Int) := by rw [w64_eq (by omega)]; omega
    have k0 : 0 ≤ w64 (32 * (i : Int)) := by rw [w64_eq (by omega)]; omega
    have e := word_or (i := i) (by omega) (Dg.val_take_lt hl i) lx
    rw [← Dg.take_succ] at e
    refine And.intro (show (0 : Int) ≤ (i : Int) by omega) (Exists.intro _ (And.intro ix ?_))
    refine And.intro k0 ?_
    exact hP (i + 1) _ (le_by ⟨rfl, int_eq e, rfl, int_eq hw2, trivial⟩ trivial (Nat.le_refl _)) hil (by omega)
  · clear hP
    have hil : i = l.length := by have : ¬ (i : Int) < (l.length : Int) := h3; omega
    subst hil
    rw [List.take_length]
    exact And.intro (Or.inr rfl) rfl

/-! GCD -/
theorem len_gt2 {x : Nat} : ((irows .u32 (Dg.mag (x : Int))).length : Int) > 2 ↔ ¬ x < 2 ^ 64 := by
  rw [irows_len]
  constructor
  · intro g h
    have := Dg.mag_len_lt (n := (x : Int)) (k := 2) (by omega) (by simp only [Dg.B]; omega)
    omega
  · intro g
    refine Int.not_le.1 fun h => g ?_
    have a := Dg.val_lt (Dg.magD (x : Int))
    rw [Dg.magV (by omega)] at a
    have b : Dg.B ^ (Dg.mag (x : Int)).length ≤ Dg.B ^ 2 := by
      rw [pow_B, pow_B]; exact two_pow_le (by omega)
    have c : Dg.B ^ 2 = 18446744073709551616 := by decide
    omega
theorem len_gt0 {x : Nat} : ((irows .u32 (Dg.mag (x : Int))).length : Int) > 0 ↔ 0 < x := by
  rw [len_pos_mag (Int.natCast_nonneg x)]; omega


theorem gcd_int (gl : List (Nat × AV)) {a b : Int} (ha : Fits a) (hb : Fits b) : Spec Tryz.prog gl 101 [mkZ a, mkZ b] (.tup [mkZ (Int.gcd a b : Int), .int .i64 0]) := by
  have s0 := both_ok gl ha hb
  obtain ⟨G, hG⟩ : ∃ G, G = Int.gcd a b := ⟨_, rfl⟩
  rw [← hG, mkZ_nn (Int.natCast_nonneg G)]
  have hg0 : Nat.gcd a.natAbs b.natAbs = G := hG.symm
  have fa := fits_len ha
  have fb := fits_len hb
  have fG : ∀ {x : Nat}, (Dg.mag (x : Int)).length ≤ 128 → Fits (x : Int) := fun h => by unfold Fits; rw [fits_nn (Int.natCast_nonneg _)]; exact h
  have hres : G < 2 ^ 64 → Spec Tryz.prog gl 80 [.bool false, lim [u32 (G : Int), u32 ((G : Int).fdiv (2 ^ 32))]] (.tup [mkI false (Dg.mag (G : Int)), .int .i64 0]) := by
    intro h
    obtain ⟨hd, hv⟩ := two_limbs (G : Int) (by omega) (by omega)
    have s := result_spec gl false [u32 (G : Int), u32 ((G : Int).fdiv (2 ^ 32))] (by simp)
    rw [resI_eq _ hd, hv, if_neg (by decide), resZ_ok (fG (by
      have := Dg.mag_len_lt (n := (G : Int)) (k := 2) (by omega) (by simp only [Dg.B]; omega)
      omega)), mkZ_nn (Int.natCast_nonneg G)] at s
    exact s
  have hbig : (Dg.mag (G : Int)).length ≤ 128 → Spec Tryz.prog gl 80 [.bool false, lim (Dg.mag (G : Int))] (.tup [mkI false (Dg.mag (G : Int)), .int .i64 0]) := by
    intro h
    have s := result_fit gl (neg := false) (x := (G : Int)) (z := (G : Int)) (Int.natCast_nonneg G) rfl (fG h)
    rwa [mkZ_nn (Int.natCast_nonneg G)] at s
  unfold az at fa fb
  unfold mkZ az at *
  refine spec_fn T_ok mixed_ok 1 Tryz.func101 fn_ok101 (by kernel_rfl) ?_
  first | refine Exists.intro _ (And.intro (s0) ?_) | refine Hn_by (Exists.intro _ (And.intro (s0) ?_))
  repeat (first | refine gT ?_ | refine gF ?_ | refine brT ?_ | refine brF ?_)
  refine And.intro (by kernel_rfl) ?_
  repeat (first | refine gT ?_ | refine gF ?_ | refine brT ?_ | refine brF ?_ | refine And.intro rfl ?_)
  refine aw_loop (fun q : Nat × Nat => stOf [(4, .bp 2 0), (6, lim (Dg.mag (q.1 : Int))), (7, lim (Dg.mag (q.2 : Int)))] [(2, .box [.bool false, .nil])] 3)
    (fun q => Nat.gcd q.1 q.2 = G ∧ (Dg.mag (q.1 : Int)).length ≤ 128 ∧ (Dg.mag (q.2 : Int)).length ≤ 128) (fun q => q.2) (a.natAbs, b.natAbs) ⟨hg0, fa, fb⟩
    (le_by ⟨rfl, rfl, rfl, trivial⟩ ⟨rfl, trivial⟩ (Nat.le_refl _)) ?_
  rintro ⟨x, y⟩ ⟨hg, hxl, hyl⟩ P hP
  simp only at hg hxl hyl
  refine br (fun h2 => ?_) (fun h2 => ?_)
  · have hy0 : 0 < y := len_gt0.1 h2
    repeat (first | refine gT ?_ | refine gF ?_ | refine brT ?_ | refine brF ?_ | refine And.intro rfl ?_)
    refine gr (fun h3 => ?_) (fun h3 => ?_)
    · repeat (first | refine gT ?_ | refine gF ?_ | refine brT ?_ | refine brF ?_ | refine And.intro rfl ?_)
      have dv := divide_int gl (x := (x : Int)) (y := (y : Int)) (Int.natCast_nonneg x) (by omega) (by omega)
      first | refine Exists.intro _ (And.intro (dv) ?_) | refine Hn_by (Exists.intro _ (And.intro (dv) ?_))
      refine hP (y, x % y) _ (le_by ⟨rfl, rfl, rfl, trivial⟩ ⟨rfl, trivial⟩ (Nat.le_refl _)) ⟨?_, hyl, ?_⟩ (Nat.mod_lt _ hy0)
      · rw [← hg]
        show Nat.gcd y (x % y) = Nat.gcd x y
        rw [Nat.gcd_comm x y, Nat.gcd_rec y x, Nat.gcd_comm]
      · refine Nat.le_trans (mag_le (Int.natCast_nonneg _) ?_) hyl
        have := Nat.mod_lt x hy0
        show ((x % y : Nat) : Int) ≤ (y : Int)
        omega
    · repeat (first | refine gT ?_ | refine gF ?_ | refine brT ?_ | refine brF ?_ | refine And.intro rfl ?_)
      have hx64 : x < 2 ^ 64 := Decidable.byContradiction fun g => h3 (len_gt2.2 g)
      refine br (fun h4 => ?_) (fun h4 => ?_)
      · repeat (first | refine gT ?_ | refine gF ?_ | refine brT ?_ | refine brF ?_ | refine And.intro rfl ?_)
        have dv := divide_int gl (x := (x : Int)) (y := (y : Int)) (Int.natCast_nonneg x) (by omega) (by omega)
        first | refine Exists.intro _ (And.intro (dv) ?_) | refine Hn_by (Exists.intro _ (And.intro (dv) ?_))
        refine hP (y, x % y) _ (le_by ⟨rfl, rfl, rfl, trivial⟩ ⟨rfl, trivial⟩ (Nat.le_refl _)) ⟨?_, hyl, ?_⟩ (Nat.mod_lt _ hy0)
        · rw [← hg]
          show Nat.gcd y (x % y) = Nat.gcd x y
          rw [Nat.gcd_comm x y, Nat.gcd_rec y x, Nat.gcd_comm]
        · refine Nat.le_trans (mag_le (Int.natCast_nonneg _) ?_) hyl
          have := Nat.mod_lt x hy0
          show ((x % y : Nat) : Int) ≤ (y : Int)
          omega
      · clear hP
        have hy64 : y < 2 ^ 64 := Decidable.byContradiction fun g => h4 (len_gt2.2 g)
        refine br (fun g => absurd g h3) (fun _ => ?_)
        have wx := word_spec gl (Dg.magD (x : Int)) (by have := Dg.mag_len_lt (n := (x : Int)) (k := 2) (by omega) (by simp only [Dg.B]; omega); exact this)
        have wy := word_spec gl (Dg.magD (y : Int)) (by have := Dg.mag_len_lt (n := (y : Int)) (k := 2) (by omega) (by simp only [Dg.B]; omega); exact this)
        rw [Dg.magV (Int.natCast_nonneg x)] at wx
        rw [Dg.magV (Int.natCast_nonneg y)] at wy
        first | refine Exists.intro _ (And.intro (wx) ?_) | refine Hn_by (Exists.intro _ (And.intro (wx) ?_))
        first | refine Exists.intro _ (And.intro (wy) ?_) | refine Hn_by (Exists.intro _ (And.intro (wy) ?_))
        refine aw_loop (fun q : Nat × Nat => stOf [(4, .bp 2 0), (10, .int .u64 (q.1 : Int)), (11, .int .u64 (q.2 : Int))] [(2, .box [.bool false, .nil])] 3)
          (fun q => q.1 < 2 ^ 64 ∧ q.2 < 2 ^ 64 ∧ Nat.gcd q.1 q.2 = G) (fun q => q.2) (x, y) ⟨hx64, hy64, hg⟩
          (le_by ⟨rfl, rfl, rfl, trivial⟩ ⟨rfl, trivial⟩ (Nat.le_refl _)) ?_
        rintro ⟨n, m⟩ ⟨hn64, hm64, hnm⟩ P' hP'
        simp only at hn64 hm64 hnm
        refine br (fun h5 => ?_) (fun h5 => ?_)
        · have h5' : 0 < m := by have : (m : Int) > 0 := h5; omega
          refine And.intro (by kernel_rfl) ?_
          repeat (first | refine gT ?_ | refine gF ?_ | refine brT ?_ | refine brF ?_ | refine And.intro rfl ?_)
          refine And.intro (show (m : Int) ≠ 0 by omega) ?_
          repeat (first | refine gT ?_ | refine gF ?_ | refine brT ?_ | refine brF ?_ | refine And.intro rfl ?_)
          refine hP' (m, n % m) _ (le_by ⟨rfl, rfl, int_eq (show Int.tmod (n : Int) (m : Int) = ((n % m : Nat) : Int) by rw [Int.ofNat_tmod]), trivial⟩ ⟨rfl, trivial⟩ (Nat.le_refl _)) ⟨hm64, Nat.lt_trans (Nat.mod_lt _ h5') hm64, ?_⟩ (Nat.mod_lt _ h5')
          rw [← hnm]
          show Nat.gcd m (n % m) = Nat.gcd n m
          rw [Nat.gcd_comm n m, Nat.gcd_rec m n, Nat.gcd_comm]
        · clear hP'
          have h5' : m = 0 := by have : ¬ (m : Int) > 0 := h5; omega
          subst h5'
          have hG : n = G := by rw [← hnm, Nat.gcd_zero_right]
          subst hG
          refine And.intro (by decide) ?_
          refine Hn_by (And.intro (Nat.le_refl 2) (Exists.intro _ (And.intro (hres hn64) ?_)))
          exact And.intro (Or.inr rfl) rfl
  · clear hP
    repeat (first | refine gT ?_ | refine gF ?_ | refine brT ?_ | refine brF ?_ | refine And.intro rfl ?_)
    have hy0 : y = 0 := Decidable.byContradiction fun g => h2 (len_gt0.2 (by omega))
    by_cases hx64 : x < 2 ^ 64
    · have hx' : ¬ ((irows .u32 (Dg.mag (x : Int))).length : Int) > 2 := fun g => len_gt2.1 g hx64
      have hy64 : y < 2 ^ 64 := by omega
      refine br (fun g => absurd g hx') (fun _ => ?_)
      have wx := word_spec gl (Dg.magD (x : Int)) (by have := Dg.mag_len_lt (n := (x : Int)) (k := 2) (by omega) (by simp only [Dg.B]; omega); exact this)
      have wy := word_spec gl (Dg.magD (y : Int)) (by have := Dg.mag_len_lt (n := (y : Int)) (k := 2) (by omega) (by simp only [Dg.B]; omega); exact this)
      rw [Dg.magV (Int.natCast_nonneg x)] at wx
      rw [Dg.magV (Int.natCast_nonneg y)] at wy
      first | refine Exists.intro _ (And.intro (wx) ?_) | refine Hn_by (Exists.intro _ (And.intro (wx) ?_))
      first | refine Exists.intro _ (And.intro (wy) ?_) | refine Hn_by (Exists.intro _ (And.intro (wy) ?_))
      refine aw_loop (fun q : Nat × Nat => stOf [(4, .bp 2 0), (10, .int .u64 (q.1 : Int)), (11, .int .u64 (q.2 : Int))] [(2, .box [.bool false, .nil])] 3)
        (fun q => q.1 < 2 ^ 64 ∧ q.2 < 2 ^ 64 ∧ Nat.gcd q.1 q.2 = G) (fun q => q.2) (x, y) ⟨hx64, hy64, hg⟩
        (le_by ⟨rfl, rfl, rfl, trivial⟩ ⟨rfl, trivial⟩ (Nat.le_refl _)) ?_
      rintro ⟨n, m⟩ ⟨hn64, hm64, hnm⟩ P' hP'
      simp only at hn64 hm64 hnm
      refine br (fun h5 => ?_) (fun h5 => ?_)
      · have h5' : 0 < m := by have : (m : Int) > 0 := h5; omega
        refine And.intro (by kernel_rfl) ?_
        repeat (first | refine gT ?_ | refine gF ?_ | refine brT ?_ | refine brF ?_ | refine And.intro rfl ?_)
        refine And.intro (show (m : Int) ≠ 0 by omega) ?_
        repeat (first | refine gT ?_ | refine gF ?_ | refine brT ?_ | refine brF ?_ | refine And.intro rfl ?_)
        refine hP' (m, n % m) _ (le_by ⟨rfl, rfl, int_eq (show Int.tmod (n : Int) (m : Int) = ((n % m : Nat) : Int) by rw [Int.ofNat_tmod]), trivial⟩ ⟨rfl, trivial⟩ (Nat.le_refl _)) ⟨hm64, Nat.lt_trans (Nat.mod_lt _ h5') hm64, ?_⟩ (Nat.mod_lt _ h5')
        rw [← hnm]
        show Nat.gcd m (n % m) = Nat.gcd n m
        rw [Nat.gcd_comm n m, Nat.gcd_rec m n, Nat.gcd_comm]
      · clear hP'
        have h5' : m = 0 := by have : ¬ (m : Int) > 0 := h5; omega
        subst h5'
        have hG : n = G := by rw [← hnm, Nat.gcd_zero_right]
        subst hG
        refine And.intro (by decide) ?_
        refine Hn_by (And.intro (Nat.le_refl 2) (Exists.intro _ (And.intro (hres hn64) ?_)))
        exact And.intro (Or.inr rfl) rfl
    · have hx' : ((irows .u32 (Dg.mag (x : Int))).length : Int) > 2 := len_gt2.2 hx64
      have hxG : x = G := by rw [← hg, hy0, Nat.gcd_zero_right]
      subst hxG
      refine br (fun _ => ?_) (fun g => absurd hx' g)
      first | refine Exists.intro _ (And.intro (hbig hxl) ?_) | refine Hn_by (Exists.intro _ (And.intro (hbig hxl) ?_))
      exact And.intro (Or.inr rfl) rfl
end Ab
