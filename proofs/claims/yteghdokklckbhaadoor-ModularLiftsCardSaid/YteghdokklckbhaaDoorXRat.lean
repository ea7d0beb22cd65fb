import Derived.Test.YteghdokklckbhaaDoorXGcd
/-!
The contracts of package rational: Valid, Of.
-/
open Go Go.Proofs
namespace Ab
set_option maxRecDepth 100000
set_option maxHeartbeats 1000000

/-- a rational number -/
abbrev mkQ (nn : Bool) (nl : List Int) (dn : Bool) (dl : List Int) : AV := .agg [.bool nn, lim nl, .bool dn, lim dl]
abbrev mkR (n d : Int) : AV := mkQ (decide (n < 0)) (Dg.mag (az n)) (decide (d < 0)) (Dg.mag (az d))

theorem zero_ans (l : List Int) : ((((irows .u32 l).length : Int)) == 0) = decide (l = []) := by
  rw [irows_len]
  cases l with
  | nil => rfl
  | cons x l =>
    rw [decide_eq_false (by simp)]
    simp only [List.length_cons, beq_eq_false_iff_ne]
    omega
theorem qzero_spec (gl : List (Nat × AV)) (neg : Bool) (l : List Int) : Spec Tryd.prog gl 53 [mkI neg l] (.bool (decide (l = []))) := by
  refine spec_fn T_ok mixed_ok 0 Tryd.func53 fn_ok53 (by kernel_rfl) ?_
  exact And.intro (Or.inr rfl) (congrArg AV.bool (zero_ans l))
theorem one_ans (x : Int) : (x == 1) = decide ([x] = [1]) := by
  by_cases h : x = 1
  · subst h; rfl
  · rw [decide_eq_false (by simpa using h)]
    simpa using h
theorem qone_spec (gl : List (Nat × AV)) (neg : Bool) (l : List Int) : Spec Tryd.prog gl 61 [mkI neg l] (.bool (bif neg then false else decide (l = [1]))) := by
  cases neg with
  | true =>
    refine spec_fn T_ok mixed_ok 0 Tryd.func61 fn_ok61 (by kernel_rfl) ?_
    repeat (first | refine gT ?_ | refine gF ?_ | refine brT ?_ | refine brF ?_)
    exact And.intro (Or.inr rfl) rfl
  | false =>
    match l with
    | [] =>
      refine spec_fn T_ok mixed_ok 0 Tryd.func61 fn_ok61 (by kernel_rfl) ?_
      repeat (first | refine gT ?_ | refine gF ?_ | refine brT ?_ | refine brF ?_)
      exact And.intro (Or.inr rfl) rfl
    | [x] =>
      refine spec_fn T_ok mixed_ok 0 Tryd.func61 fn_ok61 (by kernel_rfl) ?_
      repeat (first | refine gT ?_ | refine gF ?_ | refine brT ?_ | refine brF ?_)
      refine And.intro (by decide) (Exists.intro _ (And.intro rfl ?_))
      repeat (first | refine gT ?_ | refine gF ?_ | refine brT ?_ | refine brF ?_)
      exact And.intro (Or.inr rfl) (congrArg AV.bool (one_ans x))
    | x :: y :: l =>
      have e : decide (x :: y :: l = [1]) = false := decide_eq_false (by simp)
      rw [e]
      refine spec_fn T_ok mixed_ok 0 Tryd.func61 fn_ok61 (by kernel_rfl) ?_
      repeat (first | refine gT ?_ | refine gF ?_ | refine brT ?_ | refine brF ?_)
      exact And.intro (Or.inr rfl) rfl

theorem ratvalid_walk (gl : List (Nat × AV)) {nn : Bool} {nl dl g : List Int} {b : Bool} (s1 : Spec Tryd.prog gl 57 [mkI nn nl] (.bool true)) (s2 : Spec Tryd.prog gl 57 [mkI false dl] (.bool true)) (s3 : Spec Tryd.prog gl 53 [mkI false dl] (.bool false))
    (s4 : Spec Tryd.prog gl 61 [mkI false dl] (.bool b)) (s5 : Spec Tryd.prog gl 62 [mkI nn nl, mkI false dl] (.tup [mkI false g, .int .i64 0])) (s6 : Spec Tryd.prog gl 61 [mkI false g] (.bool true)) :
    Spec Tryd.prog gl 37 [mkQ nn nl false dl] (.bool true) := by
  cases b with
  | true =>
    refine spec_fn T_ok mixed_ok 1 Tryd.func37 fn_ok37 (by kernel_rfl) ?_
    first | refine Exists.intro _ (And.intro (s1) ?_) | refine Hn_by (Exists.intro _ (And.intro (s1) ?_))
    repeat (first | refine gT ?_ | refine gF ?_ | refine brT ?_ | refine brF ?_)
    first | refine Exists.intro _ (And.intro (s2) ?_) | refine Hn_by (Exists.intro _ (And.intro (s2) ?_))
    repeat (first | refine gT ?_ | refine gF ?_ | refine brT ?_ | refine brF ?_)
    first | refine Exists.intro _ (And.intro (s3) ?_) | refine Hn_by (Exists.intro _ (And.intro (s3) ?_))
    repeat (first | refine gT ?_ | refine gF ?_ | refine brT ?_ | refine brF ?_)
    first | refine Exists.intro _ (And.intro (s4) ?_) | refine Hn_by (Exists.intro _ (And.intro (s4) ?_))
    repeat (first | refine gT ?_ | refine gF ?_ | refine brT ?_ | refine brF ?_)
    exact And.intro (Or.inr rfl) rfl
  | false =>
    refine spec_fn T_ok mixed_ok 1 Tryd.func37 fn_ok37 (by kernel_rfl) ?_
    first | refine Exists.intro _ (And.intro (s1) ?_) | refine Hn_by (Exists.intro _ (And.intro (s1) ?_))
    repeat (first | refine gT ?_ | refine gF ?_ | refine brT ?_ | refine brF ?_)
    first | refine Exists.intro _ (And.intro (s2) ?_) | refine Hn_by (Exists.intro _ (And.intro (s2) ?_))
    repeat (first | refine gT ?_ | refine gF ?_ | refine brT ?_ | refine brF ?_)
    first | refine Exists.intro _ (And.intro (s3) ?_) | refine Hn_by (Exists.intro _ (And.intro (s3) ?_))
    repeat (first | refine gT ?_ | refine gF ?_ | refine brT ?_ | refine brF ?_)
    first | refine Exists.intro _ (And.intro (s4) ?_) | refine Hn_by (Exists.intro _ (And.intro (s4) ?_))
    repeat (first | refine gT ?_ | refine gF ?_ | refine brT ?_ | refine brF ?_)
    first | refine Exists.intro _ (And.intro (s5) ?_) | refine Hn_by (Exists.intro _ (And.intro (s5) ?_))
    repeat (first | refine gT ?_ | refine gF ?_ | refine brT ?_ | refine brF ?_)
    first | refine Exists.intro _ (And.intro (s6) ?_) | refine Hn_by (Exists.intro _ (And.intro (s6) ?_))
    repeat (first | refine gT ?_ | refine gF ?_ | refine brT ?_ | refine brF ?_)
    exact And.intro (Or.inr rfl) rfl
theorem reduceq_walk (gl : List (Nat × AV)) {nn n2 : Bool} {nl dl g nl2 dl2 m1 m2 : List Int} {b b1 b2 : Bool} (s5 : Spec Tryd.prog gl 62 [mkI nn nl, mkI false dl] (.tup [mkI false g, .int .i64 0])) (s6 : Spec Tryd.prog gl 61 [mkI false g] (.bool b))
    (h1 : b = true → n2 = nn ∧ nl2 = nl ∧ dl2 = dl) (h2 : b = false → Spec Tryd.prog gl 76 [mkI nn nl, mkI false g] (.tup [mkI n2 nl2, mkI b1 m1, .int .i64 0]) ∧ Spec Tryd.prog gl 76 [mkI false dl, mkI false g] (.tup [mkI false dl2, mkI b2 m2, .int .i64 0])) :
    Spec Tryd.prog gl 58 [mkI nn nl, mkI false dl] (mkQ n2 nl2 false dl2) := by
  cases b with
  | true =>
    obtain ⟨rfl, rfl, rfl⟩ := h1 rfl
    refine spec_fn T_ok mixed_ok 1 Tryd.func58 fn_ok58 (by kernel_rfl) ?_
    repeat (first | refine gT ?_ | refine gF ?_ | refine brT ?_ | refine brF ?_)
    first | refine Exists.intro _ (And.intro (s5) ?_) | refine Hn_by (Exists.intro _ (And.intro (s5) ?_))
    repeat (first | refine gT ?_ | refine gF ?_ | refine brT ?_ | refine brF ?_)
    first | refine Exists.intro _ (And.intro (s6) ?_) | refine Hn_by (Exists.intro _ (And.intro (s6) ?_))
    repeat (first | refine gT ?_ | refine gF ?_ | refine brT ?_ | refine brF ?_)
    exact And.intro (Or.inr rfl) rfl
  | false =>
    obtain ⟨d1, d2⟩ := h2 rfl
    refine spec_fn T_ok mixed_ok 1 Tryd.func58 fn_ok58 (by kernel_rfl) ?_
    repeat (first | refine gT ?_ | refine gF ?_ | refine brT ?_ | refine brF ?_)
    first | refine Exists.intro _ (And.intro (s5) ?_) | refine Hn_by (Exists.intro _ (And.intro (s5) ?_))
    repeat (first | refine gT ?_ | refine gF ?_ | refine brT ?_ | refine brF ?_)
    first | refine Exists.intro _ (And.intro (s6) ?_) | refine Hn_by (Exists.intro _ (And.intro (s6) ?_))
    repeat (first | refine gT ?_ | refine gF ?_ | refine brT ?_ | refine brF ?_)
    first | refine Exists.intro _ (And.intro (d1) ?_) | refine Hn_by (Exists.intro _ (And.intro (d1) ?_))
    repeat (first | refine gT ?_ | refine gF ?_ | refine brT ?_ | refine brF ?_)
    first | refine Exists.intro _ (And.intro (d2) ?_) | refine Hn_by (Exists.intro _ (And.intro (d2) ?_))
    repeat (first | refine gT ?_ | refine gF ?_ | refine brT ?_ | refine brF ?_)
    exact And.intro (Or.inr rfl) rfl
theorem fresh_spec (gl : List (Nat × AV)) (neg : Bool) (l : List Int) (hl : l.length ≤ 1073741824) : Spec Tryd.prog gl 59 [mkI neg l] (mkI neg l) := by
  refine spec_fn T_ok mixed_ok 0 Tryd.func59 fn_ok59 (by kernel_rfl) ?_
  refine And.intro (by kernel_rfl) ?_
  repeat (first | refine gT ?_ | refine gF ?_ | refine brT ?_ | refine brF ?_ | refine And.intro rfl ?_)
  refine And.intro (show (irows .u32 l).length * 4 ≤ 140737488355328 by rw [irows_len]; omega) ?_
  refine And.intro (show (irows .u32 l).length ≤ maxLen by rw [irows_len]; simp only [maxLen]; omega) ?_
  refine And.intro (irows_ok _ _) ?_
  repeat (first | refine gT ?_ | refine gF ?_ | refine brT ?_ | refine brF ?_ | refine And.intro rfl ?_)
  exact And.intro (Or.inr rfl) rfl
theorem make_walk (gl : List (Nat × AV)) {nn n2 d2 : Bool} {nl dl nl2 dl2 : List Int} (v1 : Spec Tryd.prog gl 57 [mkI nn nl] (.bool true)) (v2 : Spec Tryd.prog gl 57 [mkI false dl] (.bool true)) (z : Spec Tryd.prog gl 53 [mkI false dl] (.bool false))
    (rd : Spec Tryd.prog gl 58 [mkI nn nl, mkI false dl] (mkQ n2 nl2 d2 dl2)) (f1 : Spec Tryd.prog gl 59 [mkI n2 nl2] (mkI n2 nl2)) (f2 : Spec Tryd.prog gl 59 [mkI d2 dl2] (mkI d2 dl2)) :
    Spec Tryd.prog gl 35 [mkI nn nl, mkI false dl] (.tup [mkQ n2 nl2 d2 dl2, .int .i64 0]) := by
  refine spec_fn T_ok mixed_ok 1 Tryd.func35 fn_ok35 (by kernel_rfl) ?_
  first | refine Exists.intro _ (And.intro (v1) ?_) | refine Hn_by (Exists.intro _ (And.intro (v1) ?_))
  repeat (first | refine gT ?_ | refine gF ?_ | refine brT ?_ | refine brF ?_)
  first | refine Exists.intro _ (And.intro (v2) ?_) | refine Hn_by (Exists.intro _ (And.intro (v2) ?_))
  repeat (first | refine gT ?_ | refine gF ?_ | refine brT ?_ | refine brF ?_)
  first | refine Exists.intro _ (And.intro (z) ?_) | refine Hn_by (Exists.intro _ (And.intro (z) ?_))
  repeat (first | refine gT ?_ | refine gF ?_ | refine brT ?_ | refine brF ?_)
  first | refine Exists.intro _ (And.intro (rd) ?_) | refine Hn_by (Exists.intro _ (And.intro (rd) ?_))
  refine And.intro (by kernel_rfl) ?_
  repeat (first | refine gT ?_ | refine gF ?_ | refine brT ?_ | refine brF ?_ | refine And.intro rfl ?_)
  first | refine Exists.intro _ (And.intro (f1) ?_) | refine Hn_by (Exists.intro _ (And.intro (f1) ?_))
  repeat (first | refine gT ?_ | refine gF ?_ | refine brT ?_ | refine brF ?_ | refine And.intro rfl ?_)
  first | refine Exists.intro _ (And.intro (f2) ?_) | refine Hn_by (Exists.intro _ (And.intro (f2) ?_))
  repeat (first | refine gT ?_ | refine gF ?_ | refine brT ?_ | refine brF ?_ | refine And.intro rfl ?_)
  exact And.intro (Or.inr rfl) rfl
theorem of_walk (gl : List (Nat × AV)) {n d : Int} {nn n2 d2 : Bool} {nl dl nl2 dl2 : List Int} (o1 : Spec Tryd.prog gl 36 [.int .i64 n] (mkI nn nl)) (o2 : Spec Tryd.prog gl 36 [.int .i64 d] (mkI false dl)) (m : Spec Tryd.prog gl 35 [mkI nn nl, mkI false dl] (.tup [mkQ n2 nl2 d2 dl2, .int .i64 0])) :
    Spec Tryd.prog gl 15 [.int .i64 n, .int .i64 d] (.tup [mkQ n2 nl2 d2 dl2, .int .i64 0]) := by
  refine spec_fn T_ok mixed_ok 1 Tryd.func15 fn_ok15 (by kernel_rfl) ?_
  first | refine Exists.intro _ (And.intro (o1) ?_) | refine Hn_by (Exists.intro _ (And.intro (o1) ?_))
  first | refine Exists.intro _ (And.intro (o2) ?_) | refine Hn_by (Exists.intro _ (And.intro (o2) ?_))
  first | refine Exists.intro _ (And.intro (m) ?_) | refine Hn_by (Exists.intro _ (And.intro (m) ?_))
  exact And.intro (Or.inr rfl) rfl

theorem mag_one : Dg.mag 1 = [1] := by
  have h : Dg.D [1] := Dg.D.cons.2 ⟨by decide, Dg.D.nil⟩
  have := Dg.mag_of h (fun x hx => by
    have : x = 1 := by simpa using hx.symm
    omega)
  rw [this]
  congr 1
theorem mag_is_one {g : Int} (h : 0 ≤ g) : Dg.mag g = [1] ↔ g = 1 := by
  constructor
  · intro e
    have := Dg.magV h
    rw [e] at this
    simpa [Dg.val] using this.symm
  · intro e; rw [e, mag_one]
theorem gcd_pos {n d : Int} (h : 0 < d) : 0 < (Int.gcd n d : Int) := by
  have := Int.gcd_pos_of_ne_zero_right n (show d ≠ 0 by omega)
  omega
theorem gcd_le {n d : Int} (h : 0 < d) : (Int.gcd n d : Int) ≤ d := Int.le_of_dvd h (Int.gcd_dvd_right n d)
theorem fits_gcd {n d : Int} (h : 0 < d) (hd : Fits d) : Fits (Int.gcd n d : Int) := fits_le (by
  have := gcd_le (n := n) h
  have := gcd_pos (n := n) h
  unfold az; omega) hd
theorem az_pos {d : Int} (h : 0 < d) : az d = d := fits_nn (by omega)
theorem mkR_pos {n d : Int} (h : 0 < d) : mkR n d = mkQ (decide (n < 0)) (Dg.mag (az n)) false (Dg.mag d) := by
  unfold mkR
  rw [az_pos h, decide_eq_false (show ¬ d < 0 by omega)]

theorem ratvalid_int (gl : List (Nat × AV)) {n d : Int} (hn : Fits n) (hd : Fits d) (h : 0 < d) (hg : Int.gcd n d = 1) : Spec Tryd.prog gl 37 [mkR n d] (.bool true) := by
  have s1 := valid_int gl hn
  have s2 := valid_int gl hd
  have s5 := gcd_int gl hn hd
  rw [hg, mkZ_nn (Int.natCast_nonneg 1), show ((1 : Nat) : Int) = 1 from rfl, mag_one] at s5
  rw [mkZ_nn (a := d) (by omega)] at s2 s5
  have s3 := qzero_spec gl false (Dg.mag d)
  rw [decide_eq_false (fun e => by have := (mag_nil (n := d) (by omega)).1 e; omega)] at s3
  rw [mkR_pos h]
  exact ratvalid_walk gl s1 s2 s3 (qone_spec gl false _) s5 (qone_spec gl false [1])
theorem reduceq_int (gl : List (Nat × AV)) {n d : Int} (hn : Fits n) (hd : Fits d) (h : 0 < d) : Spec Tryd.prog gl 58 [mkZ n, mkZ d] (mkR (n / Int.gcd n d) (d / Int.gcd n d)) := by
  have s5 := gcd_int gl hn hd
  have g0 := gcd_pos (n := n) h
  have g1 := gcd_le (n := n) h
  have fg := fits_gcd (n := n) h hd
  have dv := Int.gcd_dvd_right n d
  generalize (Int.gcd n d : Int) = g at *
  have d1 := divmod_int gl hn fg g0
  have d2 := divmod_int gl hd fg g0
  have q0 : 0 < d / g := Int.ediv_pos_of_pos_of_dvd h (by omega) dv
  rw [mkZ_nn (a := g) (by omega)] at s5 d1 d2
  rw [mkZ_nn (a := d) (by omega)] at s5 d2 ⊢
  rw [mkZ_nn (a := d / g) (by omega)] at d2
  rw [mkR_pos q0]
  refine reduceq_walk gl s5 (qone_spec gl false _) (fun e => ?_) (fun _ => ⟨d1, d2⟩)
  have e' : g = 1 := (mag_is_one (by omega)).1 (of_decide_eq_true e)
  rw [e', Int.ediv_one, Int.ediv_one]
  exact ⟨rfl, rfl, rfl⟩
theorem fits_i64 {n : Int} (h0 : -9223372036854775808 ≤ n) (h1 : n ≤ 9223372036854775807) : Fits n := fits_lt (by
  have := two_pow_B (n := 64) (k := 128) (by decide)
  have e : (2 : Int) ^ 64 = 18446744073709551616 := by decide
  rw [e] at this
  unfold az; omega)
theorem quo_fits {n g : Int} (h : 0 < g) (hn : Fits n) : Fits (n / g) := fits_le (quo_abs h) hn
theorem ratof_int (gl : List (Nat × AV)) {n d : Int} (h0 : -9223372036854775808 ≤ n) (h1 : n ≤ 9223372036854775807) (h2 : 0 < d) (h3 : d ≤ 9223372036854775807) : Spec Tryd.prog gl 15 [.int .i64 n, .int .i64 d] (.tup [mkR (n / Int.gcd n d) (d / Int.gcd n d), .int .i64 0]) := by
  have hn := fits_i64 h0 h1
  have hd := fits_i64 (n := d) (by omega) h3
  have o1 := Of_spec gl n h0 h1
  have o2 := Of_spec gl d (by omega) h3
  have v1 := valid_int gl hn
  have v2 := valid_int gl hd
  have rd := reduceq_int gl hn hd h2
  have g0 := gcd_pos (n := n) h2
  have dv := Int.gcd_dvd_right n d
  generalize (Int.gcd n d : Int) = g at *
  have q0 : 0 < d / g := Int.ediv_pos_of_pos_of_dvd h2 (by omega) dv
  have f1 := fresh_spec gl (decide (n / g < 0)) (Dg.mag (az (n / g))) (Nat.le_trans (quo_fits g0 hn) (by decide))
  have f2 := fresh_spec gl (decide (d / g < 0)) (Dg.mag (az (d / g))) (Nat.le_trans (quo_fits g0 hd) (by decide))
  have s3 := qzero_spec gl false (Dg.mag d)
  rw [decide_eq_false (fun e => by have := (mag_nil (n := d) (by omega)).1 e; omega)] at s3
  rw [mkZ_nn (a := d) (by omega)] at o2 v2 rd
  exact of_walk gl o1 o2 (make_walk gl v1 v2 s3 rd f1 f2)
end Ab
