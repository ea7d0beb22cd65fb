import Derived.Test.YtbcgkonhkoopnaaGreatXPartsW
/-!
The contracts of right, upper, negated, conjugate.
-/
open Go Go.Proofs
namespace Ab
set_option maxRecDepth 100000
set_option maxHeartbeats 1000000

theorem right_walk (xa xb xc xd : Int) (xw : Bool) (P P' Q Q' R R' S S' U U' V V' : Sp) (s1 : Spec Tryz.prog [] 96 [.int .i64 xa, .int .i64 (mx (mx xc (w64 (0 - xd))) 0)] (.tup [P.av, P'.av])) (s2 : Spec Tryz.prog [] 96 [.int .i64 xb, .int .i64 (mx xd (w64 (0 - xc)))] (.tup [Q.av, Q'.av]))
    (o1 : Spec Tryz.prog [] 96 [.int .i64 xa, .int .i64 xd] (.tup [R.av, R'.av])) (i1 : Spec Tryz.prog [] 96 [.int .i64 xb, .int .i64 xd] (.tup [S.av, S'.av]))
    (o2 : Spec Tryz.prog [] 96 [.int .i64 xa, .int .i64 xc] (.tup [U.av, U'.av])) (i2 : Spec Tryz.prog [] 96 [.int .i64 xb, .int .i64 xc] (.tup [V.av, V'.av])) (r : Bx)
    (h1 : xd ≥ 0 → xc ≤ 0 → r = ⟨P.lo, Q.hi, w64 (0 - U'.hi), R'.hi, false⟩) (h2 : xd ≥ 0 → ¬ xc ≤ 0 → r = ⟨P.lo, Q.hi, V'.lo, R'.hi, false⟩)
    (h3 : ¬ xd ≥ 0 → xc ≤ 0 → r = ⟨P.lo, Q.hi, w64 (0 - U'.hi), w64 (0 - S'.lo), false⟩) (h4 : ¬ xd ≥ 0 → ¬ xc ≤ 0 → r = ⟨P.lo, Q.hi, V'.lo, w64 (0 - S'.lo), false⟩) :
    Spec Tryz.prog [] 48 [bx xa xb xc xd xw] r.av := by
  obtain ⟨P1, P2⟩ := P
  obtain ⟨P1', P2'⟩ := P'
  obtain ⟨Q1, Q2⟩ := Q
  obtain ⟨Q1', Q2'⟩ := Q'
  obtain ⟨R1, R2⟩ := R
  obtain ⟨R1', R2'⟩ := R'
  obtain ⟨S1, S2⟩ := S
  obtain ⟨S1', S2'⟩ := S'
  obtain ⟨U1, U2⟩ := U
  obtain ⟨U1', U2'⟩ := U'
  obtain ⟨V1, V2⟩ := V
  obtain ⟨V1', V2'⟩ := V'
  by_cases hd : xd ≥ 0
  · by_cases hc : xc ≤ 0
    · rw [h1 hd hc]
      refine spec_fn T_ok mixed_ok 2 Tryz.func48 fn_ok48 (by kernel_rfl) ?_
      first | refine Exists.intro _ (And.intro (s1) ?_) | refine Hn_by (Exists.intro _ (And.intro (s1) ?_))
      repeat (first | refine gT ?_ | refine gF ?_ | refine brT ?_ | refine brF ?_ | refine And.intro rfl ?_)
      first | refine Exists.intro _ (And.intro (s2) ?_) | refine Hn_by (Exists.intro _ (And.intro (s2) ?_))
      repeat (first | refine gT ?_ | refine gF ?_ | refine brT ?_ | refine brF ?_ | refine And.intro rfl ?_)
      refine br (fun _ => ?_) (fun h => absurd hd h)
      refine Hn_in Tryz.f97 Tryz.func97 fn_ok97 (by kernel_rfl) ?_
      first | refine Exists.intro _ (And.intro (o1) ?_) | refine Hn_by (Exists.intro _ (And.intro (o1) ?_))
      refine And.intro (Or.inr rfl) ?_
      refine br (fun _ => ?_) (fun h => absurd hc h)
      refine Hn_in Tryz.f97 Tryz.func97 fn_ok97 (by kernel_rfl) ?_
      first | refine Exists.intro _ (And.intro (o2) ?_) | refine Hn_by (Exists.intro _ (And.intro (o2) ?_))
      refine And.intro (Or.inr rfl) ?_
      exact And.intro (Or.inr rfl) rfl
    · rw [h2 hd hc]
      refine spec_fn T_ok mixed_ok 2 Tryz.func48 fn_ok48 (by kernel_rfl) ?_
      first | refine Exists.intro _ (And.intro (s1) ?_) | refine Hn_by (Exists.intro _ (And.intro (s1) ?_))
      repeat (first | refine gT ?_ | refine gF ?_ | refine brT ?_ | refine brF ?_ | refine And.intro rfl ?_)
      first | refine Exists.intro _ (And.intro (s2) ?_) | refine Hn_by (Exists.intro _ (And.intro (s2) ?_))
      repeat (first | refine gT ?_ | refine gF ?_ | refine brT ?_ | refine brF ?_ | refine And.intro rfl ?_)
      refine br (fun _ => ?_) (fun h => absurd hd h)
      refine Hn_in Tryz.f97 Tryz.func97 fn_ok97 (by kernel_rfl) ?_
      first | refine Exists.intro _ (And.intro (o1) ?_) | refine Hn_by (Exists.intro _ (And.intro (o1) ?_))
      refine And.intro (Or.inr rfl) ?_
      refine br (fun h => absurd h hc) (fun _ => ?_)
      refine Hn_in Tryz.f98 Tryz.func98 fn_ok98 (by kernel_rfl) ?_
      first | refine Exists.intro _ (And.intro (i2) ?_) | refine Hn_by (Exists.intro _ (And.intro (i2) ?_))
      refine And.intro (Or.inr rfl) ?_
      exact And.intro (Or.inr rfl) rfl
  · by_cases hc : xc ≤ 0
    · rw [h3 hd hc]
      refine spec_fn T_ok mixed_ok 2 Tryz.func48 fn_ok48 (by kernel_rfl) ?_
      first | refine Exists.intro _ (And.intro (s1) ?_) | refine Hn_by (Exists.intro _ (And.intro (s1) ?_))
      repeat (first | refine gT ?_ | refine gF ?_ | refine brT ?_ | refine brF ?_ | refine And.intro rfl ?_)
      first | refine Exists.intro _ (And.intro (s2) ?_) | refine Hn_by (Exists.intro _ (And.intro (s2) ?_))
      repeat (first | refine gT ?_ | refine gF ?_ | refine brT ?_ | refine brF ?_ | refine And.intro rfl ?_)
      refine br (fun h => absurd h hd) (fun _ => ?_)
      refine Hn_in Tryz.f98 Tryz.func98 fn_ok98 (by kernel_rfl) ?_
      first | refine Exists.intro _ (And.intro (i1) ?_) | refine Hn_by (Exists.intro _ (And.intro (i1) ?_))
      refine And.intro (Or.inr rfl) ?_
      refine br (fun _ => ?_) (fun h => absurd hc h)
      refine Hn_in Tryz.f97 Tryz.func97 fn_ok97 (by kernel_rfl) ?_
      first | refine Exists.intro _ (And.intro (o2) ?_) | refine Hn_by (Exists.intro _ (And.intro (o2) ?_))
      refine And.intro (Or.inr rfl) ?_
      exact And.intro (Or.inr rfl) rfl
    · rw [h4 hd hc]
      refine spec_fn T_ok mixed_ok 2 Tryz.func48 fn_ok48 (by kernel_rfl) ?_
      first | refine Exists.intro _ (And.intro (s1) ?_) | refine Hn_by (Exists.intro _ (And.intro (s1) ?_))
      repeat (first | refine gT ?_ | refine gF ?_ | refine brT ?_ | refine brF ?_ | refine And.intro rfl ?_)
      first | refine Exists.intro _ (And.intro (s2) ?_) | refine Hn_by (Exists.intro _ (And.intro (s2) ?_))
      repeat (first | refine gT ?_ | refine gF ?_ | refine brT ?_ | refine brF ?_ | refine And.intro rfl ?_)
      refine br (fun h => absurd h hd) (fun _ => ?_)
      refine Hn_in Tryz.f98 Tryz.func98 fn_ok98 (by kernel_rfl) ?_
      first | refine Exists.intro _ (And.intro (i1) ?_) | refine Hn_by (Exists.intro _ (And.intro (i1) ?_))
      refine And.intro (Or.inr rfl) ?_
      refine br (fun h => absurd h hc) (fun _ => ?_)
      refine Hn_in Tryz.f98 Tryz.func98 fn_ok98 (by kernel_rfl) ?_
      first | refine Exists.intro _ (And.intro (i2) ?_) | refine Hn_by (Exists.intro _ (And.intro (i2) ?_))
      refine And.intro (Or.inr rfl) ?_
      exact And.intro (Or.inr rfl) rfl

theorem upper_walk (xa xb xc xd : Int) (xw : Bool) (P P' Q Q' R R' S S' : Sp) (s1 : Spec Tryz.prog [] 96 [.int .i64 xa, .int .i64 xc] (.tup [P.av, P'.av])) (s2 : Spec Tryz.prog [] 96 [.int .i64 xb, .int .i64 xd] (.tup [Q.av, Q'.av]))
    (s3 : Spec Tryz.prog [] 96 [.int .i64 xb, .int .i64 xc] (.tup [R.av, R'.av])) (s4 : Spec Tryz.prog [] 96 [.int .i64 xa, .int .i64 xd] (.tup [S.av, S'.av])) :
    Spec Tryz.prog [] 50 [bx xa xb xc xd xw] (Bx.av ⟨P.lo, Q.hi, R'.lo, S'.hi, false⟩) := by
  obtain ⟨P1, P2⟩ := P
  obtain ⟨P1', P2'⟩ := P'
  obtain ⟨Q1, Q2⟩ := Q
  obtain ⟨Q1', Q2'⟩ := Q'
  obtain ⟨R1, R2⟩ := R
  obtain ⟨R1', R2'⟩ := R'
  obtain ⟨S1, S2⟩ := S
  obtain ⟨S1', S2'⟩ := S'
  refine spec_fn T_ok mixed_ok 1 Tryz.func50 fn_ok50 (by kernel_rfl) ?_
  first | refine Exists.intro _ (And.intro (s1) ?_) | refine Hn_by (Exists.intro _ (And.intro (s1) ?_))
  first | refine Exists.intro _ (And.intro (s2) ?_) | refine Hn_by (Exists.intro _ (And.intro (s2) ?_))
  first | refine Exists.intro _ (And.intro (s3) ?_) | refine Hn_by (Exists.intro _ (And.intro (s3) ?_))
  first | refine Exists.intro _ (And.intro (s4) ?_) | refine Hn_by (Exists.intro _ (And.intro (s4) ?_))
  exact And.intro (Or.inr rfl) rfl

theorem negated_spec (xa xb xc xd : Int) (xw : Bool) : Spec Tryz.prog [] 49 [bx xa xb xc xd xw] (bx (w64 (0 - xb)) (w64 (0 - xa)) (w64 (0 - xd)) (w64 (0 - xc)) false) := by
  refine spec_fn T_ok mixed_ok 1 Tryz.func49 fn_ok49 (by kernel_rfl) ?_
  exact And.intro (Or.inr rfl) rfl
theorem conj_spec (xa xb xc xd : Int) (xw : Bool) : Spec Tryz.prog [] 51 [bx xa xb xc xd xw] (bx xa xb (w64 (0 - xd)) (w64 (0 - xc)) false) := by
  refine spec_fn T_ok mixed_ok 1 Tryz.func51 fn_ok51 (by kernel_rfl) ?_
  exact And.intro (Or.inr rfl) rfl
end Ab
